/- What the functions that the law reaches compute, and the walks that show it. -/
import Derived.Test.YtcejhnpncodkjaaGreatDoorEngU
import Derived.Test.YtcejhnpncodkjaaGreatDoorShelf
import Derived.Test.YtcejhnpncodkjaaGreatDoorEngQ
import Derived.Test.YtcejhnpncodkjaaGreatDoorEngY
import Derived.Test.YtcejhnpncodkjaaGreatDoorProg
import Derived.Test.YtcejhnpncodkjaaGreatDoorGenCommunityRowsP0
set_option linter.unusedVariables false
set_option linter.unusedSimpArgs false
namespace Go.E
open Go.RowKit Go.Proofs
def addr_gap.l1 (a0 : List Int) (x12 : Int) : Nat → Int → Option (Int)
  | 0, _ => none
  | kk + 1, x22 => ((if (decide ((IntKind.i64.wrap (x12 + x22)) < (8 : Int))) = true then (if 0 ≤ (IntKind.i64.wrap (x12 + x22)) ∧ (IntKind.i64.wrap (x12 + x22)) < (8 : Int) then some ((ar a0 (Int.toNat (IntKind.i64.wrap (x12 + x22)))) == (0 : Int) : Bool) else none) else some (false : Bool))).bind fun s27 => (if s27 = true then addr_gap.l1 a0 x12 kk (IntKind.i64.wrap (x22 + (1 : Int))) else some (x22 : Int))
def addr_gap.l0 (k : Nat) (a0 : List Int) : Nat → Int → Int → Int → Option (Int × Int)
  | 0, _, _, _ => none
  | kk + 1, x10, x11, x12 => (if (decide (x12 < (8 : Int))) = true then (addr_gap.l1 a0 x12 k (0 : Int)).bind fun s21 => (if (decide (s21 > x11)) = true then addr_gap.l0 k a0 kk x12 s21 (IntKind.i64.wrap (x12 + (1 : Int))) else addr_gap.l0 k a0 kk x10 x11 (IntKind.i64.wrap (x12 + (1 : Int)))) else some ((x10 : Int), (x11 : Int)))
def addr_gap.f (k : Nat) (a0 : List Int) : Option (Int × Int) := (addr_gap.l0 k a0 k (0 : Int) (0 : Int) (0 : Int)).bind fun s9 => some ((s9.1 : Int), (s9.2 : Int))
set_option maxRecDepth 100000 in
theorem addr_gap.walk (w : World) (M : List Nat) (hM : MS M w) (a0 : List Int) (k : Nat) (r : Int × Int) (H : addr_gap.f k a0 = some r) :
    To Tryz.prog 135 [.agg (cA .i64 8 a0).toArray] w fun v w' => v = .tuple #[.int .i64 r.1, .int .i64 r.2] ∧ Chg [] w w' ∧ MS (M) w' := by
 unfold addr_gap.f at H
 refine ent Tryz.func135 rfl [(0, .agg (cA .i64 8 a0).toArray)] rfl (by rfl) fun a ha => ?_
 have hC : Chg [] w w := Chg.refl _ _
 refine wp_seq_k fun K1 hK1 => ?_
 refine wp_region_lit ?_
 refine bx (cs := (cA .i64 8 a0)) ha rfl rfl rfl rfl rfl fun a w2 g3 hN4 ha => ?_
 have hn6 := hN4.notin hM
 have hM : MS (M) w2 := (hM.chg hN4.chg)
 have hC := hC.trans hN4.chg (Ok.nil _ _)
 have hE5 : ∀ j v, (cA .i64 8 a0)[j]? = some v → w2.cell? ⟨g3, 0 + j, none⟩ = some v := Box.cells (New.box hN4)
 refine seg ha 2 [(1, .pointer (some ⟨g3, 0, none⟩)), (2, .int .i64 (0 : Int)), (3, .int .i64 (0 : Int))] (by kernel_rfl) fun a ha => ?_
 refine hK1 _ _ ?_; try clear hK1 K1
 refine wp_seq_k fun K7 hK7 => ?_
 refine wp_seq_k fun K8 hK8 => ?_
 refine wp_region_lit ?_
 refine seg ha 1 [(1, .pointer (some ⟨g3, 0, none⟩)), (2, .int .i64 (0 : Int)), (3, .int .i64 (0 : Int)), (6, .int .i64 (0 : Int))] (by kernel_rfl) fun a ha => ?_
 refine hK8 _ _ ?_; try clear hK8 K8
 refine wp_block ?_
 obtain ⟨s9, H9, H⟩ := bind_some H
 have J9 : ∀ (a : Act) (wx9 : World), Has a Tryz.f135.ntmps [(2, .int .i64 s9.1), (3, .int .i64 s9.2)] → (Chg [] w wx9) → (MS (M) wx9) → K7 a wx9 := by
  intro a wx9 ha hC hM
  refine hK7 _ _ ?_; try clear hK7 K7
  refine wp_seq_k fun K13 hK13 => ?_
  refine wp_region_lit ?_
  refine seg ha 4 [(2, .int .i64 s9.1), (3, .int .i64 s9.2)] (by kernel_rfl) fun a ha => ?_
  refine hK13 _ _ ?_; try clear hK13 K13
  refine wp_ret ?_
  try simp only [Exit.then, Exit.inBlock]
  obtain rfl := Option.some.inj H
  refine rt2 ha rfl rfl rfl ?_
  exact ⟨rfl, hC, hM⟩
 have Hc9 := H
 have H := H9
 refine wp_loop_ghost (fun kk a w9 => ∃ (x10 : Int) (x11 : Int) (x12 : Int), addr_gap.l0 k a0 kk x10 x11 x12 = some s9 ∧ Has a Tryz.f135.ntmps [(1, .pointer (some ⟨g3, 0, none⟩)), (2, .int .i64 x10), (3, .int .i64 x11), (6, .int .i64 x12)] ∧ (∀ j v, (cA .i64 8 a0)[j]? = some v → w9.cell? ⟨g3, 0 + j, none⟩ = some v) ∧ (g3 ∉ (M)) ∧ (Chg [] w w9) ∧ (MS (M) w9)) k ?_ ?_
 ·skip
  exact ⟨(0 : Int), (0 : Int), (0 : Int), H, (ha.sel (by kernel_rfl)), hE5, hn6, hC, hM⟩
 ·rintro kk a w9 ⟨x10, x11, x12, H, ha, hE5, hn6, hC, hM⟩
  obtain _ | kk := kk
  ·exact nomatch (show none = some _ from H)
  rw [addr_gap.l0] at H
  refine wp_seq_k fun K14 hK14 => ?_
  refine wp_region_lit ?_
  refine seg ha 1 [(1, .pointer (some ⟨g3, 0, none⟩)), (2, .int .i64 x10), (3, .int .i64 x11), (6, .int .i64 x12), (7, .bool (decide (x12 < (8 : Int))))] (by kernel_rfl) fun a ha => ?_
  refine hK14 _ _ ?_; try clear hK14 K14
  refine wp_seq_k fun K15 hK15 => ?_
  refine cnd ha rfl (fun hc16 => ?_) (fun hc16 => ?_)
  ·have H := ite_t hc16 H
   refine wp_skip ?_
   refine hK15 _ _ ?_; try clear hK15 K15
   refine wp_seq_k fun K17 hK17 => ?_
   refine wp_block ?_
   refine wp_seq_k fun K18 hK18 => ?_
   refine wp_region_lit ?_
   refine seg ha 2 [(1, .pointer (some ⟨g3, 0, none⟩)), (2, .int .i64 x10), (3, .int .i64 x11), (4, .int .i64 x12), (6, .int .i64 x12)] (by kernel_rfl) fun a ha => ?_
   refine hK18 _ _ ?_; try clear hK18 K18
   refine wp_seq_k fun K19 hK19 => ?_
   refine wp_region_lit ?_
   refine seg ha 1 [(1, .pointer (some ⟨g3, 0, none⟩)), (2, .int .i64 x10), (3, .int .i64 x11), (4, .int .i64 x12), (5, .int .i64 (0 : Int)), (6, .int .i64 x12)] (by kernel_rfl) fun a ha => ?_
   refine hK19 _ _ ?_; try clear hK19 K19
   refine wp_seq_k fun K20 hK20 => ?_
   refine wp_block ?_
   obtain ⟨s21, H21, H⟩ := bind_some H
   have J21 : ∀ (a : Act) (wx21 : World), Has a Tryz.f135.ntmps [(1, .pointer (some ⟨g3, 0, none⟩)), (2, .int .i64 x10), (3, .int .i64 x11), (4, .int .i64 x12), (5, .int .i64 s21), (6, .int .i64 x12)] → (∀ j v, (cA .i64 8 a0)[j]? = some v → wx21.cell? ⟨g3, 0 + j, none⟩ = some v) → (g3 ∉ (M)) → (Chg [] w wx21) → (MS (M) wx21) → K20 a wx21 := by
    intro a wx21 ha hE5 hn6 hC hM
    refine hK20 _ _ ?_; try clear hK20 K20
    refine wp_seq_k fun K23 hK23 => ?_
    refine wp_region_lit ?_
    refine seg ha 3 [(1, .pointer (some ⟨g3, 0, none⟩)), (2, .int .i64 x10), (3, .int .i64 x11), (4, .int .i64 x12), (5, .int .i64 s21), (6, .int .i64 x12), (25, .bool (decide (s21 > x11)))] (by kernel_rfl) fun a ha => ?_
    refine hK23 _ _ ?_; try clear hK23 K23
    refine cnd ha rfl (fun hc24 => ?_) (fun hc24 => ?_)
    ·have H := ite_t hc24 H
     refine wp_region_lit ?_
     refine seg ha 4 [(1, .pointer (some ⟨g3, 0, none⟩)), (2, .int .i64 x12), (3, .int .i64 s21), (6, .int .i64 x12)] (by kernel_rfl) fun a ha => ?_
     refine hK17 _ _ ?_; try clear hK17 K17
     refine wp_region_lit ?_
     refine seg ha 2 [(1, .pointer (some ⟨g3, 0, none⟩)), (2, .int .i64 x12), (3, .int .i64 s21), (6, .int .i64 (IntKind.i64.wrap (x12 + (1 : Int))))] (by kernel_rfl) fun a ha => ?_
     exact ⟨kk, Nat.lt_succ_self _, ⟨x12, s21, IntKind.i64.wrap (x12 + (1 : Int)), H, (ha.sel (by kernel_rfl)), hE5, hn6, hC, hM⟩⟩
    ·have H := ite_f hc24 H
     refine wp_skip ?_
     refine hK17 _ _ ?_; try clear hK17 K17
     refine wp_region_lit ?_
     refine seg ha 2 [(1, .pointer (some ⟨g3, 0, none⟩)), (2, .int .i64 x10), (3, .int .i64 x11), (6, .int .i64 (IntKind.i64.wrap (x12 + (1 : Int))))] (by kernel_rfl) fun a ha => ?_
     exact ⟨kk, Nat.lt_succ_self _, ⟨x10, x11, IntKind.i64.wrap (x12 + (1 : Int)), H, (ha.sel (by kernel_rfl)), hE5, hn6, hC, hM⟩⟩
   have Hc21 := H
   have H := H21
   refine wp_loop_ghost (fun kk a w21 => ∃ (x22 : Int), addr_gap.l1 a0 x12 kk x22 = some s21 ∧ Has a Tryz.f135.ntmps [(1, .pointer (some ⟨g3, 0, none⟩)), (2, .int .i64 x10), (3, .int .i64 x11), (4, .int .i64 x12), (5, .int .i64 x22), (6, .int .i64 x12)] ∧ (∀ j v, (cA .i64 8 a0)[j]? = some v → w21.cell? ⟨g3, 0 + j, none⟩ = some v) ∧ (g3 ∉ (M)) ∧ (Chg [] w w21) ∧ (MS (M) w21)) k ?_ ?_
   ·skip
    exact ⟨(0 : Int), H, (ha.sel (by kernel_rfl)), hE5, hn6, hC, hM⟩
   ·rintro kk a w21 ⟨x22, H, ha, hE5, hn6, hC, hM⟩
    obtain _ | kk := kk
    ·exact nomatch (show none = some _ from H)
    rw [addr_gap.l1] at H
    refine wp_seq_k fun K25 hK25 => ?_
    refine wp_seq_k fun K26 hK26 => ?_
    refine wp_region_lit ?_
    obtain ⟨s27, H27, H⟩ := bind_some H
    have J27 : ∀ (a : Act) (w27 : World), Has a Tryz.f135.ntmps [(1, .pointer (some ⟨g3, 0, none⟩)), (2, .int .i64 x10), (3, .int .i64 x11), (4, .int .i64 x12), (5, .int .i64 x22), (6, .int .i64 x12), (20, .bool s27)] → (∀ j v, (cA .i64 8 a0)[j]? = some v → w27.cell? ⟨g3, 0 + j, none⟩ = some v) → (g3 ∉ (M)) → (Chg [] w w27) → (MS (M) w27) → K26 a w27 := by
     intro a w27 ha hE5 hn6 hC hM
     refine hK26 _ _ ?_; try clear hK26 K26
     refine cnd ha rfl (fun hc28 => ?_) (fun hc28 => ?_)
     ·have H := ite_t hc28 H
      refine wp_skip ?_
      refine hK25 _ _ ?_; try clear hK25 K25
      refine wp_block ?_
      refine wp_region_lit ?_
      refine seg ha 3 [(1, .pointer (some ⟨g3, 0, none⟩)), (2, .int .i64 x10), (3, .int .i64 x11), (4, .int .i64 x12), (5, .int .i64 (IntKind.i64.wrap (x22 + (1 : Int)))), (6, .int .i64 x12)] (by kernel_rfl) fun a ha => ?_
      exact ⟨kk, Nat.lt_succ_self _, ⟨IntKind.i64.wrap (x22 + (1 : Int)), H, (ha.sel (by kernel_rfl)), hE5, hn6, hC, hM⟩⟩
     ·have H := ite_f hc28 H
      refine wp_exit ?_
      simp only [Exit.then, Exit.inBlock, ↓reduceIte, Nat.reduceEqDiff]
      obtain rfl := Option.some.inj H
      exact J21 _ _ (ha.sel (by kernel_rfl)) hE5 hn6 hC hM
    have H := H27
    refine seg ha 5 [(13, .bool (decide ((IntKind.i64.wrap (x12 + x22)) < (8 : Int)))), (1, .pointer (some ⟨g3, 0, none⟩)), (2, .int .i64 x10), (3, .int .i64 x11), (4, .int .i64 x12), (5, .int .i64 x22), (6, .int .i64 x12)] (by kernel_rfl) fun a ha => ?_
    rcases Bool.eq_false_or_eq_true (decide ((IntKind.i64.wrap (x12 + x22)) < (8 : Int))) with hb29 | hb29
    ·have ha := ha.lit hb29
     have H := ite_t hb29 H
     refine sgh ha 3 [2, 2, 2] [(1, .pointer (some ⟨g3, 0, none⟩)), (2, .int .i64 x10), (3, .int .i64 x11), (4, .int .i64 x12), (5, .int .i64 x22), (6, .int .i64 x12), (13, .bool true), (16, .int .i64 (IntKind.i64.wrap (x12 + x22)))] (by kernel_rfl) fun a ha => ?_
     obtain ⟨⟨hx30, hx30'⟩, H⟩ := ite_some H
     have hE30 : ∀ j v, ([.int .i64 (ar a0 (Int.toNat (IntKind.i64.wrap (x12 + x22))))] : List Value)[j]? = some v → w21.cell? ⟨g3, (0 + 0 + (Int.toNat (IntKind.i64.wrap (x12 + x22)))) + j, none⟩ = some v := cellA (m := 8) [] [] hE5 (by kernel_rfl) (by omega)
     have hn30 := hn6
     refine hop (v := .pointer (some ⟨g3, (0 + 0 + (Int.toNat (IntKind.i64.wrap (x12 + x22)))), none⟩)) (w' := w21) ha rfl rfl rfl (ixA_run (T := 3) (N := 8) (g := g3) (o' := 0) (k := .i64) (i := IntKind.i64.wrap (x12 + x22)) ha (by kernel_rfl) (by kernel_rfl) (by rfl) (by rfl) hx30 hx30' _) fun a ha => ?_
     refine ld ha rfl (by kernel_rfl) rfl rfl rfl (hE30 0 (.int .i64 (ar a0 (Int.toNat (IntKind.i64.wrap (x12 + x22))))) (by kernel_rfl)) fun a ha => ?_
     refine sgh ha 2 [2, 3] [(1, .pointer (some ⟨g3, 0, none⟩)), (2, .int .i64 x10), (3, .int .i64 x11), (4, .int .i64 x12), (5, .int .i64 x22), (6, .int .i64 x12), (20, .bool ((ar a0 (Int.toNat (IntKind.i64.wrap (x12 + x22)))) == (0 : Int)))] (by kernel_rfl) fun a ha => ?_
     obtain rfl := Option.some.inj H
     exact J27 _ _ (ha.sel (by kernel_rfl)) hE5 hn6 hC hM
    ·have ha := ha.lit hb29
     have H := ite_f hb29 H
     refine sgh ha 7 [1, 1, 1, 1, 1, 1, 4] [(1, .pointer (some ⟨g3, 0, none⟩)), (2, .int .i64 x10), (3, .int .i64 x11), (4, .int .i64 x12), (5, .int .i64 x22), (6, .int .i64 x12), (20, .bool false)] (by kernel_rfl) fun a ha => ?_
     obtain rfl := Option.some.inj H
     exact J27 _ _ (ha.sel (by kernel_rfl)) hE5 hn6 hC hM
  ·have H := ite_f hc16 H
   refine wp_exit ?_
   simp only [Exit.then, Exit.inBlock, ↓reduceIte, Nat.reduceEqDiff]
   obtain rfl := Option.some.inj H
   exact J9 _ _ (ha.sel (by kernel_rfl)) hC hM
def strconv_small.f (a0 : Int) : Option (List UInt8) := (if (decide (a0 < (10 : Int))) = true then (if 0 ≤ a0 ∧ a0 ≤ (IntKind.i64.wrap (a0 + (1 : Int))) ∧ (IntKind.i64.wrap (a0 + (1 : Int))) ≤ (([48, 49, 50, 51, 52, 53, 54, 55, 56, 57, 97, 98, 99, 100, 101, 102, 103, 104, 105, 106, 107, 108, 109, 110, 111, 112, 113, 114, 115, 116, 117, 118, 119, 120, 121, 122] : List UInt8).length : Int) then some ((((([48, 49, 50, 51, 52, 53, 54, 55, 56, 57, 97, 98, 99, 100, 101, 102, 103, 104, 105, 106, 107, 108, 109, 110, 111, 112, 113, 114, 115, 116, 117, 118, 119, 120, 121, 122] : List UInt8).take (Int.toNat (IntKind.i64.wrap (a0 + (1 : Int))))).drop (Int.toNat a0)) : List UInt8)) else none) else (if 0 ≤ (IntKind.i64.wrap (a0 * (2 : Int))) ∧ (IntKind.i64.wrap (a0 * (2 : Int))) ≤ (IntKind.i64.wrap ((IntKind.i64.wrap (a0 * (2 : Int))) + (2 : Int))) ∧ (IntKind.i64.wrap ((IntKind.i64.wrap (a0 * (2 : Int))) + (2 : Int))) ≤ (([48, 48, 48, 49, 48, 50, 48, 51, 48, 52, 48, 53, 48, 54, 48, 55, 48, 56, 48, 57, 49, 48, 49, 49, 49, 50, 49, 51, 49, 52, 49, 53, 49, 54, 49, 55, 49, 56, 49, 57, 50, 48, 50, 49, 50, 50, 50, 51, 50, 52, 50, 53, 50, 54, 50, 55, 50, 56, 50, 57, 51, 48, 51, 49, 51, 50, 51, 51, 51, 52, 51, 53, 51, 54, 51, 55, 51, 56, 51, 57, 52, 48, 52, 49, 52, 50, 52, 51, 52, 52, 52, 53, 52, 54, 52, 55, 52, 56, 52, 57, 53, 48, 53, 49, 53, 50, 53, 51, 53, 52, 53, 53, 53, 54, 53, 55, 53, 56, 53, 57, 54, 48, 54, 49, 54, 50, 54, 51, 54, 52, 54, 53, 54, 54, 54, 55, 54, 56, 54, 57, 55, 48, 55, 49, 55, 50, 55, 51, 55, 52, 55, 53, 55, 54, 55, 55, 55, 56, 55, 57, 56, 48, 56, 49, 56, 50, 56, 51, 56, 52, 56, 53, 56, 54, 56, 55, 56, 56, 56, 57, 57, 48, 57, 49, 57, 50, 57, 51, 57, 52, 57, 53, 57, 54, 57, 55, 57, 56, 57, 57] : List UInt8).length : Int) then some ((((([48, 48, 48, 49, 48, 50, 48, 51, 48, 52, 48, 53, 48, 54, 48, 55, 48, 56, 48, 57, 49, 48, 49, 49, 49, 50, 49, 51, 49, 52, 49, 53, 49, 54, 49, 55, 49, 56, 49, 57, 50, 48, 50, 49, 50, 50, 50, 51, 50, 52, 50, 53, 50, 54, 50, 55, 50, 56, 50, 57, 51, 48, 51, 49, 51, 50, 51, 51, 51, 52, 51, 53, 51, 54, 51, 55, 51, 56, 51, 57, 52, 48, 52, 49, 52, 50, 52, 51, 52, 52, 52, 53, 52, 54, 52, 55, 52, 56, 52, 57, 53, 48, 53, 49, 53, 50, 53, 51, 53, 52, 53, 53, 53, 54, 53, 55, 53, 56, 53, 57, 54, 48, 54, 49, 54, 50, 54, 51, 54, 52, 54, 53, 54, 54, 54, 55, 54, 56, 54, 57, 55, 48, 55, 49, 55, 50, 55, 51, 55, 52, 55, 53, 55, 54, 55, 55, 55, 56, 55, 57, 56, 48, 56, 49, 56, 50, 56, 51, 56, 52, 56, 53, 56, 54, 56, 55, 56, 56, 56, 57, 57, 48, 57, 49, 57, 50, 57, 51, 57, 52, 57, 53, 57, 54, 57, 55, 57, 56, 57, 57] : List UInt8).take (Int.toNat (IntKind.i64.wrap ((IntKind.i64.wrap (a0 * (2 : Int))) + (2 : Int))))).drop (Int.toNat (IntKind.i64.wrap (a0 * (2 : Int))))) : List UInt8)) else none))
set_option maxRecDepth 100000 in
theorem strconv_small.walk (w : World) (M : List Nat) (hM : MS M w) (a0 : Int) (r : List UInt8) (H : strconv_small.f a0 = some r) :
    To Tryz.prog 160 [.int .i64 a0] w fun v w' => v = .string (bstr r) ∧ Chg [] w w' ∧ MS (M) w' := by
 unfold strconv_small.f at H
 refine ent Tryz.func160 rfl [(0, .int .i64 a0)] rfl (by rfl) fun a ha => ?_
 have hC : Chg [] w w := Chg.refl _ _
 refine wp_seq_k fun K1 hK1 => ?_
 refine wp_region_lit ?_
 refine seg ha 1 [(0, .int .i64 a0)] (by kernel_rfl) fun a ha => ?_
 refine hK1 _ _ ?_; try clear hK1 K1
 refine wp_seq_k fun K2 hK2 => ?_
 refine wp_seq_k fun K3 hK3 => ?_
 refine wp_region_lit ?_
 refine seg ha 2 [(0, .int .i64 a0), (4, .bool (decide (a0 < (10 : Int))))] (by kernel_rfl) fun a ha => ?_
 refine hK3 _ _ ?_; try clear hK3 K3
 refine cnd ha rfl (fun hc4 => ?_) (fun hc4 => ?_)
 ·have H := ite_t hc4 H
  refine wp_seq_k fun K5 hK5 => ?_
  refine wp_region_lit ?_
  refine seg ha 3 [(5, .int .i64 a0), (7, .int .i64 (IntKind.i64.wrap (a0 + (1 : Int))))] (by kernel_rfl) fun a ha => ?_
  obtain ⟨⟨hx6, hx6', hx6''⟩, H⟩ := ite_some H
  refine hop (v := .string (bstr ((([48, 49, 50, 51, 52, 53, 54, 55, 56, 57, 97, 98, 99, 100, 101, 102, 103, 104, 105, 106, 107, 108, 109, 110, 111, 112, 113, 114, 115, 116, 117, 118, 119, 120, 121, 122] : List UInt8).take (Int.toNat (IntKind.i64.wrap (a0 + (1 : Int))))).drop (Int.toNat a0)))) (w' := w) ha rfl rfl rfl (ssl_run (s := ([48, 49, 50, 51, 52, 53, 54, 55, 56, 57, 97, 98, 99, 100, 101, 102, 103, 104, 105, 106, 107, 108, 109, 110, 111, 112, 113, 114, 115, 116, 117, 118, 119, 120, 121, 122] : List UInt8)) (l := a0) (h := (IntKind.i64.wrap (a0 + (1 : Int)))) ha (by kernel_rfl) (by rfl) (by rfl) (by rfl) hx6 hx6' hx6'' _) fun a ha => ?_
  refine seg ha 1 [(2, .string (bstr ((([48, 49, 50, 51, 52, 53, 54, 55, 56, 57, 97, 98, 99, 100, 101, 102, 103, 104, 105, 106, 107, 108, 109, 110, 111, 112, 113, 114, 115, 116, 117, 118, 119, 120, 121, 122] : List UInt8).take (Int.toNat (IntKind.i64.wrap (a0 + (1 : Int))))).drop (Int.toNat a0))))] (by kernel_rfl) fun a ha => ?_
  refine hK5 _ _ ?_; try clear hK5 K5
  refine wp_ret ?_
  try simp only [Exit.then, Exit.inBlock]
  obtain rfl := Option.some.inj H
  refine rt1 ha rfl rfl ?_
  exact ⟨rfl, hC, hM⟩
 ·have H := ite_f hc4 H
  refine wp_skip ?_
  refine hK2 _ _ ?_; try clear hK2 K2
  refine wp_seq_k fun K7 hK7 => ?_
  refine wp_region_lit ?_
  refine seg ha 5 [(10, .int .i64 (IntKind.i64.wrap (a0 * (2 : Int)))), (13, .int .i64 (IntKind.i64.wrap ((IntKind.i64.wrap (a0 * (2 : Int))) + (2 : Int))))] (by kernel_rfl) fun a ha => ?_
  obtain ⟨⟨hx8, hx8', hx8''⟩, H⟩ := ite_some H
  refine hop (v := .string (bstr ((([48, 48, 48, 49, 48, 50, 48, 51, 48, 52, 48, 53, 48, 54, 48, 55, 48, 56, 48, 57, 49, 48, 49, 49, 49, 50, 49, 51, 49, 52, 49, 53, 49, 54, 49, 55, 49, 56, 49, 57, 50, 48, 50, 49, 50, 50, 50, 51, 50, 52, 50, 53, 50, 54, 50, 55, 50, 56, 50, 57, 51, 48, 51, 49, 51, 50, 51, 51, 51, 52, 51, 53, 51, 54, 51, 55, 51, 56, 51, 57, 52, 48, 52, 49, 52, 50, 52, 51, 52, 52, 52, 53, 52, 54, 52, 55, 52, 56, 52, 57, 53, 48, 53, 49, 53, 50, 53, 51, 53, 52, 53, 53, 53, 54, 53, 55, 53, 56, 53, 57, 54, 48, 54, 49, 54, 50, 54, 51, 54, 52, 54, 53, 54, 54, 54, 55, 54, 56, 54, 57, 55, 48, 55, 49, 55, 50, 55, 51, 55, 52, 55, 53, 55, 54, 55, 55, 55, 56, 55, 57, 56, 48, 56, 49, 56, 50, 56, 51, 56, 52, 56, 53, 56, 54, 56, 55, 56, 56, 56, 57, 57, 48, 57, 49, 57, 50, 57, 51, 57, 52, 57, 53, 57, 54, 57, 55, 57, 56, 57, 57] : List UInt8).take (Int.toNat (IntKind.i64.wrap ((IntKind.i64.wrap (a0 * (2 : Int))) + (2 : Int))))).drop (Int.toNat (IntKind.i64.wrap (a0 * (2 : Int))))))) (w' := w) ha rfl rfl rfl (ssl_run (s := ([48, 48, 48, 49, 48, 50, 48, 51, 48, 52, 48, 53, 48, 54, 48, 55, 48, 56, 48, 57, 49, 48, 49, 49, 49, 50, 49, 51, 49, 52, 49, 53, 49, 54, 49, 55, 49, 56, 49, 57, 50, 48, 50, 49, 50, 50, 50, 51, 50, 52, 50, 53, 50, 54, 50, 55, 50, 56, 50, 57, 51, 48, 51, 49, 51, 50, 51, 51, 51, 52, 51, 53, 51, 54, 51, 55, 51, 56, 51, 57, 52, 48, 52, 49, 52, 50, 52, 51, 52, 52, 52, 53, 52, 54, 52, 55, 52, 56, 52, 57, 53, 48, 53, 49, 53, 50, 53, 51, 53, 52, 53, 53, 53, 54, 53, 55, 53, 56, 53, 57, 54, 48, 54, 49, 54, 50, 54, 51, 54, 52, 54, 53, 54, 54, 54, 55, 54, 56, 54, 57, 55, 48, 55, 49, 55, 50, 55, 51, 55, 52, 55, 53, 55, 54, 55, 55, 55, 56, 55, 57, 56, 48, 56, 49, 56, 50, 56, 51, 56, 52, 56, 53, 56, 54, 56, 55, 56, 56, 56, 57, 57, 48, 57, 49, 57, 50, 57, 51, 57, 52, 57, 53, 57, 54, 57, 55, 57, 56, 57, 57] : List UInt8)) (l := (IntKind.i64.wrap (a0 * (2 : Int)))) (h := (IntKind.i64.wrap ((IntKind.i64.wrap (a0 * (2 : Int))) + (2 : Int)))) ha (by kernel_rfl) (by rfl) (by rfl) (by rfl) hx8 hx8' hx8'' _) fun a ha => ?_
  refine seg ha 1 [(2, .string (bstr ((([48, 48, 48, 49, 48, 50, 48, 51, 48, 52, 48, 53, 48, 54, 48, 55, 48, 56, 48, 57, 49, 48, 49, 49, 49, 50, 49, 51, 49, 52, 49, 53, 49, 54, 49, 55, 49, 56, 49, 57, 50, 48, 50, 49, 50, 50, 50, 51, 50, 52, 50, 53, 50, 54, 50, 55, 50, 56, 50, 57, 51, 48, 51, 49, 51, 50, 51, 51, 51, 52, 51, 53, 51, 54, 51, 55, 51, 56, 51, 57, 52, 48, 52, 49, 52, 50, 52, 51, 52, 52, 52, 53, 52, 54, 52, 55, 52, 56, 52, 57, 53, 48, 53, 49, 53, 50, 53, 51, 53, 52, 53, 53, 53, 54, 53, 55, 53, 56, 53, 57, 54, 48, 54, 49, 54, 50, 54, 51, 54, 52, 54, 53, 54, 54, 54, 55, 54, 56, 54, 57, 55, 48, 55, 49, 55, 50, 55, 51, 55, 52, 55, 53, 55, 54, 55, 55, 55, 56, 55, 57, 56, 48, 56, 49, 56, 50, 56, 51, 56, 52, 56, 53, 56, 54, 56, 55, 56, 56, 56, 57, 57, 48, 57, 49, 57, 50, 57, 51, 57, 52, 57, 53, 57, 54, 57, 55, 57, 56, 57, 57] : List UInt8).take (Int.toNat (IntKind.i64.wrap ((IntKind.i64.wrap (a0 * (2 : Int))) + (2 : Int))))).drop (Int.toNat (IntKind.i64.wrap (a0 * (2 : Int)))))))] (by kernel_rfl) fun a ha => ?_
  refine hK7 _ _ ?_; try clear hK7 K7
  refine wp_ret ?_
  try simp only [Exit.then, Exit.inBlock]
  obtain rfl := Option.some.inj H
  refine rt1 ha rfl rfl ?_
  exact ⟨rfl, hC, hM⟩
def bits_Len64.f (a0 : Int) : Option (Int) := ((if (decide (a0 ≥ (4294967296 : Int))) = true then some ((Int.fdiv a0 (2 ^ (min (32 : Int).toNat IntKind.u64.bits)) : Int), ((32 : Int) : Int)) else some ((a0 : Int), ((0 : Int) : Int)))).bind fun s3 => ((if (decide (s3.1 ≥ (65536 : Int))) = true then some ((Int.fdiv s3.1 (2 ^ (min (16 : Int).toNat IntKind.u64.bits)) : Int), (IntKind.i64.wrap (s3.2 + (16 : Int)) : Int)) else some ((s3.1 : Int), (s3.2 : Int)))).bind fun s5 => ((if (decide (s5.1 ≥ (256 : Int))) = true then some ((Int.fdiv s5.1 (2 ^ (min (8 : Int).toNat IntKind.u64.bits)) : Int), (IntKind.i64.wrap (s5.2 + (8 : Int)) : Int)) else some ((s5.1 : Int), (s5.2 : Int)))).bind fun s7 => (if 0 ≤ (IntKind.u8.wrap s7.1) ∧ (IntKind.u8.wrap s7.1) < (([0, 1, 2, 2, 3, 3, 3, 3, 4, 4, 4, 4, 4, 4, 4, 4, 5, 5, 5, 5, 5, 5, 5, 5, 5, 5, 5, 5, 5, 5, 5, 5, 6, 6, 6, 6, 6, 6, 6, 6, 6, 6, 6, 6, 6, 6, 6, 6, 6, 6, 6, 6, 6, 6, 6, 6, 6, 6, 6, 6, 6, 6, 6, 6, 7, 7, 7, 7, 7, 7, 7, 7, 7, 7, 7, 7, 7, 7, 7, 7, 7, 7, 7, 7, 7, 7, 7, 7, 7, 7, 7, 7, 7, 7, 7, 7, 7, 7, 7, 7, 7, 7, 7, 7, 7, 7, 7, 7, 7, 7, 7, 7, 7, 7, 7, 7, 7, 7, 7, 7, 7, 7, 7, 7, 7, 7, 7, 7, 8, 8, 8, 8, 8, 8, 8, 8, 8, 8, 8, 8, 8, 8, 8, 8, 8, 8, 8, 8, 8, 8, 8, 8, 8, 8, 8, 8, 8, 8, 8, 8, 8, 8, 8, 8, 8, 8, 8, 8, 8, 8, 8, 8, 8, 8, 8, 8, 8, 8, 8, 8, 8, 8, 8, 8, 8, 8, 8, 8, 8, 8, 8, 8, 8, 8, 8, 8, 8, 8, 8, 8, 8, 8, 8, 8, 8, 8, 8, 8, 8, 8, 8, 8, 8, 8, 8, 8, 8, 8, 8, 8, 8, 8, 8, 8, 8, 8, 8, 8, 8, 8, 8, 8, 8, 8, 8, 8, 8, 8, 8, 8, 8, 8, 8, 8, 8, 8, 8, 8, 8, 8, 8, 8, 8, 8, 8, 8] : List UInt8).length : Int) then some ((IntKind.i64.wrap (s7.2 + (IntKind.i64.wrap ((([0, 1, 2, 2, 3, 3, 3, 3, 4, 4, 4, 4, 4, 4, 4, 4, 5, 5, 5, 5, 5, 5, 5, 5, 5, 5, 5, 5, 5, 5, 5, 5, 6, 6, 6, 6, 6, 6, 6, 6, 6, 6, 6, 6, 6, 6, 6, 6, 6, 6, 6, 6, 6, 6, 6, 6, 6, 6, 6, 6, 6, 6, 6, 6, 7, 7, 7, 7, 7, 7, 7, 7, 7, 7, 7, 7, 7, 7, 7, 7, 7, 7, 7, 7, 7, 7, 7, 7, 7, 7, 7, 7, 7, 7, 7, 7, 7, 7, 7, 7, 7, 7, 7, 7, 7, 7, 7, 7, 7, 7, 7, 7, 7, 7, 7, 7, 7, 7, 7, 7, 7, 7, 7, 7, 7, 7, 7, 7, 8, 8, 8, 8, 8, 8, 8, 8, 8, 8, 8, 8, 8, 8, 8, 8, 8, 8, 8, 8, 8, 8, 8, 8, 8, 8, 8, 8, 8, 8, 8, 8, 8, 8, 8, 8, 8, 8, 8, 8, 8, 8, 8, 8, 8, 8, 8, 8, 8, 8, 8, 8, 8, 8, 8, 8, 8, 8, 8, 8, 8, 8, 8, 8, 8, 8, 8, 8, 8, 8, 8, 8, 8, 8, 8, 8, 8, 8, 8, 8, 8, 8, 8, 8, 8, 8, 8, 8, 8, 8, 8, 8, 8, 8, 8, 8, 8, 8, 8, 8, 8, 8, 8, 8, 8, 8, 8, 8, 8, 8, 8, 8, 8, 8, 8, 8, 8, 8, 8, 8, 8, 8, 8, 8, 8, 8, 8, 8] : List UInt8).getD (Int.toNat (IntKind.u8.wrap s7.1)) 0).toNat : Int))) : Int)) else none)
set_option maxRecDepth 100000 in
theorem bits_Len64.walk (w : World) (M : List Nat) (hM : MS M w) (a0 : Int) (r : Int) (H : bits_Len64.f a0 = some r) :
    To Tryz.prog 120 [.int .u64 a0] w fun v w' => v = .int .i64 r ∧ Chg [] w w' ∧ MS (M) w' := by
 unfold bits_Len64.f at H
 refine ent Tryz.func120 rfl [(0, .int .u64 a0)] rfl (by rfl) fun a ha => ?_
 have hC : Chg [] w w := Chg.refl _ _
 refine wp_seq_k fun K1 hK1 => ?_
 refine wp_region_lit ?_
 refine seg ha 1 [(0, .int .u64 a0), (2, .int .i64 (0 : Int))] (by kernel_rfl) fun a ha => ?_
 refine hK1 _ _ ?_; try clear hK1 K1
 refine wp_seq_k fun K2 hK2 => ?_
 obtain ⟨s3, H3, H⟩ := bind_some H
 have J3 : ∀ (a : Act) (w3 : World), Has a Tryz.f120.ntmps [(0, .int .u64 s3.1), (2, .int .i64 s3.2)] → (Chg [] w w3) → (MS (M) w3) → K2 a w3 := by
  intro a w3 ha hC hM
  refine hK2 _ _ ?_; try clear hK2 K2
  refine wp_seq_k fun K4 hK4 => ?_
  obtain ⟨s5, H5, H⟩ := bind_some H
  have J5 : ∀ (a : Act) (w5 : World), Has a Tryz.f120.ntmps [(0, .int .u64 s5.1), (2, .int .i64 s5.2)] → (Chg [] w w5) → (MS (M) w5) → K4 a w5 := by
   intro a w5 ha hC hM
   refine hK4 _ _ ?_; try clear hK4 K4
   refine wp_seq_k fun K6 hK6 => ?_
   obtain ⟨s7, H7, H⟩ := bind_some H
   have J7 : ∀ (a : Act) (w7 : World), Has a Tryz.f120.ntmps [(0, .int .u64 s7.1), (2, .int .i64 s7.2)] → (Chg [] w w7) → (MS (M) w7) → K6 a w7 := by
    intro a w7 ha hC hM
    refine hK6 _ _ ?_; try clear hK6 K6
    refine wp_seq_k fun K8 hK8 => ?_
    refine wp_region_lit ?_
    refine seg ha 3 [(19, .int .i64 s7.2), (21, .int .u8 (IntKind.u8.wrap s7.1))] (by kernel_rfl) fun a ha => ?_
    obtain ⟨⟨hx9, hx9'⟩, H⟩ := ite_some H
    refine hop (v := .int .u8 ((([0, 1, 2, 2, 3, 3, 3, 3, 4, 4, 4, 4, 4, 4, 4, 4, 5, 5, 5, 5, 5, 5, 5, 5, 5, 5, 5, 5, 5, 5, 5, 5, 6, 6, 6, 6, 6, 6, 6, 6, 6, 6, 6, 6, 6, 6, 6, 6, 6, 6, 6, 6, 6, 6, 6, 6, 6, 6, 6, 6, 6, 6, 6, 6, 7, 7, 7, 7, 7, 7, 7, 7, 7, 7, 7, 7, 7, 7, 7, 7, 7, 7, 7, 7, 7, 7, 7, 7, 7, 7, 7, 7, 7, 7, 7, 7, 7, 7, 7, 7, 7, 7, 7, 7, 7, 7, 7, 7, 7, 7, 7, 7, 7, 7, 7, 7, 7, 7, 7, 7, 7, 7, 7, 7, 7, 7, 7, 7, 8, 8, 8, 8, 8, 8, 8, 8, 8, 8, 8, 8, 8, 8, 8, 8, 8, 8, 8, 8, 8, 8, 8, 8, 8, 8, 8, 8, 8, 8, 8, 8, 8, 8, 8, 8, 8, 8, 8, 8, 8, 8, 8, 8, 8, 8, 8, 8, 8, 8, 8, 8, 8, 8, 8, 8, 8, 8, 8, 8, 8, 8, 8, 8, 8, 8, 8, 8, 8, 8, 8, 8, 8, 8, 8, 8, 8, 8, 8, 8, 8, 8, 8, 8, 8, 8, 8, 8, 8, 8, 8, 8, 8, 8, 8, 8, 8, 8, 8, 8, 8, 8, 8, 8, 8, 8, 8, 8, 8, 8, 8, 8, 8, 8, 8, 8, 8, 8, 8, 8, 8, 8, 8, 8, 8, 8, 8, 8] : List UInt8).getD (Int.toNat (IntKind.u8.wrap s7.1)) 0).toNat : Int)) (w' := w7) ha rfl rfl rfl (sidx_run (l := ([0, 1, 2, 2, 3, 3, 3, 3, 4, 4, 4, 4, 4, 4, 4, 4, 5, 5, 5, 5, 5, 5, 5, 5, 5, 5, 5, 5, 5, 5, 5, 5, 6, 6, 6, 6, 6, 6, 6, 6, 6, 6, 6, 6, 6, 6, 6, 6, 6, 6, 6, 6, 6, 6, 6, 6, 6, 6, 6, 6, 6, 6, 6, 6, 7, 7, 7, 7, 7, 7, 7, 7, 7, 7, 7, 7, 7, 7, 7, 7, 7, 7, 7, 7, 7, 7, 7, 7, 7, 7, 7, 7, 7, 7, 7, 7, 7, 7, 7, 7, 7, 7, 7, 7, 7, 7, 7, 7, 7, 7, 7, 7, 7, 7, 7, 7, 7, 7, 7, 7, 7, 7, 7, 7, 7, 7, 7, 7, 8, 8, 8, 8, 8, 8, 8, 8, 8, 8, 8, 8, 8, 8, 8, 8, 8, 8, 8, 8, 8, 8, 8, 8, 8, 8, 8, 8, 8, 8, 8, 8, 8, 8, 8, 8, 8, 8, 8, 8, 8, 8, 8, 8, 8, 8, 8, 8, 8, 8, 8, 8, 8, 8, 8, 8, 8, 8, 8, 8, 8, 8, 8, 8, 8, 8, 8, 8, 8, 8, 8, 8, 8, 8, 8, 8, 8, 8, 8, 8, 8, 8, 8, 8, 8, 8, 8, 8, 8, 8, 8, 8, 8, 8, 8, 8, 8, 8, 8, 8, 8, 8, 8, 8, 8, 8, 8, 8, 8, 8, 8, 8, 8, 8, 8, 8, 8, 8, 8, 8, 8, 8, 8, 8, 8, 8, 8, 8] : List UInt8)) (k := .u8) (i := IntKind.u8.wrap s7.1) ha (by kernel_rfl) (by rfl) (by rfl) hx9 hx9' _) fun a ha => ?_
    refine seg ha 3 [(2, .int .i64 (IntKind.i64.wrap (s7.2 + (IntKind.i64.wrap ((([0, 1, 2, 2, 3, 3, 3, 3, 4, 4, 4, 4, 4, 4, 4, 4, 5, 5, 5, 5, 5, 5, 5, 5, 5, 5, 5, 5, 5, 5, 5, 5, 6, 6, 6, 6, 6, 6, 6, 6, 6, 6, 6, 6, 6, 6, 6, 6, 6, 6, 6, 6, 6, 6, 6, 6, 6, 6, 6, 6, 6, 6, 6, 6, 7, 7, 7, 7, 7, 7, 7, 7, 7, 7, 7, 7, 7, 7, 7, 7, 7, 7, 7, 7, 7, 7, 7, 7, 7, 7, 7, 7, 7, 7, 7, 7, 7, 7, 7, 7, 7, 7, 7, 7, 7, 7, 7, 7, 7, 7, 7, 7, 7, 7, 7, 7, 7, 7, 7, 7, 7, 7, 7, 7, 7, 7, 7, 7, 8, 8, 8, 8, 8, 8, 8, 8, 8, 8, 8, 8, 8, 8, 8, 8, 8, 8, 8, 8, 8, 8, 8, 8, 8, 8, 8, 8, 8, 8, 8, 8, 8, 8, 8, 8, 8, 8, 8, 8, 8, 8, 8, 8, 8, 8, 8, 8, 8, 8, 8, 8, 8, 8, 8, 8, 8, 8, 8, 8, 8, 8, 8, 8, 8, 8, 8, 8, 8, 8, 8, 8, 8, 8, 8, 8, 8, 8, 8, 8, 8, 8, 8, 8, 8, 8, 8, 8, 8, 8, 8, 8, 8, 8, 8, 8, 8, 8, 8, 8, 8, 8, 8, 8, 8, 8, 8, 8, 8, 8, 8, 8, 8, 8, 8, 8, 8, 8, 8, 8, 8, 8, 8, 8, 8, 8, 8, 8] : List UInt8).getD (Int.toNat (IntKind.u8.wrap s7.1)) 0).toNat : Int)))))] (by kernel_rfl) fun a ha => ?_
    refine hK8 _ _ ?_; try clear hK8 K8
    refine wp_ret ?_
    try simp only [Exit.then, Exit.inBlock]
    obtain rfl := Option.some.inj H
    refine rt1 ha rfl rfl ?_
    exact ⟨rfl, hC, hM⟩
   have H := H7
   refine wp_seq_k fun K10 hK10 => ?_
   refine wp_region_lit ?_
   refine seg ha 2 [(0, .int .u64 s5.1), (2, .int .i64 s5.2), (14, .bool (decide (s5.1 ≥ (256 : Int))))] (by kernel_rfl) fun a ha => ?_
   refine hK10 _ _ ?_; try clear hK10 K10
   refine cnd ha rfl (fun hc11 => ?_) (fun hc11 => ?_)
   ·have H := ite_t hc11 H
    refine wp_seq_k fun K12 hK12 => ?_
    refine wp_region_lit ?_
    refine seg ha 3 [(0, .int .u64 (Int.fdiv s5.1 (2 ^ (min (8 : Int).toNat IntKind.u64.bits)))), (2, .int .i64 s5.2)] (by kernel_rfl) fun a ha => ?_
    refine hK12 _ _ ?_; try clear hK12 K12
    refine wp_region_lit ?_
    refine seg ha 3 [(0, .int .u64 (Int.fdiv s5.1 (2 ^ (min (8 : Int).toNat IntKind.u64.bits)))), (2, .int .i64 (IntKind.i64.wrap (s5.2 + (8 : Int))))] (by kernel_rfl) fun a ha => ?_
    obtain rfl := Option.some.inj H
    exact J7 _ _ (ha.sel (by kernel_rfl)) hC hM
   ·have H := ite_f hc11 H
    refine wp_skip ?_
    obtain rfl := Option.some.inj H
    exact J7 _ _ (ha.sel (by kernel_rfl)) hC hM
  have H := H5
  refine wp_seq_k fun K13 hK13 => ?_
  refine wp_region_lit ?_
  refine seg ha 2 [(0, .int .u64 s3.1), (2, .int .i64 s3.2), (8, .bool (decide (s3.1 ≥ (65536 : Int))))] (by kernel_rfl) fun a ha => ?_
  refine hK13 _ _ ?_; try clear hK13 K13
  refine cnd ha rfl (fun hc14 => ?_) (fun hc14 => ?_)
  ·have H := ite_t hc14 H
   refine wp_seq_k fun K15 hK15 => ?_
   refine wp_region_lit ?_
   refine seg ha 3 [(0, .int .u64 (Int.fdiv s3.1 (2 ^ (min (16 : Int).toNat IntKind.u64.bits)))), (2, .int .i64 s3.2)] (by kernel_rfl) fun a ha => ?_
   refine hK15 _ _ ?_; try clear hK15 K15
   refine wp_region_lit ?_
   refine seg ha 3 [(0, .int .u64 (Int.fdiv s3.1 (2 ^ (min (16 : Int).toNat IntKind.u64.bits)))), (2, .int .i64 (IntKind.i64.wrap (s3.2 + (16 : Int))))] (by kernel_rfl) fun a ha => ?_
   obtain rfl := Option.some.inj H
   exact J5 _ _ (ha.sel (by kernel_rfl)) hC hM
  ·have H := ite_f hc14 H
   refine wp_skip ?_
   obtain rfl := Option.some.inj H
   exact J5 _ _ (ha.sel (by kernel_rfl)) hC hM
 have H := H3
 refine wp_seq_k fun K16 hK16 => ?_
 refine wp_region_lit ?_
 refine seg ha 2 [(0, .int .u64 a0), (2, .int .i64 (0 : Int)), (4, .bool (decide (a0 ≥ (4294967296 : Int))))] (by kernel_rfl) fun a ha => ?_
 refine hK16 _ _ ?_; try clear hK16 K16
 refine cnd ha rfl (fun hc17 => ?_) (fun hc17 => ?_)
 ·have H := ite_t hc17 H
  refine wp_seq_k fun K18 hK18 => ?_
  refine wp_region_lit ?_
  refine seg ha 3 [(0, .int .u64 (Int.fdiv a0 (2 ^ (min (32 : Int).toNat IntKind.u64.bits))))] (by kernel_rfl) fun a ha => ?_
  refine hK18 _ _ ?_; try clear hK18 K18
  refine wp_region_lit ?_
  refine seg ha 1 [(0, .int .u64 (Int.fdiv a0 (2 ^ (min (32 : Int).toNat IntKind.u64.bits)))), (2, .int .i64 (32 : Int))] (by kernel_rfl) fun a ha => ?_
  obtain rfl := Option.some.inj H
  exact J3 _ _ (ha.sel (by kernel_rfl)) hC hM
 ·have H := ite_f hc17 H
  refine wp_skip ?_
  obtain rfl := Option.some.inj H
  exact J3 _ _ (ha.sel (by kernel_rfl)) hC hM
def strconv_log10Pow2.f (a0 : Int) : Option (Int) := some ((Int.fdiv (IntKind.i64.wrap (a0 * (78913 : Int))) (2 ^ (min (18 : Int).toNat IntKind.i64.bits)) : Int))
set_option maxRecDepth 100000 in
theorem strconv_log10Pow2.walk (w : World) (M : List Nat) (hM : MS M w) (a0 : Int) (r : Int) (H : strconv_log10Pow2.f a0 = some r) :
    To Tryz.prog 174 [.int .i64 a0] w fun v w' => v = .int .i64 r ∧ Chg [] w w' ∧ MS (M) w' := by
 unfold strconv_log10Pow2.f at H
 refine ent Tryz.func174 rfl [(0, .int .i64 a0)] rfl (by rfl) fun a ha => ?_
 have hC : Chg [] w w := Chg.refl _ _
 refine wp_seq_k fun K1 hK1 => ?_
 refine wp_region_lit ?_
 refine seg ha 1 [(0, .int .i64 a0)] (by kernel_rfl) fun a ha => ?_
 refine hK1 _ _ ?_; try clear hK1 K1
 refine wp_seq_k fun K2 hK2 => ?_
 refine wp_region_lit ?_
 refine seg ha 4 [(2, .int .i64 (Int.fdiv (IntKind.i64.wrap (a0 * (78913 : Int))) (2 ^ (min (18 : Int).toNat IntKind.i64.bits))))] (by kernel_rfl) fun a ha => ?_
 refine hK2 _ _ ?_; try clear hK2 K2
 refine wp_ret ?_
 try simp only [Exit.then, Exit.inBlock]
 obtain rfl := Option.some.inj H
 refine rt1 ha rfl rfl ?_
 exact ⟨rfl, hC, hM⟩
def strconv_bool2_int.f (a0 : Bool) : Option (Int) := (if a0 = true then some (((1 : Int) : Int)) else some (((0 : Int) : Int)))
set_option maxRecDepth 100000 in
theorem strconv_bool2_int.walk (w : World) (M : List Nat) (hM : MS M w) (a0 : Bool) (r : Int) (H : strconv_bool2_int.f a0 = some r) :
    To Tryz.prog 175 [.bool a0] w fun v w' => v = .int .i64 r ∧ Chg [] w w' ∧ MS (M) w' := by
 unfold strconv_bool2_int.f at H
 refine ent Tryz.func175 rfl [(0, .bool a0)] rfl (by rfl) fun a ha => ?_
 have hC : Chg [] w w := Chg.refl _ _
 refine wp_seq_k fun K1 hK1 => ?_
 refine wp_region_lit ?_
 refine seg ha 1 [(0, .bool a0)] (by kernel_rfl) fun a ha => ?_
 refine hK1 _ _ ?_; try clear hK1 K1
 refine wp_seq_k fun K2 hK2 => ?_
 refine wp_seq_k fun K3 hK3 => ?_
 refine wp_region_lit ?_
 refine seg ha 1 [(3, .bool a0)] (by kernel_rfl) fun a ha => ?_
 refine hK3 _ _ ?_; try clear hK3 K3
 refine cnd ha rfl (fun hc4 => ?_) (fun hc4 => ?_)
 ·have H := ite_t hc4 H
  refine wp_seq_k fun K5 hK5 => ?_
  refine wp_region_lit ?_
  refine seg ha 1 [(2, .int .i64 (1 : Int))] (by kernel_rfl) fun a ha => ?_
  refine hK5 _ _ ?_; try clear hK5 K5
  refine wp_ret ?_
  try simp only [Exit.then, Exit.inBlock]
  obtain rfl := Option.some.inj H
  refine rt1 ha rfl rfl ?_
  exact ⟨rfl, hC, hM⟩
 ·have H := ite_f hc4 H
  refine wp_skip ?_
  refine hK2 _ _ ?_; try clear hK2 K2
  refine wp_seq_k fun K6 hK6 => ?_
  refine wp_region_lit ?_
  refine seg ha 1 [(2, .int .i64 (0 : Int))] (by kernel_rfl) fun a ha => ?_
  refine hK6 _ _ ?_; try clear hK6 K6
  refine wp_ret ?_
  try simp only [Exit.then, Exit.inBlock]
  obtain rfl := Option.some.inj H
  refine rt1 ha rfl rfl ?_
  exact ⟨rfl, hC, hM⟩
def strconv_numDigits.f (a0 : Int) : Option (Int) := (bits_Len64.f a0).bind fun t3 => (strconv_log10Pow2.f t3).bind fun t4 => (if 0 ≤ t4 ∧ t4 < (20 : Int) then (strconv_bool2_int.f (decide (a0 ≥ (ar Lib.pow10Tab (Int.toNat t4))))).bind fun t8 => some ((IntKind.i64.wrap (t4 + t8) : Int)) else none)
set_option maxRecDepth 100000 in
theorem strconv_numDigits.walk (w : World) (M : List Nat) (hM : MS M w) (hG : GF w M) (a0 : Int) (r : Int) (H : strconv_numDigits.f a0 = some r) :
    To Tryz.prog 161 [.int .u64 a0] w fun v w' => v = .int .i64 r ∧ Chg [] w w' ∧ MS (M) w' := by
 unfold strconv_numDigits.f at H
 refine ent Tryz.func161 rfl [(0, .int .u64 a0)] rfl (by rfl) fun a ha => ?_
 have hC : Chg [] w w := Chg.refl _ _
 refine wp_seq_k fun K1 hK1 => ?_
 refine wp_region_lit ?_
 refine seg ha 1 [(0, .int .u64 a0)] (by kernel_rfl) fun a ha => ?_
 refine hK1 _ _ ?_; try clear hK1 K1
 refine wp_seq_k fun K2 hK2 => ?_
 refine wp_region_lit ?_
 refine seg ha 1 [(0, .int .u64 a0), (4, .int .u64 a0)] (by kernel_rfl) fun a ha => ?_
 obtain ⟨t3, H3, H⟩ := bind_some H
 refine cl ha (by rfl) (by kernel_rfl) (by rfl) (by rfl) (by rfl) (bits_Len64.walk w _ hM a0 _ H3) ?_
 rintro _ w3 ⟨rfl, hc3, hMn⟩ a ha
 have o1 : Ok [] (M) w.heap.size := Ok.nil _ _
 have o2 : Ok (M) (M) w.heap.size := (Ok.refl _ _)
 have hG := hG.chg hc3 o1 o2
 have hM : MS (M) w3 := (hM.chg hc3)
 have hC := hC.trans hc3 (Ok.nil _ _)
 obtain ⟨t4, H4, H⟩ := bind_some H
 refine cl ha (by rfl) (by kernel_rfl) (by rfl) (by rfl) (by rfl) (strconv_log10Pow2.walk w3 _ hM t3 _ H4) ?_
 rintro _ w4 ⟨rfl, hc4, hMn⟩ a ha
 have o1 : Ok [] (M) w3.heap.size := Ok.nil _ _
 have o2 : Ok (M) (M) w3.heap.size := (Ok.refl _ _)
 have hG := hG.chg hc4 o1 o2
 have hM : MS (M) w4 := (hM.chg hc4)
 have hC := hC.trans hc4 (Ok.nil _ _)
 refine seg ha 1 [(0, .int .u64 a0), (3, .int .i64 t4)] (by kernel_rfl) fun a ha => ?_
 refine hK2 _ _ ?_; try clear hK2 K2
 refine wp_seq_k fun K5 hK5 => ?_
 refine wp_region_lit ?_
 refine seg ha 3 [(7, .int .i64 t4), (8, .int .u64 a0), (9, .int .i64 t4)] (by kernel_rfl) fun a ha => ?_
 have hTc6 := TabOk.cells (n := 20) hG.1 (by kernel_rfl) (by kernel_rfl)
 have hTn6 := (hG.1).2
 obtain ⟨⟨hx7, hx7'⟩, H⟩ := ite_some H
 have hE7 : ∀ j v, ([.int .u64 (ar Lib.pow10Tab (Int.toNat t4))] : List Value)[j]? = some v → w4.cell? ⟨1, (0 + 0 + (Int.toNat t4)) + j, none⟩ = some v := cellA (m := 20) [] [] hTc6 (by kernel_rfl) (by omega)
 have hn7 := hTn6
 refine hop (v := .pointer (some ⟨1, (0 + 0 + (Int.toNat t4)), none⟩)) (w' := w4) ha rfl rfl rfl (ixA_run (T := 139) (N := 20) (g := 1) (o' := 0) (k := .i64) (i := t4) ha (by kernel_rfl) (by kernel_rfl) (by rfl) (by rfl) hx7 hx7' _) fun a ha => ?_
 refine ld ha rfl (by kernel_rfl) rfl rfl rfl (hE7 0 (.int .u64 (ar Lib.pow10Tab (Int.toNat t4))) (by kernel_rfl)) fun a ha => ?_
 refine seg ha 1 [(7, .int .i64 t4), (12, .bool (decide (a0 ≥ (ar Lib.pow10Tab (Int.toNat t4)))))] (by kernel_rfl) fun a ha => ?_
 obtain ⟨t8, H8, H⟩ := bind_some H
 refine cl ha (by rfl) (by kernel_rfl) (by rfl) (by rfl) (by rfl) (strconv_bool2_int.walk w4 _ hM (decide (a0 ≥ (ar Lib.pow10Tab (Int.toNat t4)))) _ H8) ?_
 rintro _ w8 ⟨rfl, hc8, hMn⟩ a ha
 have o1 : Ok [] (M) w4.heap.size := Ok.nil _ _
 have o2 : Ok (M) (M) w4.heap.size := (Ok.refl _ _)
 have hG := hG.chg hc8 o1 o2
 have hM : MS (M) w8 := (hM.chg hc8)
 have hC := hC.trans hc8 (Ok.nil _ _)
 refine seg ha 2 [(2, .int .i64 (IntKind.i64.wrap (t4 + t8)))] (by kernel_rfl) fun a ha => ?_
 refine hK5 _ _ ?_; try clear hK5 K5
 refine wp_ret ?_
 try simp only [Exit.then, Exit.inBlock]
 obtain rfl := Option.some.inj H
 refine rt1 ha rfl rfl ?_
 exact ⟨rfl, hC, hM⟩
def strconv_isPowerOfTwo.f (a0 : Int) : Option (Bool) := some (((IntKind.i64.wrap (BitVec.ofInt IntKind.i64.bits a0 &&& BitVec.ofInt IntKind.i64.bits (IntKind.i64.wrap (a0 - (1 : Int)))).toNat) == (0 : Int) : Bool))
set_option maxRecDepth 100000 in
theorem strconv_isPowerOfTwo.walk (w : World) (M : List Nat) (hM : MS M w) (a0 : Int) (r : Bool) (H : strconv_isPowerOfTwo.f a0 = some r) :
    To Tryz.prog 176 [.int .i64 a0] w fun v w' => v = .bool r ∧ Chg [] w w' ∧ MS (M) w' := by
 unfold strconv_isPowerOfTwo.f at H
 refine ent Tryz.func176 rfl [(0, .int .i64 a0)] rfl (by rfl) fun a ha => ?_
 have hC : Chg [] w w := Chg.refl _ _
 refine wp_seq_k fun K1 hK1 => ?_
 refine wp_region_lit ?_
 refine seg ha 1 [(0, .int .i64 a0)] (by kernel_rfl) fun a ha => ?_
 refine hK1 _ _ ?_; try clear hK1 K1
 refine wp_seq_k fun K2 hK2 => ?_
 refine wp_region_lit ?_
 refine seg ha 6 [(2, .bool ((IntKind.i64.wrap (BitVec.ofInt IntKind.i64.bits a0 &&& BitVec.ofInt IntKind.i64.bits (IntKind.i64.wrap (a0 - (1 : Int)))).toNat) == (0 : Int)))] (by kernel_rfl) fun a ha => ?_
 refine hK2 _ _ ?_; try clear hK2 K2
 refine wp_ret ?_
 try simp only [Exit.then, Exit.inBlock]
 obtain rfl := Option.some.inj H
 refine rt1 ha rfl rfl ?_
 exact ⟨rfl, hC, hM⟩
def bits_TrailingZeros64.f (a0 : Int) : Option (Int) := (if (a0 == (0 : Int)) = true then some (((64 : Int) : Int)) else (some (Int.fdiv (IntKind.u64.wrap ((IntKind.u64.wrap (BitVec.ofInt IntKind.u64.bits a0 &&& BitVec.ofInt IntKind.u64.bits (IntKind.u64.wrap (0 - a0))).toNat) * (285870213051353865 : Int))) (2 ^ (min (58 : Int).toNat IntKind.u64.bits))) : Option Int).bind fun ix8 => (if 0 ≤ ix8 ∧ ix8 < (64 : Int) then some ((IntKind.i64.wrap (ar dbTab (Int.toNat ix8)) : Int)) else none))
set_option maxRecDepth 100000 in
theorem bits_TrailingZeros64.walk (w : World) (M : List Nat) (hM : MS M w) (hG : GF w M) (a0 : Int) (r : Int) (H : bits_TrailingZeros64.f a0 = some r) :
    To Tryz.prog 180 [.int .u64 a0] w fun v w' => v = .int .i64 r ∧ Chg [] w w' ∧ MS (M) w' := by
 unfold bits_TrailingZeros64.f at H
 refine ent Tryz.func180 rfl [(0, .int .u64 a0)] rfl (by rfl) fun a ha => ?_
 have hC : Chg [] w w := Chg.refl _ _
 refine wp_seq_k fun K1 hK1 => ?_
 refine wp_region_lit ?_
 refine seg ha 1 [(0, .int .u64 a0)] (by kernel_rfl) fun a ha => ?_
 refine hK1 _ _ ?_; try clear hK1 K1
 refine wp_seq_k fun K2 hK2 => ?_
 refine wp_seq_k fun K3 hK3 => ?_
 refine wp_region_lit ?_
 refine seg ha 2 [(0, .int .u64 a0), (4, .bool (a0 == (0 : Int)))] (by kernel_rfl) fun a ha => ?_
 refine hK3 _ _ ?_; try clear hK3 K3
 refine cnd ha rfl (fun hc4 => ?_) (fun hc4 => ?_)
 ·have H := ite_t hc4 H
  refine wp_seq_k fun K5 hK5 => ?_
  refine wp_region_lit ?_
  refine seg ha 1 [(2, .int .i64 (64 : Int))] (by kernel_rfl) fun a ha => ?_
  refine hK5 _ _ ?_; try clear hK5 K5
  refine wp_ret ?_
  try simp only [Exit.then, Exit.inBlock]
  obtain rfl := Option.some.inj H
  refine rt1 ha rfl rfl ?_
  exact ⟨rfl, hC, hM⟩
 ·have H := ite_f hc4 H
  refine wp_skip ?_
  refine hK2 _ _ ?_; try clear hK2 K2
  refine wp_seq_k fun K6 hK6 => ?_
  refine wp_region_lit ?_
  refine seg ha 6 [(10, .int .u64 (Int.fdiv (IntKind.u64.wrap ((IntKind.u64.wrap (BitVec.ofInt IntKind.u64.bits a0 &&& BitVec.ofInt IntKind.u64.bits (IntKind.u64.wrap (0 - a0))).toNat) * (285870213051353865 : Int))) (2 ^ (min (58 : Int).toNat IntKind.u64.bits))))] (by kernel_rfl) fun a ha => ?_
  have hTc7 := TabOk.cells (n := 64) hG.2.1 (by kernel_rfl) (by kernel_rfl)
  have hTn7 := (hG.2.1).2
  obtain ⟨ix8, hix8, H⟩ := bind_some H
  rw [Option.some.inj hix8] at ha
  obtain ⟨⟨hx9, hx9'⟩, H⟩ := ite_some H
  have hE9 : ∀ j v, ([.int .u8 (ar dbTab (Int.toNat ix8))] : List Value)[j]? = some v → w.cell? ⟨5, (0 + 0 + (Int.toNat ix8)) + j, none⟩ = some v := cellA (m := 64) [] [] hTc7 (by kernel_rfl) (by omega)
  have hn9 := hTn7
  refine hop (v := .pointer (some ⟨5, (0 + 0 + (Int.toNat ix8)), none⟩)) (w' := w) ha rfl rfl rfl (ixA_run (T := 5) (N := 64) (g := 5) (o' := 0) (k := .u64) (i := ix8) ha (by kernel_rfl) (by kernel_rfl) (by rfl) (by rfl) hx9 hx9' _) fun a ha => ?_
  refine ld ha rfl (by kernel_rfl) rfl rfl rfl (hE9 0 (.int .u8 (ar dbTab (Int.toNat ix8))) (by kernel_rfl)) fun a ha => ?_
  refine seg ha 2 [(2, .int .i64 (IntKind.i64.wrap (ar dbTab (Int.toNat ix8))))] (by kernel_rfl) fun a ha => ?_
  refine hK6 _ _ ?_; try clear hK6 K6
  refine wp_ret ?_
  try simp only [Exit.then, Exit.inBlock]
  obtain rfl := Option.some.inj H
  refine rt1 ha rfl rfl ?_
  exact ⟨rfl, hC, hM⟩
def bits_TrailingZeros.f (a0 : Int) : Option (Int) := (bits_TrailingZeros64.f a0).bind fun t5 => some ((t5 : Int))
set_option maxRecDepth 100000 in
theorem bits_TrailingZeros.walk (w : World) (M : List Nat) (hM : MS M w) (hG : GF w M) (a0 : Int) (r : Int) (H : bits_TrailingZeros.f a0 = some r) :
    To Tryz.prog 177 [.int .u64 a0] w fun v w' => v = .int .i64 r ∧ Chg [] w w' ∧ MS (M) w' := by
 unfold bits_TrailingZeros.f at H
 refine ent Tryz.func177 rfl [(0, .int .u64 a0)] rfl (by rfl) fun a ha => ?_
 have hC : Chg [] w w := Chg.refl _ _
 refine wp_seq_k fun K1 hK1 => ?_
 refine wp_region_lit ?_
 refine seg ha 1 [(0, .int .u64 a0)] (by kernel_rfl) fun a ha => ?_
 refine hK1 _ _ ?_; try clear hK1 K1
 refine wp_seq_k fun K2 hK2 => ?_
 refine cnd ha rfl (fun h => nomatch h) (fun _ => ?_)
 refine wp_skip ?_
 refine hK2 _ _ ?_; try clear hK2 K2
 refine wp_seq_k fun K4 hK4 => ?_
 refine wp_region_lit ?_
 refine seg ha 1 [(6, .int .u64 a0)] (by kernel_rfl) fun a ha => ?_
 obtain ⟨t5, H5, H⟩ := bind_some H
 refine cl ha (by rfl) (by kernel_rfl) (by rfl) (by rfl) (by rfl) (bits_TrailingZeros64.walk w _ hM hG a0 _ H5) ?_
 rintro _ w5 ⟨rfl, hc5, hMn⟩ a ha
 have o1 : Ok [] (M) w.heap.size := Ok.nil _ _
 have o2 : Ok (M) (M) w.heap.size := (Ok.refl _ _)
 have hG := hG.chg hc5 o1 o2
 have hM : MS (M) w5 := (hM.chg hc5)
 have hC := hC.trans hc5 (Ok.nil _ _)
 refine seg ha 1 [(2, .int .i64 t5)] (by kernel_rfl) fun a ha => ?_
 refine hK4 _ _ ?_; try clear hK4 K4
 refine wp_ret ?_
 try simp only [Exit.then, Exit.inBlock]
 obtain rfl := Option.some.inj H
 refine rt1 ha rfl rfl ?_
 exact ⟨rfl, hC, hM⟩
def strconv_formatBits.l0 (a2 : Int) (t35 : Int) : Nat → Int → Int → (List Int) → Option (Int × Int × List Int)
  | 0, _, _, _ => none
  | kk + 1, x40, x41, x42 => (if (decide (x40 ≥ (IntKind.u64.wrap a2))) = true then (if 0 ≤ (IntKind.u64.wrap (BitVec.ofInt IntKind.u64.bits x40 &&& BitVec.ofInt IntKind.u64.bits (IntKind.u64.wrap ((IntKind.u64.wrap a2) - (1 : Int)))).toNat) ∧ (IntKind.u64.wrap (BitVec.ofInt IntKind.u64.bits x40 &&& BitVec.ofInt IntKind.u64.bits (IntKind.u64.wrap ((IntKind.u64.wrap a2) - (1 : Int)))).toNat) < (([48, 49, 50, 51, 52, 53, 54, 55, 56, 57, 97, 98, 99, 100, 101, 102, 103, 104, 105, 106, 107, 108, 109, 110, 111, 112, 113, 114, 115, 116, 117, 118, 119, 120, 121, 122] : List UInt8).length : Int) then (if 0 ≤ (IntKind.i64.wrap (x41 - (1 : Int))) ∧ (IntKind.i64.wrap (x41 - (1 : Int))) < (65 : Int) then (if 0 ≤ (IntKind.u64.wrap t35) then strconv_formatBits.l0 a2 t35 kk (Int.fdiv x40 (2 ^ (min (Int.toNat (IntKind.u64.wrap t35)) IntKind.u64.bits))) (IntKind.i64.wrap (x41 - (1 : Int))) ((arL 65 x42).set (Int.toNat (IntKind.i64.wrap (x41 - (1 : Int)))) ((([48, 49, 50, 51, 52, 53, 54, 55, 56, 57, 97, 98, 99, 100, 101, 102, 103, 104, 105, 106, 107, 108, 109, 110, 111, 112, 113, 114, 115, 116, 117, 118, 119, 120, 121, 122] : List UInt8).getD (Int.toNat (IntKind.u64.wrap (BitVec.ofInt IntKind.u64.bits x40 &&& BitVec.ofInt IntKind.u64.bits (IntKind.u64.wrap ((IntKind.u64.wrap a2) - (1 : Int)))).toNat)) 0).toNat : Int)) else none) else none) else none) else some ((x40 : Int), (x41 : Int), (x42 : List Int)))
def strconv_formatBits.l1 (a2 : Int) : Nat → Int → Int → (List Int) → Option (Int × Int × List Int)
  | 0, _, _, _ => none
  | kk + 1, x61, x62, x63 => (if (decide (x61 ≥ (IntKind.u64.wrap a2))) = true then (if (IntKind.u64.wrap a2) ≠ 0 then (if 0 ≤ (IntKind.u64.wrap (x61 - (IntKind.u64.wrap ((IntKind.u64.wrap (Int.tdiv x61 (IntKind.u64.wrap a2))) * (IntKind.u64.wrap a2))))) ∧ (IntKind.u64.wrap (x61 - (IntKind.u64.wrap ((IntKind.u64.wrap (Int.tdiv x61 (IntKind.u64.wrap a2))) * (IntKind.u64.wrap a2))))) < (([48, 49, 50, 51, 52, 53, 54, 55, 56, 57, 97, 98, 99, 100, 101, 102, 103, 104, 105, 106, 107, 108, 109, 110, 111, 112, 113, 114, 115, 116, 117, 118, 119, 120, 121, 122] : List UInt8).length : Int) then (if 0 ≤ (IntKind.i64.wrap (x62 - (1 : Int))) ∧ (IntKind.i64.wrap (x62 - (1 : Int))) < (65 : Int) then strconv_formatBits.l1 a2 kk (IntKind.u64.wrap (Int.tdiv x61 (IntKind.u64.wrap a2))) (IntKind.i64.wrap (x62 - (1 : Int))) ((arL 65 x63).set (Int.toNat (IntKind.i64.wrap (x62 - (1 : Int)))) ((([48, 49, 50, 51, 52, 53, 54, 55, 56, 57, 97, 98, 99, 100, 101, 102, 103, 104, 105, 106, 107, 108, 109, 110, 111, 112, 113, 114, 115, 116, 117, 118, 119, 120, 121, 122] : List UInt8).getD (Int.toNat (IntKind.u64.wrap (x61 - (IntKind.u64.wrap ((IntKind.u64.wrap (Int.tdiv x61 (IntKind.u64.wrap a2))) * (IntKind.u64.wrap a2)))))) 0).toNat : Int)) else none) else none) else none) else some ((x61 : Int), (x62 : Int), (x63 : List Int)))
def strconv_formatBits.f (k : Nat) (a0 : List Int) (a1 : Int) (a2 : Int) (a3 : Bool) (a4 : Bool) : Option (List Int × List UInt8) := (if (if (if (decide (a2 < (2 : Int))) = true then true else (a2 == (10 : Int))) = true then true else (decide (a2 > (36 : Int)))) = true then none else ((if a3 = true then some (IntKind.u64.wrap (0 - a1) : Int) else some (a1 : Int))).bind fun s13 => ((strconv_isPowerOfTwo.f a2).bind fun t32 => (if t32 = true then (bits_TrailingZeros.f (IntKind.u64.wrap a2)).bind fun t35 => (strconv_formatBits.l0 a2 t35 k s13 (65 : Int) (List.replicate 65 (0 : Int))).bind fun s39 => (if 0 ≤ s39.1 ∧ s39.1 < (([48, 49, 50, 51, 52, 53, 54, 55, 56, 57, 97, 98, 99, 100, 101, 102, 103, 104, 105, 106, 107, 108, 109, 110, 111, 112, 113, 114, 115, 116, 117, 118, 119, 120, 121, 122] : List UInt8).length : Int) then (if 0 ≤ (IntKind.i64.wrap (s39.2.1 - (1 : Int))) ∧ (IntKind.i64.wrap (s39.2.1 - (1 : Int))) < (65 : Int) then some ((IntKind.i64.wrap (s39.2.1 - (1 : Int)) : Int), (((arL 65 s39.2.2).set (Int.toNat (IntKind.i64.wrap (s39.2.1 - (1 : Int)))) ((([48, 49, 50, 51, 52, 53, 54, 55, 56, 57, 97, 98, 99, 100, 101, 102, 103, 104, 105, 106, 107, 108, 109, 110, 111, 112, 113, 114, 115, 116, 117, 118, 119, 120, 121, 122] : List UInt8).getD (Int.toNat s39.1) 0).toNat : Int)) : List Int)) else none) else none) else (strconv_formatBits.l1 a2 k s13 (65 : Int) (List.replicate 65 (0 : Int))).bind fun s60 => (if 0 ≤ s60.1 ∧ s60.1 < (([48, 49, 50, 51, 52, 53, 54, 55, 56, 57, 97, 98, 99, 100, 101, 102, 103, 104, 105, 106, 107, 108, 109, 110, 111, 112, 113, 114, 115, 116, 117, 118, 119, 120, 121, 122] : List UInt8).length : Int) then (if 0 ≤ (IntKind.i64.wrap (s60.2.1 - (1 : Int))) ∧ (IntKind.i64.wrap (s60.2.1 - (1 : Int))) < (65 : Int) then some ((IntKind.i64.wrap (s60.2.1 - (1 : Int)) : Int), (((arL 65 s60.2.2).set (Int.toNat (IntKind.i64.wrap (s60.2.1 - (1 : Int)))) ((([48, 49, 50, 51, 52, 53, 54, 55, 56, 57, 97, 98, 99, 100, 101, 102, 103, 104, 105, 106, 107, 108, 109, 110, 111, 112, 113, 114, 115, 116, 117, 118, 119, 120, 121, 122] : List UInt8).getD (Int.toNat s60.1) 0).toNat : Int)) : List Int)) else none) else none))).bind fun s15 => ((if a3 = true then (if 0 ≤ (IntKind.i64.wrap (s15.1 - (1 : Int))) ∧ (IntKind.i64.wrap (s15.1 - (1 : Int))) < (65 : Int) then some ((IntKind.i64.wrap (s15.1 - (1 : Int)) : Int), (((arL 65 s15.2).set (Int.toNat (IntKind.i64.wrap (s15.1 - (1 : Int)))) (45 : Int)) : List Int)) else none) else some ((s15.1 : Int), (s15.2 : List Int)))).bind fun s17 => (if a4 = true then none else (if 0 ≤ s17.1 ∧ s17.1 ≤ (65 : Int) ∧ (65 : Int) ≤ (65 : Int) then some ((([] : List Int) : List Int), (b2s (((arL 65 s17.2).take (Int.toNat (65 : Int))).drop (Int.toNat s17.1)) : List UInt8)) else none)))
set_option maxRecDepth 100000 in
theorem strconv_formatBits.walk (w : World) (M : List Nat) (hM : MS M w) (hG : GF w M) (a0 : List Int) (ao1 : Option Addr) (cap1 : Nat) (f1 : RSl (rInt .u8) 5 w M ao1 cap1 a0) (a1 : Int) (a2 : Int) (a3 : Bool) (a4 : Bool) (k : Nat) (r : List Int × List UInt8) (H : strconv_formatBits.f k a0 a1 a2 a3 a4 = some r) :
    To Tryz.prog 163 [.slice ao1 a0.length cap1, .int .u64 a1, .int .i64 a2, .bool a3, .bool a4] w fun v w' => ∃ (ao82 : Option Addr) (cap82 : Nat), v = .tuple #[.slice ao82 r.1.length cap82, .string (bstr r.2)] ∧ (Own (rInt .u8) 5 w' (blkL ao82 ++ (M)) ao82 cap82 r.1) ∧ (∀ x ∈ blkL ao82, w.heap.size ≤ x) ∧ Chg [] w w' ∧ MS (blkL ao82 ++ (M)) w' := by
 unfold strconv_formatBits.f at H
 refine ent Tryz.func163 rfl [(0, .slice ao1 a0.length cap1), (1, .int .u64 a1), (2, .int .i64 a2), (3, .bool a3), (4, .bool a4)] rfl (by rfl) fun a ha => ?_
 have hC : Chg [] w w := Chg.refl _ _
 refine wp_seq_k fun K2 hK2 => ?_
 refine wp_region_lit ?_
 refine seg ha 2 [(0, .slice ao1 a0.length cap1), (1, .int .u64 a1), (2, .int .i64 a2), (3, .bool a3), (4, .bool a4), (10, .slice none 0 0), (11, .string (bstr ([] : List UInt8)))] (by kernel_rfl) fun a ha => ?_
 refine hK2 _ _ ?_; try clear hK2 K2
 refine wp_seq_k fun K3 hK3 => ?_
 refine wp_seq_k fun K4 hK4 => ?_
 refine wp_region_lit ?_
 refine seg ha 10 [(0, .slice ao1 a0.length cap1), (1, .int .u64 a1), (2, .int .i64 a2), (3, .bool a3), (4, .bool a4), (10, .slice none 0 0), (11, .string (bstr ([] : List UInt8))), (28, .bool (if (if (decide (a2 < (2 : Int))) = true then true else (a2 == (10 : Int))) = true then true else (decide (a2 > (36 : Int)))))] (by kernel_rfl) fun a ha => ?_
 refine hK4 _ _ ?_; try clear hK4 K4
 refine cnd ha rfl (fun hc5 => ?_) (fun hc5 => ?_)
 ·have H := ite_t hc5 H
  exact nomatch (show none = some _ from H)
 ·have H := ite_f hc5 H
  refine wp_skip ?_
  refine hK3 _ _ ?_; try clear hK3 K3
  refine wp_seq_k fun K6 hK6 => ?_
  refine wp_region_lit ?_
  refine al (cs := (cA .u8 65 (List.replicate 65 (0 : Int)))) (z := .agg (cA .u8 65 (List.replicate 65 (0 : Int))).toArray) ha (fun w => by kernel_rfl) rfl rfl rfl rfl fun a w7 g8 hN9 ha => ?_
  have o1 : Ok [] (M) w.heap.size := Ok.nil _ _
  have o2 : Ok ([g8] ++ (M)) (M) w.heap.size := (Ok.app (hN9.ok _) (Ok.refl _ _))
  have hG := hG.chg hN9.chg o1 o2
  have f1 := f1.chg hN9.chg o1 o2
  have p_i10_M : ∀ x ∈ [g8], x ∉ M := fun x hx hy => absurd (hM x (hy)) (Nat.not_lt.2 ((hN9.ge1) x hx))
  have e_i10 : ∀ x ∈ [g8], w.heap.size ≤ x := fun x hx => Nat.le_trans hC.size ((hN9.ge1) x hx)
  have hM : MS ([g8] ++ (M)) w7 := (MS.app hN9.ms (hM.chg hN9.chg))
  have hC := hC.trans hN9.chg (Ok.nil _ _)
  have hBg8 : Box w7 g8 (cA .u8 65 (List.replicate 65 (0 : Int))) := hN9.box
  refine hK6 _ _ ?_; try clear hK6 K6
  refine wp_seq_k fun K11 hK11 => ?_
  refine wp_region_lit ?_
  refine seg ha 1 [(0, .slice ao1 a0.length cap1), (1, .int .u64 a1), (2, .int .i64 a2), (3, .bool a3), (4, .bool a4), (10, .slice none 0 0), (11, .string (bstr ([] : List UInt8))), (12, .pointer (some ⟨g8, 0, none⟩)), (13, .int .i64 (65 : Int))] (by kernel_rfl) fun a ha => ?_
  refine hK11 _ _ ?_; try clear hK11 K11
  refine wp_seq_k fun K12 hK12 => ?_
  obtain ⟨s13, H13, H⟩ := bind_some H
  have J13 : ∀ (a : Act) (w13 : World), Has a Tryz.f163.ntmps [(0, .slice ao1 a0.length cap1), (1, .int .u64 s13), (2, .int .i64 a2), (3, .bool a3), (4, .bool a4), (10, .slice none 0 0), (11, .string (bstr ([] : List UInt8))), (12, .pointer (some ⟨g8, 0, none⟩)), (13, .int .i64 (65 : Int))] → (RSl (rInt .u8) 5 w13 ([g8] ++ (M)) ao1 cap1 a0) → (Box w13 g8 (cA .u8 65 (List.replicate 65 (0 : Int)))) → (GF w13 ([g8] ++ (M))) → (Chg [] w w13) → (MS ([g8] ++ (M)) w13) → K12 a w13 := by
   intro a w13 ha f1 hBg8 hG hC hM
   refine hK12 _ _ ?_; try clear hK12 K12
   refine wp_seq_k fun K14 hK14 => ?_
   obtain ⟨s15, H15, H⟩ := bind_some H
   have J15 : ∀ (a : Act) (w15 : World), Has a Tryz.f163.ntmps [(0, .slice ao1 a0.length cap1), (3, .bool a3), (4, .bool a4), (10, .slice none 0 0), (11, .string (bstr ([] : List UInt8))), (12, .pointer (some ⟨g8, 0, none⟩)), (13, .int .i64 s15.1)] → (RSl (rInt .u8) 5 w15 ([g8] ++ (M)) ao1 cap1 a0) → (Box w15 g8 (cA .u8 65 s15.2)) → (GF w15 ([g8] ++ (M))) → (Chg [] w w15) → (MS ([g8] ++ (M)) w15) → K14 a w15 := by
    intro a w15 ha f1 hBg8 hG hC hM
    refine hK14 _ _ ?_; try clear hK14 K14
    refine wp_seq_k fun K16 hK16 => ?_
    obtain ⟨s17, H17, H⟩ := bind_some H
    have J17 : ∀ (a : Act) (w17 : World), Has a Tryz.f163.ntmps [(0, .slice ao1 a0.length cap1), (4, .bool a4), (10, .slice none 0 0), (11, .string (bstr ([] : List UInt8))), (12, .pointer (some ⟨g8, 0, none⟩)), (13, .int .i64 s17.1)] → (RSl (rInt .u8) 5 w17 ([g8] ++ (M)) ao1 cap1 a0) → (Box w17 g8 (cA .u8 65 s17.2)) → (GF w17 ([g8] ++ (M))) → (Chg [] w w17) → (MS ([g8] ++ (M)) w17) → K16 a w17 := by
     intro a w17 ha f1 hBg8 hG hC hM
     refine hK16 _ _ ?_; try clear hK16 K16
     refine wp_seq_k fun K18 hK18 => ?_
     refine wp_seq_k fun K19 hK19 => ?_
     refine wp_region_lit ?_
     refine seg ha 1 [(0, .slice ao1 a0.length cap1), (10, .slice none 0 0), (11, .string (bstr ([] : List UInt8))), (12, .pointer (some ⟨g8, 0, none⟩)), (13, .int .i64 s17.1), (94, .bool a4)] (by kernel_rfl) fun a ha => ?_
     refine hK19 _ _ ?_; try clear hK19 K19
     refine cnd ha rfl (fun hc20 => ?_) (fun hc20 => ?_)
     ·have H := ite_t hc20 H
      exact nomatch (show none = some _ from H)
     ·have H := ite_f hc20 H
      refine wp_skip ?_
      refine hK18 _ _ ?_; try clear hK18 K18
      refine wp_seq_k fun K21 hK21 => ?_
      refine wp_region_lit ?_
      refine seg ha 1 [(10, .slice none 0 0), (12, .pointer (some ⟨g8, 0, none⟩)), (99, .int .i64 s17.1)] (by kernel_rfl) fun a ha => ?_
      have fw22 : RSl (rInt .u8) 5 w17 (butL g8 w17) (some ⟨g8, 0, none⟩) 65 (arL 65 s17.2) := RSl.ofA ([] : List Value) ([] : List Value) (Box.cells hBg8) butL_self (by kernel_rfl) rfl
      obtain ⟨⟨hx23, hx23', hx23''⟩, H⟩ := ite_some H
      obtain ⟨ao23, cap23, f23, hr23⟩ := slA_run (kk := .u8) (T := 5) (N := 65) (g := g8) (o' := 0) (xs := (arL 65 s17.2)) (t := 195) (lo := (Option.some (Operand.tmp 99))) (hi := Option.none) (l := s17.1) (h := (65 : Int)) (dd := some 100) (ty := 36) (pos := "itoa.go:146") (af := #[{ on := 0, ground := Ground.data }]) (gd := Option.none) ha (by kernel_rfl) (by kernel_rfl) (x := (Operand.tmp 12)) rfl (arL_length _ _) rfl rfl fw22 hx23 hx23' (by rw [arL_length]; exact hx23'')
      refine hop (v := .slice ao23 (((arL 65 s17.2).take (Int.toNat (65 : Int))).drop (Int.toNat s17.1)).length cap23) (w' := w17) ha rfl rfl rfl (hr23 _) fun a ha => ?_
      refine cvs ha rfl (by kernel_rfl) (by kernel_rfl) (by kernel_rfl) rfl rfl rfl f23 fun a ha => ?_
      refine seg ha 1 [(10, .slice none 0 0), (11, .string (bstr (b2s (((arL 65 s17.2).take (Int.toNat (65 : Int))).drop (Int.toNat s17.1)))))] (by kernel_rfl) fun a ha => ?_
      refine hK21 _ _ ?_; try clear hK21 K21
      refine wp_ret ?_
      try simp only [Exit.then, Exit.inBlock]
      have o1 : Ok [] ([g8] ++ (M)) w17.heap.size := Ok.nil _ _
      have o2 : Ok (blkL none ++ (M)) ([g8] ++ (M)) w17.heap.size := (Ok.app (fun _ h => nomatch h) (fun _ h => .inl (mr (h))))
      have hG := hG.chg (Chg.refl [] _) o1 o2
      have p_z24_M : ∀ x ∈ blkL none, x ∉ M := fun x hx hy => absurd (hM x (mr (hy))) (Nat.not_lt.2 ((fun _ h => nomatch h) x hx))
      have e_z24 : ∀ x ∈ blkL none, w.heap.size ≤ x := fun x hx => Nat.le_trans hC.size ((fun _ h => nomatch h) x hx)
      have hM : MS (blkL none ++ (M)) w17 := (MS.app (fun _ h => nomatch h) (fun x h => hM.chg (Chg.refl [] _) x (mr (h))))
      obtain rfl := Option.some.inj H
      refine rt2 ha rfl rfl rfl ?_
      exact ⟨none, 0, rfl, Own.nil, e_z24, hC, hM⟩
    have H := H17
    refine wp_seq_k fun K25 hK25 => ?_
    refine wp_region_lit ?_
    refine seg ha 1 [(0, .slice ao1 a0.length cap1), (4, .bool a4), (10, .slice none 0 0), (11, .string (bstr ([] : List UInt8))), (12, .pointer (some ⟨g8, 0, none⟩)), (13, .int .i64 s15.1), (89, .bool a3)] (by kernel_rfl) fun a ha => ?_
    refine hK25 _ _ ?_; try clear hK25 K25
    refine cnd ha rfl (fun hc26 => ?_) (fun hc26 => ?_)
    ·have H := ite_t hc26 H
     refine wp_seq_k fun K27 hK27 => ?_
     refine wp_region_lit ?_
     refine seg ha 3 [(0, .slice ao1 a0.length cap1), (4, .bool a4), (10, .slice none 0 0), (11, .string (bstr ([] : List UInt8))), (12, .pointer (some ⟨g8, 0, none⟩)), (13, .int .i64 (IntKind.i64.wrap (s15.1 - (1 : Int))))] (by kernel_rfl) fun a ha => ?_
     refine hK27 _ _ ?_; try clear hK27 K27
     refine wp_region_lit ?_
     refine seg ha 1 [(0, .slice ao1 a0.length cap1), (4, .bool a4), (10, .slice none 0 0), (11, .string (bstr ([] : List UInt8))), (12, .pointer (some ⟨g8, 0, none⟩)), (13, .int .i64 (IntKind.i64.wrap (s15.1 - (1 : Int)))), (92, .int .i64 (IntKind.i64.wrap (s15.1 - (1 : Int))))] (by kernel_rfl) fun a ha => ?_
     obtain ⟨⟨hx28, hx28'⟩, H⟩ := ite_some H
     have hi28 : (Int.toNat (IntKind.i64.wrap (s15.1 - (1 : Int)))) < 65 := by omega
     refine hop (v := .pointer (some ⟨g8, 0 + (Int.toNat (IntKind.i64.wrap (s15.1 - (1 : Int)))), none⟩)) (w' := w15) ha rfl rfl rfl (ixA_run (T := 5) (N := 65) (g := g8) (o' := 0) (k := .i64) (i := IntKind.i64.wrap (s15.1 - (1 : Int))) ha (by kernel_rfl) (by kernel_rfl) (by rfl) (by rfl) hx28 hx28' _) fun a ha => ?_
     refine st (o' := 0 + (Int.toNat (IntKind.i64.wrap (s15.1 - (1 : Int))))) ha rfl rfl rfl (by kernel_rfl) rfl rfl hBg8 (arr_lt (k := .u8) (m := 65) (x := s15.2) ([] : List Value) ([] : List Value) (by kernel_rfl) hi28) fun a w29 ha hb2 hc30 _ => ?_
     have o1 : Ok [g8] ([g8] ++ (M)) w15.heap.size := (fun _ h => .inl (ml h))
     have o2 : Ok ([g8] ++ (M)) ([g8] ++ (M)) w15.heap.size := (Ok.refl _ _)
     have hG := hG.chg hc30 o1 o2
     have f1 := f1.chg hc30 o1 o2
     have hM : MS ([g8] ++ (M)) w29 := (hM.chg hc30)
     have hC := hC.trans hc30 (fun x h => .inr (e_i10 x h))
     have hBg8 : Box w29 g8 (cA .u8 65 ((arL 65 s15.2).set (Int.toNat (IntKind.i64.wrap (s15.1 - (1 : Int)))) (45 : Int))) := Box.setA (k := .u8) (m := 65) (x := s15.2) ([] : List Value) ([] : List Value) hb2 (by kernel_rfl) hi28 (by kernel_rfl)
     obtain rfl := Option.some.inj H
     exact J17 _ _ (ha.sel (by kernel_rfl)) f1 hBg8 hG hC hM
    ·have H := ite_f hc26 H
     refine wp_skip ?_
     obtain rfl := Option.some.inj H
     exact J17 _ _ (ha.sel (by kernel_rfl)) f1 hBg8 hG hC hM
   have H := H15
   refine wp_seq_k fun K31 hK31 => ?_
   refine wp_region_lit ?_
   refine seg ha 1 [(0, .slice ao1 a0.length cap1), (1, .int .u64 s13), (2, .int .i64 a2), (3, .bool a3), (4, .bool a4), (10, .slice none 0 0), (11, .string (bstr ([] : List UInt8))), (12, .pointer (some ⟨g8, 0, none⟩)), (13, .int .i64 (65 : Int)), (33, .int .i64 a2)] (by kernel_rfl) fun a ha => ?_
   obtain ⟨t32, H32, H⟩ := bind_some H
   refine cl ha (by rfl) (by kernel_rfl) (by rfl) (by rfl) (by rfl) (strconv_isPowerOfTwo.walk w13 _ hM a2 _ H32) ?_
   rintro _ w32 ⟨rfl, hc32, hMn⟩ a ha
   have o1 : Ok [] ([g8] ++ (M)) w13.heap.size := Ok.nil _ _
   have o2 : Ok ([g8] ++ (M)) ([g8] ++ (M)) w13.heap.size := (Ok.refl _ _)
   have hG := hG.chg hc32 o1 o2
   have f1 := f1.chg hc32 o1 o2
   have hBg8 := hBg8.chg hc32 (fun h => nomatch h)
   have hM : MS ([g8] ++ (M)) w32 := (hM.chg hc32)
   have hC := hC.trans hc32 (Ok.nil _ _)
   refine hK31 _ _ ?_; try clear hK31 K31
   refine cnd ha rfl (fun hc33 => ?_) (fun hc33 => ?_)
   ·have H := ite_t hc33 H
    refine wp_seq_k fun K34 hK34 => ?_
    refine wp_region_lit ?_
    refine seg ha 2 [(0, .slice ao1 a0.length cap1), (1, .int .u64 s13), (2, .int .i64 a2), (3, .bool a3), (4, .bool a4), (10, .slice none 0 0), (11, .string (bstr ([] : List UInt8))), (12, .pointer (some ⟨g8, 0, none⟩)), (13, .int .i64 (65 : Int)), (36, .int .u64 (IntKind.u64.wrap a2))] (by kernel_rfl) fun a ha => ?_
    obtain ⟨t35, H35, H⟩ := bind_some H
    refine cl ha (by rfl) (by kernel_rfl) (by rfl) (by rfl) (by rfl) (bits_TrailingZeros.walk w32 _ hM hG (IntKind.u64.wrap a2) _ H35) ?_
    rintro _ w35 ⟨rfl, hc35, hMn⟩ a ha
    have o1 : Ok [] ([g8] ++ (M)) w32.heap.size := Ok.nil _ _
    have o2 : Ok ([g8] ++ (M)) ([g8] ++ (M)) w32.heap.size := (Ok.refl _ _)
    have hG := hG.chg hc35 o1 o2
    have f1 := f1.chg hc35 o1 o2
    have hBg8 := hBg8.chg hc35 (fun h => nomatch h)
    have hM : MS ([g8] ++ (M)) w35 := (hM.chg hc35)
    have hC := hC.trans hc35 (Ok.nil _ _)
    refine seg ha 2 [(0, .slice ao1 a0.length cap1), (1, .int .u64 s13), (2, .int .i64 a2), (3, .bool a3), (4, .bool a4), (10, .slice none 0 0), (11, .string (bstr ([] : List UInt8))), (12, .pointer (some ⟨g8, 0, none⟩)), (13, .int .i64 (65 : Int)), (14, .int .u64 (IntKind.u64.wrap t35))] (by kernel_rfl) fun a ha => ?_
    refine hK34 _ _ ?_; try clear hK34 K34
    refine wp_seq_k fun K36 hK36 => ?_
    refine wp_region_lit ?_
    refine seg ha 3 [(0, .slice ao1 a0.length cap1), (1, .int .u64 s13), (2, .int .i64 a2), (3, .bool a3), (4, .bool a4), (10, .slice none 0 0), (11, .string (bstr ([] : List UInt8))), (12, .pointer (some ⟨g8, 0, none⟩)), (13, .int .i64 (65 : Int)), (14, .int .u64 (IntKind.u64.wrap t35)), (15, .int .u64 (IntKind.u64.wrap a2))] (by kernel_rfl) fun a ha => ?_
    refine hK36 _ _ ?_; try clear hK36 K36
    refine wp_seq_k fun K37 hK37 => ?_
    refine wp_region_lit ?_
    refine seg ha 4 [(0, .slice ao1 a0.length cap1), (1, .int .u64 s13), (3, .bool a3), (4, .bool a4), (10, .slice none 0 0), (11, .string (bstr ([] : List UInt8))), (12, .pointer (some ⟨g8, 0, none⟩)), (13, .int .i64 (65 : Int)), (14, .int .u64 (IntKind.u64.wrap t35)), (15, .int .u64 (IntKind.u64.wrap a2)), (16, .int .u64 (IntKind.u64.wrap ((IntKind.u64.wrap a2) - (1 : Int))))] (by kernel_rfl) fun a ha => ?_
    refine hK37 _ _ ?_; try clear hK37 K37
    refine wp_seq_k fun K38 hK38 => ?_
    refine wp_block ?_
    obtain ⟨s39, H39, H⟩ := bind_some H
    have J39 : ∀ (a : Act) (wx39 : World), Has a Tryz.f163.ntmps [(0, .slice ao1 a0.length cap1), (1, .int .u64 s39.1), (3, .bool a3), (4, .bool a4), (10, .slice none 0 0), (11, .string (bstr ([] : List UInt8))), (12, .pointer (some ⟨g8, 0, none⟩)), (13, .int .i64 s39.2.1)] → (RSl (rInt .u8) 5 wx39 ([g8] ++ (M)) ao1 cap1 a0) → (Box wx39 g8 (cA .u8 65 s39.2.2)) → (GF wx39 ([g8] ++ (M))) → (Chg [] w wx39) → (MS ([g8] ++ (M)) wx39) → K38 a wx39 := by
     intro a wx39 ha f1 hBg8 hG hC hM
     refine hK38 _ _ ?_; try clear hK38 K38
     refine wp_seq_k fun K43 hK43 => ?_
     refine wp_region_lit ?_
     refine seg ha 3 [(0, .slice ao1 a0.length cap1), (1, .int .u64 s39.1), (3, .bool a3), (4, .bool a4), (10, .slice none 0 0), (11, .string (bstr ([] : List UInt8))), (12, .pointer (some ⟨g8, 0, none⟩)), (13, .int .i64 (IntKind.i64.wrap (s39.2.1 - (1 : Int))))] (by kernel_rfl) fun a ha => ?_
     refine hK43 _ _ ?_; try clear hK43 K43
     refine wp_region_lit ?_
     refine seg ha 2 [(0, .slice ao1 a0.length cap1), (3, .bool a3), (4, .bool a4), (10, .slice none 0 0), (11, .string (bstr ([] : List UInt8))), (12, .pointer (some ⟨g8, 0, none⟩)), (13, .int .i64 (IntKind.i64.wrap (s39.2.1 - (1 : Int)))), (60, .int .i64 (IntKind.i64.wrap (s39.2.1 - (1 : Int)))), (61, .int .u64 s39.1)] (by kernel_rfl) fun a ha => ?_
     obtain ⟨⟨hx44, hx44'⟩, H⟩ := ite_some H
     refine hop (v := .int .u8 ((([48, 49, 50, 51, 52, 53, 54, 55, 56, 57, 97, 98, 99, 100, 101, 102, 103, 104, 105, 106, 107, 108, 109, 110, 111, 112, 113, 114, 115, 116, 117, 118, 119, 120, 121, 122] : List UInt8).getD (Int.toNat s39.1) 0).toNat : Int)) (w' := wx39) ha rfl rfl rfl (sidx_run (l := ([48, 49, 50, 51, 52, 53, 54, 55, 56, 57, 97, 98, 99, 100, 101, 102, 103, 104, 105, 106, 107, 108, 109, 110, 111, 112, 113, 114, 115, 116, 117, 118, 119, 120, 121, 122] : List UInt8)) (k := .u64) (i := s39.1) ha (by kernel_rfl) (by rfl) (by rfl) hx44 hx44' _) fun a ha => ?_
     obtain ⟨⟨hx45, hx45'⟩, H⟩ := ite_some H
     have hi45 : (Int.toNat (IntKind.i64.wrap (s39.2.1 - (1 : Int)))) < 65 := by omega
     refine hop (v := .pointer (some ⟨g8, 0 + (Int.toNat (IntKind.i64.wrap (s39.2.1 - (1 : Int)))), none⟩)) (w' := wx39) ha rfl rfl rfl (ixA_run (T := 5) (N := 65) (g := g8) (o' := 0) (k := .i64) (i := IntKind.i64.wrap (s39.2.1 - (1 : Int))) ha (by kernel_rfl) (by kernel_rfl) (by rfl) (by rfl) hx45 hx45' _) fun a ha => ?_
     refine st (o' := 0 + (Int.toNat (IntKind.i64.wrap (s39.2.1 - (1 : Int))))) ha rfl rfl rfl (by kernel_rfl) rfl rfl hBg8 (arr_lt (k := .u8) (m := 65) (x := s39.2.2) ([] : List Value) ([] : List Value) (by kernel_rfl) hi45) fun a w46 ha hb2 hc47 _ => ?_
     have o1 : Ok [g8] ([g8] ++ (M)) wx39.heap.size := (fun _ h => .inl (ml h))
     have o2 : Ok ([g8] ++ (M)) ([g8] ++ (M)) wx39.heap.size := (Ok.refl _ _)
     have hG := hG.chg hc47 o1 o2
     have f1 := f1.chg hc47 o1 o2
     have hM : MS ([g8] ++ (M)) w46 := (hM.chg hc47)
     have hC := hC.trans hc47 (fun x h => .inr (e_i10 x h))
     have hBg8 : Box w46 g8 (cA .u8 65 ((arL 65 s39.2.2).set (Int.toNat (IntKind.i64.wrap (s39.2.1 - (1 : Int)))) ((([48, 49, 50, 51, 52, 53, 54, 55, 56, 57, 97, 98, 99, 100, 101, 102, 103, 104, 105, 106, 107, 108, 109, 110, 111, 112, 113, 114, 115, 116, 117, 118, 119, 120, 121, 122] : List UInt8).getD (Int.toNat s39.1) 0).toNat : Int))) := Box.setA (k := .u8) (m := 65) (x := s39.2.2) ([] : List Value) ([] : List Value) hb2 (by kernel_rfl) hi45 (by kernel_rfl)
     obtain rfl := Option.some.inj H
     exact J15 _ _ (ha.sel (by kernel_rfl)) f1 hBg8 hG hC hM
    have Hc39 := H
    have H := H39
    refine wp_loop_ghost (fun kk a w39 => ∃ (x40 : Int) (x41 : Int) (x42 : List Int), strconv_formatBits.l0 a2 t35 kk x40 x41 x42 = some s39 ∧ Has a Tryz.f163.ntmps [(0, .slice ao1 a0.length cap1), (1, .int .u64 x40), (3, .bool a3), (4, .bool a4), (10, .slice none 0 0), (11, .string (bstr ([] : List UInt8))), (12, .pointer (some ⟨g8, 0, none⟩)), (13, .int .i64 x41), (14, .int .u64 (IntKind.u64.wrap t35)), (15, .int .u64 (IntKind.u64.wrap a2)), (16, .int .u64 (IntKind.u64.wrap ((IntKind.u64.wrap a2) - (1 : Int))))] ∧ (RSl (rInt .u8) 5 w39 ([g8] ++ (M)) ao1 cap1 a0) ∧ (Box w39 g8 (cA .u8 65 x42)) ∧ (GF w39 ([g8] ++ (M))) ∧ (Chg [] w w39) ∧ (MS ([g8] ++ (M)) w39)) k ?_ ?_
    ·skip
     exact ⟨s13, (65 : Int), (List.replicate 65 (0 : Int)), H, (ha.sel (by kernel_rfl)), f1, hBg8, hG, hC, hM⟩
    ·rintro kk a w39 ⟨x40, x41, x42, H, ha, f1, hBg8, hG, hC, hM⟩
     obtain _ | kk := kk
     ·exact nomatch (show none = some _ from H)
     rw [strconv_formatBits.l0] at H
     refine wp_seq_k fun K48 hK48 => ?_
     refine wp_seq_k fun K49 hK49 => ?_
     refine wp_region_lit ?_
     refine seg ha 3 [(0, .slice ao1 a0.length cap1), (1, .int .u64 x40), (3, .bool a3), (4, .bool a4), (10, .slice none 0 0), (11, .string (bstr ([] : List UInt8))), (12, .pointer (some ⟨g8, 0, none⟩)), (13, .int .i64 x41), (14, .int .u64 (IntKind.u64.wrap t35)), (15, .int .u64 (IntKind.u64.wrap a2)), (16, .int .u64 (IntKind.u64.wrap ((IntKind.u64.wrap a2) - (1 : Int)))), (46, .bool (decide (x40 ≥ (IntKind.u64.wrap a2))))] (by kernel_rfl) fun a ha => ?_
     refine hK49 _ _ ?_; try clear hK49 K49
     refine cnd ha rfl (fun hc50 => ?_) (fun hc50 => ?_)
     ·have H := ite_t hc50 H
      refine wp_skip ?_
      refine hK48 _ _ ?_; try clear hK48 K48
      refine wp_block ?_
      refine wp_seq_k fun K51 hK51 => ?_
      refine wp_region_lit ?_
      refine seg ha 3 [(0, .slice ao1 a0.length cap1), (1, .int .u64 x40), (3, .bool a3), (4, .bool a4), (10, .slice none 0 0), (11, .string (bstr ([] : List UInt8))), (12, .pointer (some ⟨g8, 0, none⟩)), (13, .int .i64 (IntKind.i64.wrap (x41 - (1 : Int)))), (14, .int .u64 (IntKind.u64.wrap t35)), (15, .int .u64 (IntKind.u64.wrap a2)), (16, .int .u64 (IntKind.u64.wrap ((IntKind.u64.wrap a2) - (1 : Int))))] (by kernel_rfl) fun a ha => ?_
      refine hK51 _ _ ?_; try clear hK51 K51
      refine wp_seq_k fun K52 hK52 => ?_
      refine wp_region_lit ?_
      refine seg ha 4 [(0, .slice ao1 a0.length cap1), (1, .int .u64 x40), (3, .bool a3), (4, .bool a4), (10, .slice none 0 0), (11, .string (bstr ([] : List UInt8))), (12, .pointer (some ⟨g8, 0, none⟩)), (13, .int .i64 (IntKind.i64.wrap (x41 - (1 : Int)))), (14, .int .u64 (IntKind.u64.wrap t35)), (15, .int .u64 (IntKind.u64.wrap a2)), (16, .int .u64 (IntKind.u64.wrap ((IntKind.u64.wrap a2) - (1 : Int)))), (49, .int .i64 (IntKind.i64.wrap (x41 - (1 : Int)))), (52, .int .u64 (IntKind.u64.wrap (BitVec.ofInt IntKind.u64.bits x40 &&& BitVec.ofInt IntKind.u64.bits (IntKind.u64.wrap ((IntKind.u64.wrap a2) - (1 : Int)))).toNat))] (by kernel_rfl) fun a ha => ?_
      obtain ⟨⟨hx53, hx53'⟩, H⟩ := ite_some H
      refine hop (v := .int .u8 ((([48, 49, 50, 51, 52, 53, 54, 55, 56, 57, 97, 98, 99, 100, 101, 102, 103, 104, 105, 106, 107, 108, 109, 110, 111, 112, 113, 114, 115, 116, 117, 118, 119, 120, 121, 122] : List UInt8).getD (Int.toNat (IntKind.u64.wrap (BitVec.ofInt IntKind.u64.bits x40 &&& BitVec.ofInt IntKind.u64.bits (IntKind.u64.wrap ((IntKind.u64.wrap a2) - (1 : Int)))).toNat)) 0).toNat : Int)) (w' := w39) ha rfl rfl rfl (sidx_run (l := ([48, 49, 50, 51, 52, 53, 54, 55, 56, 57, 97, 98, 99, 100, 101, 102, 103, 104, 105, 106, 107, 108, 109, 110, 111, 112, 113, 114, 115, 116, 117, 118, 119, 120, 121, 122] : List UInt8)) (k := .u64) (i := IntKind.u64.wrap (BitVec.ofInt IntKind.u64.bits x40 &&& BitVec.ofInt IntKind.u64.bits (IntKind.u64.wrap ((IntKind.u64.wrap a2) - (1 : Int)))).toNat) ha (by kernel_rfl) (by rfl) (by rfl) hx53 hx53' _) fun a ha => ?_
      obtain ⟨⟨hx54, hx54'⟩, H⟩ := ite_some H
      have hi54 : (Int.toNat (IntKind.i64.wrap (x41 - (1 : Int)))) < 65 := by omega
      refine hop (v := .pointer (some ⟨g8, 0 + (Int.toNat (IntKind.i64.wrap (x41 - (1 : Int)))), none⟩)) (w' := w39) ha rfl rfl rfl (ixA_run (T := 5) (N := 65) (g := g8) (o' := 0) (k := .i64) (i := IntKind.i64.wrap (x41 - (1 : Int))) ha (by kernel_rfl) (by kernel_rfl) (by rfl) (by rfl) hx54 hx54' _) fun a ha => ?_
      refine st (o' := 0 + (Int.toNat (IntKind.i64.wrap (x41 - (1 : Int))))) ha rfl rfl rfl (by kernel_rfl) rfl rfl hBg8 (arr_lt (k := .u8) (m := 65) (x := x42) ([] : List Value) ([] : List Value) (by kernel_rfl) hi54) fun a w55 ha hb2 hc56 _ => ?_
      have o1 : Ok [g8] ([g8] ++ (M)) w39.heap.size := (fun _ h => .inl (ml h))
      have o2 : Ok ([g8] ++ (M)) ([g8] ++ (M)) w39.heap.size := (Ok.refl _ _)
      have hG := hG.chg hc56 o1 o2
      have f1 := f1.chg hc56 o1 o2
      have hM : MS ([g8] ++ (M)) w55 := (hM.chg hc56)
      have hC := hC.trans hc56 (fun x h => .inr (e_i10 x h))
      have hBg8 : Box w55 g8 (cA .u8 65 ((arL 65 x42).set (Int.toNat (IntKind.i64.wrap (x41 - (1 : Int)))) ((([48, 49, 50, 51, 52, 53, 54, 55, 56, 57, 97, 98, 99, 100, 101, 102, 103, 104, 105, 106, 107, 108, 109, 110, 111, 112, 113, 114, 115, 116, 117, 118, 119, 120, 121, 122] : List UInt8).getD (Int.toNat (IntKind.u64.wrap (BitVec.ofInt IntKind.u64.bits x40 &&& BitVec.ofInt IntKind.u64.bits (IntKind.u64.wrap ((IntKind.u64.wrap a2) - (1 : Int)))).toNat)) 0).toNat : Int))) := Box.setA (k := .u8) (m := 65) (x := x42) ([] : List Value) ([] : List Value) hb2 (by kernel_rfl) hi54 (by kernel_rfl)
      refine hK52 _ _ ?_; try clear hK52 K52
      refine wp_region_lit ?_
      refine seg ha 2 [(0, .slice ao1 a0.length cap1), (3, .bool a3), (4, .bool a4), (10, .slice none 0 0), (11, .string (bstr ([] : List UInt8))), (12, .pointer (some ⟨g8, 0, none⟩)), (13, .int .i64 (IntKind.i64.wrap (x41 - (1 : Int)))), (14, .int .u64 (IntKind.u64.wrap t35)), (15, .int .u64 (IntKind.u64.wrap a2)), (16, .int .u64 (IntKind.u64.wrap ((IntKind.u64.wrap a2) - (1 : Int)))), (55, .int .u64 x40), (56, .int .u64 (IntKind.u64.wrap t35))] (by kernel_rfl) fun a ha => ?_
      obtain ⟨hx57, H⟩ := ite_some H
      refine hop (v := .int .u64 (Int.fdiv x40 (2 ^ (min (Int.toNat (IntKind.u64.wrap t35)) IntKind.u64.bits)))) (w' := w55) ha rfl rfl rfl (shr_run ha (by rfl) (by rfl) hx57 _) fun a ha => ?_
      refine seg ha 1 [(0, .slice ao1 a0.length cap1), (1, .int .u64 (Int.fdiv x40 (2 ^ (min (Int.toNat (IntKind.u64.wrap t35)) IntKind.u64.bits)))), (3, .bool a3), (4, .bool a4), (10, .slice none 0 0), (11, .string (bstr ([] : List UInt8))), (12, .pointer (some ⟨g8, 0, none⟩)), (13, .int .i64 (IntKind.i64.wrap (x41 - (1 : Int)))), (14, .int .u64 (IntKind.u64.wrap t35)), (15, .int .u64 (IntKind.u64.wrap a2)), (16, .int .u64 (IntKind.u64.wrap ((IntKind.u64.wrap a2) - (1 : Int))))] (by kernel_rfl) fun a ha => ?_
      exact ⟨kk, Nat.lt_succ_self _, ⟨Int.fdiv x40 (2 ^ (min (Int.toNat (IntKind.u64.wrap t35)) IntKind.u64.bits)), IntKind.i64.wrap (x41 - (1 : Int)), ((arL 65 x42).set (Int.toNat (IntKind.i64.wrap (x41 - (1 : Int)))) ((([48, 49, 50, 51, 52, 53, 54, 55, 56, 57, 97, 98, 99, 100, 101, 102, 103, 104, 105, 106, 107, 108, 109, 110, 111, 112, 113, 114, 115, 116, 117, 118, 119, 120, 121, 122] : List UInt8).getD (Int.toNat (IntKind.u64.wrap (BitVec.ofInt IntKind.u64.bits x40 &&& BitVec.ofInt IntKind.u64.bits (IntKind.u64.wrap ((IntKind.u64.wrap a2) - (1 : Int)))).toNat)) 0).toNat : Int)), H, (ha.sel (by kernel_rfl)), f1, hBg8, hG, hC, hM⟩⟩
     ·have H := ite_f hc50 H
      refine wp_exit ?_
      simp only [Exit.then, Exit.inBlock, ↓reduceIte, Nat.reduceEqDiff]
      obtain rfl := Option.some.inj H
      exact J39 _ _ (ha.sel (by kernel_rfl)) f1 hBg8 hG hC hM
   ·have H := ite_f hc33 H
    refine wp_seq_k fun K58 hK58 => ?_
    refine wp_region_lit ?_
    refine seg ha 3 [(0, .slice ao1 a0.length cap1), (1, .int .u64 s13), (3, .bool a3), (4, .bool a4), (10, .slice none 0 0), (11, .string (bstr ([] : List UInt8))), (12, .pointer (some ⟨g8, 0, none⟩)), (13, .int .i64 (65 : Int)), (17, .int .u64 (IntKind.u64.wrap a2))] (by kernel_rfl) fun a ha => ?_
    refine hK58 _ _ ?_; try clear hK58 K58
    refine wp_seq_k fun K59 hK59 => ?_
    refine wp_block ?_
    obtain ⟨s60, H60, H⟩ := bind_some H
    have J60 : ∀ (a : Act) (wx60 : World), Has a Tryz.f163.ntmps [(0, .slice ao1 a0.length cap1), (1, .int .u64 s60.1), (3, .bool a3), (4, .bool a4), (10, .slice none 0 0), (11, .string (bstr ([] : List UInt8))), (12, .pointer (some ⟨g8, 0, none⟩)), (13, .int .i64 s60.2.1)] → (RSl (rInt .u8) 5 wx60 ([g8] ++ (M)) ao1 cap1 a0) → (Box wx60 g8 (cA .u8 65 s60.2.2)) → (GF wx60 ([g8] ++ (M))) → (Chg [] w wx60) → (MS ([g8] ++ (M)) wx60) → K59 a wx60 := by
     intro a wx60 ha f1 hBg8 hG hC hM
     refine hK59 _ _ ?_; try clear hK59 K59
     refine wp_seq_k fun K64 hK64 => ?_
     refine wp_region_lit ?_
     refine seg ha 3 [(0, .slice ao1 a0.length cap1), (1, .int .u64 s60.1), (3, .bool a3), (4, .bool a4), (10, .slice none 0 0), (11, .string (bstr ([] : List UInt8))), (12, .pointer (some ⟨g8, 0, none⟩)), (13, .int .i64 (IntKind.i64.wrap (s60.2.1 - (1 : Int))))] (by kernel_rfl) fun a ha => ?_
     refine hK64 _ _ ?_; try clear hK64 K64
     refine wp_region_lit ?_
     refine seg ha 2 [(0, .slice ao1 a0.length cap1), (3, .bool a3), (4, .bool a4), (10, .slice none 0 0), (11, .string (bstr ([] : List UInt8))), (12, .pointer (some ⟨g8, 0, none⟩)), (13, .int .i64 (IntKind.i64.wrap (s60.2.1 - (1 : Int)))), (85, .int .i64 (IntKind.i64.wrap (s60.2.1 - (1 : Int)))), (86, .int .u64 s60.1)] (by kernel_rfl) fun a ha => ?_
     obtain ⟨⟨hx65, hx65'⟩, H⟩ := ite_some H
     refine hop (v := .int .u8 ((([48, 49, 50, 51, 52, 53, 54, 55, 56, 57, 97, 98, 99, 100, 101, 102, 103, 104, 105, 106, 107, 108, 109, 110, 111, 112, 113, 114, 115, 116, 117, 118, 119, 120, 121, 122] : List UInt8).getD (Int.toNat s60.1) 0).toNat : Int)) (w' := wx60) ha rfl rfl rfl (sidx_run (l := ([48, 49, 50, 51, 52, 53, 54, 55, 56, 57, 97, 98, 99, 100, 101, 102, 103, 104, 105, 106, 107, 108, 109, 110, 111, 112, 113, 114, 115, 116, 117, 118, 119, 120, 121, 122] : List UInt8)) (k := .u64) (i := s60.1) ha (by kernel_rfl) (by rfl) (by rfl) hx65 hx65' _) fun a ha => ?_
     obtain ⟨⟨hx66, hx66'⟩, H⟩ := ite_some H
     have hi66 : (Int.toNat (IntKind.i64.wrap (s60.2.1 - (1 : Int)))) < 65 := by omega
     refine hop (v := .pointer (some ⟨g8, 0 + (Int.toNat (IntKind.i64.wrap (s60.2.1 - (1 : Int)))), none⟩)) (w' := wx60) ha rfl rfl rfl (ixA_run (T := 5) (N := 65) (g := g8) (o' := 0) (k := .i64) (i := IntKind.i64.wrap (s60.2.1 - (1 : Int))) ha (by kernel_rfl) (by kernel_rfl) (by rfl) (by rfl) hx66 hx66' _) fun a ha => ?_
     refine st (o' := 0 + (Int.toNat (IntKind.i64.wrap (s60.2.1 - (1 : Int))))) ha rfl rfl rfl (by kernel_rfl) rfl rfl hBg8 (arr_lt (k := .u8) (m := 65) (x := s60.2.2) ([] : List Value) ([] : List Value) (by kernel_rfl) hi66) fun a w67 ha hb2 hc68 _ => ?_
     have o1 : Ok [g8] ([g8] ++ (M)) wx60.heap.size := (fun _ h => .inl (ml h))
     have o2 : Ok ([g8] ++ (M)) ([g8] ++ (M)) wx60.heap.size := (Ok.refl _ _)
     have hG := hG.chg hc68 o1 o2
     have f1 := f1.chg hc68 o1 o2
     have hM : MS ([g8] ++ (M)) w67 := (hM.chg hc68)
     have hC := hC.trans hc68 (fun x h => .inr (e_i10 x h))
     have hBg8 : Box w67 g8 (cA .u8 65 ((arL 65 s60.2.2).set (Int.toNat (IntKind.i64.wrap (s60.2.1 - (1 : Int)))) ((([48, 49, 50, 51, 52, 53, 54, 55, 56, 57, 97, 98, 99, 100, 101, 102, 103, 104, 105, 106, 107, 108, 109, 110, 111, 112, 113, 114, 115, 116, 117, 118, 119, 120, 121, 122] : List UInt8).getD (Int.toNat s60.1) 0).toNat : Int))) := Box.setA (k := .u8) (m := 65) (x := s60.2.2) ([] : List Value) ([] : List Value) hb2 (by kernel_rfl) hi66 (by kernel_rfl)
     obtain rfl := Option.some.inj H
     exact J15 _ _ (ha.sel (by kernel_rfl)) f1 hBg8 hG hC hM
    have Hc60 := H
    have H := H60
    refine wp_loop_ghost (fun kk a w60 => ∃ (x61 : Int) (x62 : Int) (x63 : List Int), strconv_formatBits.l1 a2 kk x61 x62 x63 = some s60 ∧ Has a Tryz.f163.ntmps [(0, .slice ao1 a0.length cap1), (1, .int .u64 x61), (3, .bool a3), (4, .bool a4), (10, .slice none 0 0), (11, .string (bstr ([] : List UInt8))), (12, .pointer (some ⟨g8, 0, none⟩)), (13, .int .i64 x62), (17, .int .u64 (IntKind.u64.wrap a2))] ∧ (RSl (rInt .u8) 5 w60 ([g8] ++ (M)) ao1 cap1 a0) ∧ (Box w60 g8 (cA .u8 65 x63)) ∧ (GF w60 ([g8] ++ (M))) ∧ (Chg [] w w60) ∧ (MS ([g8] ++ (M)) w60)) k ?_ ?_
    ·skip
     exact ⟨s13, (65 : Int), (List.replicate 65 (0 : Int)), H, (ha.sel (by kernel_rfl)), f1, hBg8, hG, hC, hM⟩
    ·rintro kk a w60 ⟨x61, x62, x63, H, ha, f1, hBg8, hG, hC, hM⟩
     obtain _ | kk := kk
     ·exact nomatch (show none = some _ from H)
     rw [strconv_formatBits.l1] at H
     refine wp_seq_k fun K69 hK69 => ?_
     refine wp_seq_k fun K70 hK70 => ?_
     refine wp_region_lit ?_
     refine seg ha 3 [(0, .slice ao1 a0.length cap1), (1, .int .u64 x61), (3, .bool a3), (4, .bool a4), (10, .slice none 0 0), (11, .string (bstr ([] : List UInt8))), (12, .pointer (some ⟨g8, 0, none⟩)), (13, .int .i64 x62), (17, .int .u64 (IntKind.u64.wrap a2)), (68, .bool (decide (x61 ≥ (IntKind.u64.wrap a2))))] (by kernel_rfl) fun a ha => ?_
     refine hK70 _ _ ?_; try clear hK70 K70
     refine cnd ha rfl (fun hc71 => ?_) (fun hc71 => ?_)
     ·have H := ite_t hc71 H
      refine wp_skip ?_
      refine hK69 _ _ ?_; try clear hK69 K69
      refine wp_block ?_
      refine wp_seq_k fun K72 hK72 => ?_
      refine wp_region_lit ?_
      refine seg ha 3 [(0, .slice ao1 a0.length cap1), (1, .int .u64 x61), (3, .bool a3), (4, .bool a4), (10, .slice none 0 0), (11, .string (bstr ([] : List UInt8))), (12, .pointer (some ⟨g8, 0, none⟩)), (13, .int .i64 (IntKind.i64.wrap (x62 - (1 : Int)))), (17, .int .u64 (IntKind.u64.wrap a2))] (by kernel_rfl) fun a ha => ?_
      refine hK72 _ _ ?_; try clear hK72 K72
      refine wp_seq_k fun K73 hK73 => ?_
      refine wp_region_lit ?_
      refine seg ha 2 [(0, .slice ao1 a0.length cap1), (1, .int .u64 x61), (3, .bool a3), (4, .bool a4), (10, .slice none 0 0), (11, .string (bstr ([] : List UInt8))), (12, .pointer (some ⟨g8, 0, none⟩)), (13, .int .i64 (IntKind.i64.wrap (x62 - (1 : Int)))), (17, .int .u64 (IntKind.u64.wrap a2)), (71, .int .u64 x61), (72, .int .u64 (IntKind.u64.wrap a2))] (by kernel_rfl) fun a ha => ?_
      obtain ⟨hx74, H⟩ := ite_some H
      refine hop (v := .int .u64 (IntKind.u64.wrap (Int.tdiv x61 (IntKind.u64.wrap a2)))) (w' := w60) ha rfl rfl rfl (quo_run ha (by rfl) (by rfl) hx74 _) fun a ha => ?_
      refine seg ha 1 [(0, .slice ao1 a0.length cap1), (1, .int .u64 x61), (3, .bool a3), (4, .bool a4), (10, .slice none 0 0), (11, .string (bstr ([] : List UInt8))), (12, .pointer (some ⟨g8, 0, none⟩)), (13, .int .i64 (IntKind.i64.wrap (x62 - (1 : Int)))), (17, .int .u64 (IntKind.u64.wrap a2)), (18, .int .u64 (IntKind.u64.wrap (Int.tdiv x61 (IntKind.u64.wrap a2))))] (by kernel_rfl) fun a ha => ?_
      refine hK73 _ _ ?_; try clear hK73 K73
      refine wp_seq_k fun K75 hK75 => ?_
      refine wp_region_lit ?_
      refine seg ha 6 [(0, .slice ao1 a0.length cap1), (3, .bool a3), (4, .bool a4), (10, .slice none 0 0), (11, .string (bstr ([] : List UInt8))), (12, .pointer (some ⟨g8, 0, none⟩)), (13, .int .i64 (IntKind.i64.wrap (x62 - (1 : Int)))), (17, .int .u64 (IntKind.u64.wrap a2)), (18, .int .u64 (IntKind.u64.wrap (Int.tdiv x61 (IntKind.u64.wrap a2)))), (74, .int .i64 (IntKind.i64.wrap (x62 - (1 : Int)))), (79, .int .u64 (IntKind.u64.wrap (x61 - (IntKind.u64.wrap ((IntKind.u64.wrap (Int.tdiv x61 (IntKind.u64.wrap a2))) * (IntKind.u64.wrap a2))))))] (by kernel_rfl) fun a ha => ?_
      obtain ⟨⟨hx76, hx76'⟩, H⟩ := ite_some H
      refine hop (v := .int .u8 ((([48, 49, 50, 51, 52, 53, 54, 55, 56, 57, 97, 98, 99, 100, 101, 102, 103, 104, 105, 106, 107, 108, 109, 110, 111, 112, 113, 114, 115, 116, 117, 118, 119, 120, 121, 122] : List UInt8).getD (Int.toNat (IntKind.u64.wrap (x61 - (IntKind.u64.wrap ((IntKind.u64.wrap (Int.tdiv x61 (IntKind.u64.wrap a2))) * (IntKind.u64.wrap a2)))))) 0).toNat : Int)) (w' := w60) ha rfl rfl rfl (sidx_run (l := ([48, 49, 50, 51, 52, 53, 54, 55, 56, 57, 97, 98, 99, 100, 101, 102, 103, 104, 105, 106, 107, 108, 109, 110, 111, 112, 113, 114, 115, 116, 117, 118, 119, 120, 121, 122] : List UInt8)) (k := .u64) (i := IntKind.u64.wrap (x61 - (IntKind.u64.wrap ((IntKind.u64.wrap (Int.tdiv x61 (IntKind.u64.wrap a2))) * (IntKind.u64.wrap a2))))) ha (by kernel_rfl) (by rfl) (by rfl) hx76 hx76' _) fun a ha => ?_
      obtain ⟨⟨hx77, hx77'⟩, H⟩ := ite_some H
      have hi77 : (Int.toNat (IntKind.i64.wrap (x62 - (1 : Int)))) < 65 := by omega
      refine hop (v := .pointer (some ⟨g8, 0 + (Int.toNat (IntKind.i64.wrap (x62 - (1 : Int)))), none⟩)) (w' := w60) ha rfl rfl rfl (ixA_run (T := 5) (N := 65) (g := g8) (o' := 0) (k := .i64) (i := IntKind.i64.wrap (x62 - (1 : Int))) ha (by kernel_rfl) (by kernel_rfl) (by rfl) (by rfl) hx77 hx77' _) fun a ha => ?_
      refine st (o' := 0 + (Int.toNat (IntKind.i64.wrap (x62 - (1 : Int))))) ha rfl rfl rfl (by kernel_rfl) rfl rfl hBg8 (arr_lt (k := .u8) (m := 65) (x := x63) ([] : List Value) ([] : List Value) (by kernel_rfl) hi77) fun a w78 ha hb2 hc79 _ => ?_
      have o1 : Ok [g8] ([g8] ++ (M)) w60.heap.size := (fun _ h => .inl (ml h))
      have o2 : Ok ([g8] ++ (M)) ([g8] ++ (M)) w60.heap.size := (Ok.refl _ _)
      have hG := hG.chg hc79 o1 o2
      have f1 := f1.chg hc79 o1 o2
      have hM : MS ([g8] ++ (M)) w78 := (hM.chg hc79)
      have hC := hC.trans hc79 (fun x h => .inr (e_i10 x h))
      have hBg8 : Box w78 g8 (cA .u8 65 ((arL 65 x63).set (Int.toNat (IntKind.i64.wrap (x62 - (1 : Int)))) ((([48, 49, 50, 51, 52, 53, 54, 55, 56, 57, 97, 98, 99, 100, 101, 102, 103, 104, 105, 106, 107, 108, 109, 110, 111, 112, 113, 114, 115, 116, 117, 118, 119, 120, 121, 122] : List UInt8).getD (Int.toNat (IntKind.u64.wrap (x61 - (IntKind.u64.wrap ((IntKind.u64.wrap (Int.tdiv x61 (IntKind.u64.wrap a2))) * (IntKind.u64.wrap a2)))))) 0).toNat : Int))) := Box.setA (k := .u8) (m := 65) (x := x63) ([] : List Value) ([] : List Value) hb2 (by kernel_rfl) hi77 (by kernel_rfl)
      refine hK75 _ _ ?_; try clear hK75 K75
      refine wp_region_lit ?_
      refine seg ha 2 [(0, .slice ao1 a0.length cap1), (1, .int .u64 (IntKind.u64.wrap (Int.tdiv x61 (IntKind.u64.wrap a2)))), (3, .bool a3), (4, .bool a4), (10, .slice none 0 0), (11, .string (bstr ([] : List UInt8))), (12, .pointer (some ⟨g8, 0, none⟩)), (13, .int .i64 (IntKind.i64.wrap (x62 - (1 : Int)))), (17, .int .u64 (IntKind.u64.wrap a2))] (by kernel_rfl) fun a ha => ?_
      exact ⟨kk, Nat.lt_succ_self _, ⟨IntKind.u64.wrap (Int.tdiv x61 (IntKind.u64.wrap a2)), IntKind.i64.wrap (x62 - (1 : Int)), ((arL 65 x63).set (Int.toNat (IntKind.i64.wrap (x62 - (1 : Int)))) ((([48, 49, 50, 51, 52, 53, 54, 55, 56, 57, 97, 98, 99, 100, 101, 102, 103, 104, 105, 106, 107, 108, 109, 110, 111, 112, 113, 114, 115, 116, 117, 118, 119, 120, 121, 122] : List UInt8).getD (Int.toNat (IntKind.u64.wrap (x61 - (IntKind.u64.wrap ((IntKind.u64.wrap (Int.tdiv x61 (IntKind.u64.wrap a2))) * (IntKind.u64.wrap a2)))))) 0).toNat : Int)), H, (ha.sel (by kernel_rfl)), f1, hBg8, hG, hC, hM⟩⟩
     ·have H := ite_f hc71 H
      refine wp_exit ?_
      simp only [Exit.then, Exit.inBlock, ↓reduceIte, Nat.reduceEqDiff]
      obtain rfl := Option.some.inj H
      exact J60 _ _ (ha.sel (by kernel_rfl)) f1 hBg8 hG hC hM
  have H := H13
  refine wp_seq_k fun K80 hK80 => ?_
  refine wp_region_lit ?_
  refine seg ha 1 [(0, .slice ao1 a0.length cap1), (1, .int .u64 a1), (2, .int .i64 a2), (3, .bool a3), (4, .bool a4), (10, .slice none 0 0), (11, .string (bstr ([] : List UInt8))), (12, .pointer (some ⟨g8, 0, none⟩)), (13, .int .i64 (65 : Int)), (30, .bool a3)] (by kernel_rfl) fun a ha => ?_
  refine hK80 _ _ ?_; try clear hK80 K80
  refine cnd ha rfl (fun hc81 => ?_) (fun hc81 => ?_)
  ·have H := ite_t hc81 H
   refine wp_region_lit ?_
   refine seg ha 3 [(0, .slice ao1 a0.length cap1), (1, .int .u64 (IntKind.u64.wrap (0 - a1))), (2, .int .i64 a2), (3, .bool a3), (4, .bool a4), (10, .slice none 0 0), (11, .string (bstr ([] : List UInt8))), (12, .pointer (some ⟨g8, 0, none⟩)), (13, .int .i64 (65 : Int))] (by kernel_rfl) fun a ha => ?_
   obtain rfl := Option.some.inj H
   exact J13 _ _ (ha.sel (by kernel_rfl)) f1 hBg8 hG hC hM
  ·have H := ite_f hc81 H
   refine wp_skip ?_
   obtain rfl := Option.some.inj H
   exact J13 _ _ (ha.sel (by kernel_rfl)) f1 hBg8 hG hC hM
def strconv_FormatInt.f (k : Nat) (a0 : Int) (a1 : Int) : Option (List UInt8) := (if (a1 == (10 : Int)) = true then (if (if (decide ((0 : Int) ≤ a0)) = true then (decide (a0 < (100 : Int))) else false) = true then (strconv_small.f a0).bind fun t9 => some ((t9 : List UInt8)) else none) else (strconv_formatBits.f k ([] : List Int) (IntKind.u64.wrap a0) a1 (decide (a0 < (0 : Int))) false).bind fun t11 => some ((t11.2 : List UInt8)))
set_option maxRecDepth 100000 in
theorem strconv_FormatInt.walk (w : World) (M : List Nat) (hM : MS M w) (hG : GF w M) (a0 : Int) (a1 : Int) (k : Nat) (r : List UInt8) (H : strconv_FormatInt.f k a0 a1 = some r) :
    To Tryz.prog 137 [.int .i64 a0, .int .i64 a1] w fun v w' => v = .string (bstr r) ∧ Chg [] w w' ∧ MS (M) w' := by
 unfold strconv_FormatInt.f at H
 refine ent Tryz.func137 rfl [(0, .int .i64 a0), (1, .int .i64 a1)] rfl (by rfl) fun a ha => ?_
 have hC : Chg [] w w := Chg.refl _ _
 refine wp_seq_k fun K1 hK1 => ?_
 refine wp_region_lit ?_
 refine seg ha 1 [(0, .int .i64 a0), (1, .int .i64 a1)] (by kernel_rfl) fun a ha => ?_
 refine hK1 _ _ ?_; try clear hK1 K1
 refine wp_seq_k fun K2 hK2 => ?_
 refine wp_seq_k fun K3 hK3 => ?_
 refine wp_region_lit ?_
 refine seg ha 2 [(0, .int .i64 a0), (1, .int .i64 a1), (11, .bool (a1 == (10 : Int)))] (by kernel_rfl) fun a ha => ?_
 refine hK3 _ _ ?_; try clear hK3 K3
 refine cnd ha rfl (fun hc4 => ?_) (fun hc4 => ?_)
 ·have H := ite_t hc4 H
  refine wp_seq_k fun K5 hK5 => ?_
  refine wp_seq_k fun K6 hK6 => ?_
  refine wp_region_lit ?_
  refine seg ha 6 [(0, .int .i64 a0), (17, .bool (if (decide ((0 : Int) ≤ a0)) = true then (decide (a0 < (100 : Int))) else false))] (by kernel_rfl) fun a ha => ?_
  refine hK6 _ _ ?_; try clear hK6 K6
  refine cnd ha rfl (fun hc7 => ?_) (fun hc7 => ?_)
  ·have H := ite_t hc7 H
   refine wp_seq_k fun K8 hK8 => ?_
   refine wp_region_lit ?_
   refine seg ha 1 [(18, .int .i64 a0)] (by kernel_rfl) fun a ha => ?_
   obtain ⟨t9, H9, H⟩ := bind_some H
   refine cl ha (by rfl) (by kernel_rfl) (by rfl) (by rfl) (by rfl) (strconv_small.walk w _ hM a0 _ H9) ?_
   rintro _ w9 ⟨rfl, hc9, hMn⟩ a ha
   have o1 : Ok [] (M) w.heap.size := Ok.nil _ _
   have o2 : Ok (M) (M) w.heap.size := (Ok.refl _ _)
   have hG := hG.chg hc9 o1 o2
   have hM : MS (M) w9 := (hM.chg hc9)
   have hC := hC.trans hc9 (Ok.nil _ _)
   refine seg ha 1 [(4, .string (bstr t9))] (by kernel_rfl) fun a ha => ?_
   refine hK8 _ _ ?_; try clear hK8 K8
   refine wp_ret ?_
   try simp only [Exit.then, Exit.inBlock]
   obtain rfl := Option.some.inj H
   refine rt1 ha rfl rfl ?_
   exact ⟨rfl, hC, hM⟩
  ·have H := ite_f hc7 H
   exact nomatch (show none = some _ from H)
 ·have H := ite_f hc4 H
  refine wp_skip ?_
  refine hK2 _ _ ?_; try clear hK2 K2
  refine wp_seq_k fun K10 hK10 => ?_
  refine wp_region_lit ?_
  refine seg ha 5 [(46, .int .u64 (IntKind.u64.wrap a0)), (47, .int .i64 a1), (49, .bool (decide (a0 < (0 : Int))))] (by kernel_rfl) fun a ha => ?_
  obtain ⟨t11, H11, H⟩ := bind_some H
  refine cl ha (by rfl) (by kernel_rfl) (by rfl) (by rfl) (by rfl) (strconv_formatBits.walk w _ hM hG ([] : List Int) none 0 (RSl.nil (Nat.zero_le _)) (IntKind.u64.wrap a0) a1 (decide (a0 < (0 : Int))) false k _ H11) ?_
  rintro _ w11 ⟨ao12, cap12, rfl, f12, ne_i12, hc11, hMn⟩ a ha
  have o1 : Ok [] (M) w.heap.size := Ok.nil _ _
  have o2 : Ok (blkL ao12 ++ (M)) (M) w.heap.size := (Ok.app (fun x h => .inr (ne_i12 x h)) (Ok.refl _ _))
  have hG := hG.chg hc11 o1 o2
  have p_i12_M : ∀ x ∈ blkL ao12, x ∉ M := fun x hx hy => absurd (hM x (hy)) (Nat.not_lt.2 (ne_i12 x hx))
  have e_i12 : ∀ x ∈ blkL ao12, w.heap.size ≤ x := fun x hx => Nat.le_trans hC.size (ne_i12 x hx)
  have hM : MS (blkL ao12 ++ (M)) w11 := (MS.app (fun x h => hMn x (ml h)) (hM.chg hc11))
  have hC := hC.trans hc11 (Ok.nil _ _)
  refine seg ha 5 [(9, .string (bstr t11.2))] (by kernel_rfl) fun a ha => ?_
  refine hK10 _ _ ?_; try clear hK10 K10
  refine wp_seq_k fun K13 hK13 => ?_
  refine wp_region_lit ?_
  refine seg ha 2 [(4, .string (bstr t11.2))] (by kernel_rfl) fun a ha => ?_
  refine hK13 _ _ ?_; try clear hK13 K13
  refine wp_ret ?_
  try simp only [Exit.then, Exit.inBlock]
  have o1 : Ok [] (blkL ao12 ++ (M)) w11.heap.size := Ok.nil _ _
  have o2 : Ok (M) (blkL ao12 ++ (M)) w11.heap.size := (fun _ h => .inl (mr (h)))
  have hG := hG.chg (Chg.refl [] _) o1 o2
  have hM : MS (M) w11 := (fun x h => hM.chg (Chg.refl [] _) x (mr (h)))
  obtain rfl := Option.some.inj H
  refine rt1 ha rfl rfl ?_
  exact ⟨rfl, hC, hM⟩
def strconv_FormatInt_159.f (k : Nat) (a0 : Int) (a1 : Int) : Option (List UInt8) := (strconv_FormatInt.f k a0 a1).bind fun t3 => some ((t3 : List UInt8))
set_option maxRecDepth 100000 in
theorem strconv_FormatInt_159.walk (w : World) (M : List Nat) (hM : MS M w) (hG : GF w M) (a0 : Int) (a1 : Int) (k : Nat) (r : List UInt8) (H : strconv_FormatInt_159.f k a0 a1 = some r) :
    To Tryz.prog 159 [.int .i64 a0, .int .i64 a1] w fun v w' => v = .string (bstr r) ∧ Chg [] w w' ∧ MS (M) w' := by
 unfold strconv_FormatInt_159.f at H
 refine ent Tryz.func159 rfl [(0, .int .i64 a0), (1, .int .i64 a1)] rfl (by rfl) fun a ha => ?_
 have hC : Chg [] w w := Chg.refl _ _
 refine wp_seq_k fun K1 hK1 => ?_
 refine wp_region_lit ?_
 refine seg ha 1 [(0, .int .i64 a0), (1, .int .i64 a1)] (by kernel_rfl) fun a ha => ?_
 refine hK1 _ _ ?_; try clear hK1 K1
 refine wp_seq_k fun K2 hK2 => ?_
 refine wp_region_lit ?_
 refine seg ha 2 [(5, .int .i64 a0), (6, .int .i64 a1)] (by kernel_rfl) fun a ha => ?_
 obtain ⟨t3, H3, H⟩ := bind_some H
 refine cl ha (by rfl) (by kernel_rfl) (by rfl) (by rfl) (by rfl) (strconv_FormatInt.walk w _ hM hG a0 a1 k _ H3) ?_
 rintro _ w3 ⟨rfl, hc3, hMn⟩ a ha
 have o1 : Ok [] (M) w.heap.size := Ok.nil _ _
 have o2 : Ok (M) (M) w.heap.size := (Ok.refl _ _)
 have hG := hG.chg hc3 o1 o2
 have hM : MS (M) w3 := (hM.chg hc3)
 have hC := hC.trans hc3 (Ok.nil _ _)
 refine seg ha 1 [(4, .string (bstr t3))] (by kernel_rfl) fun a ha => ?_
 refine hK2 _ _ ?_; try clear hK2 K2
 refine wp_ret ?_
 try simp only [Exit.then, Exit.inBlock]
 obtain rfl := Option.some.inj H
 refine rt1 ha rfl rfl ?_
 exact ⟨rfl, hC, hM⟩
def addr_written.l0 (k : Nat) (a0 : List Int) : Nat → (List (List UInt8)) → Int → Option (List (List UInt8))
  | 0, _, _ => none
  | kk + 1, x8, x9 => (if (decide (x9 < (a0.length : Int))) = true then (if 0 ≤ x9 ∧ x9 < (a0.length : Int) then (strconv_FormatInt_159.f k (rd a0 x9) (16 : Int)).bind fun t26 => (if (x8.length + ([t26] : List (List UInt8)).length) * 16 ≤ 140737488355328 then addr_written.l0 k a0 kk (x8 ++ ([t26] : List (List UInt8))) (IntKind.i64.wrap (x9 + (1 : Int))) else none) else none) else some (x8 : List (List UInt8)))
def addr_written.f (k : Nat) (a0 : List Int) : Option (List UInt8) := (addr_written.l0 k a0 k ([] : List (List UInt8)) (0 : Int)).bind fun s6 => (strings_Join.f s6 ([58] : List UInt8)).bind fun t12 => some ((t12 : List UInt8))
set_option maxRecDepth 100000 in
theorem addr_written.walk (w : World) (M : List Nat) (hM : MS M w) (hG : GF w M) (a0 : List Int) (ao1 : Option Addr) (cap1 : Nat) (f1 : RSl (rInt .i64) 3 w M ao1 cap1 a0) (k : Nat) (r : List UInt8) (H : addr_written.f k a0 = some r) :
    To Tryz.prog 136 [.slice ao1 a0.length cap1] w fun v w' => v = .string (bstr r) ∧ Chg [] w w' ∧ MS (M) w' := by
 unfold addr_written.f at H
 refine ent Tryz.func136 rfl [(0, .slice ao1 a0.length cap1)] rfl (by rfl) fun a ha => ?_
 have hC : Chg [] w w := Chg.refl _ _
 refine wp_seq_k fun K2 hK2 => ?_
 refine wp_region_lit ?_
 refine seg ha 1 [(0, .slice ao1 a0.length cap1)] (by kernel_rfl) fun a ha => ?_
 refine hK2 _ _ ?_; try clear hK2 K2
 refine wp_seq_k fun K3 hK3 => ?_
 refine wp_region_lit ?_
 refine seg ha 1 [(0, .slice ao1 a0.length cap1), (3, .slice none 0 0)] (by kernel_rfl) fun a ha => ?_
 refine hK3 _ _ ?_; try clear hK3 K3
 refine wp_seq_k fun K4 hK4 => ?_
 refine wp_seq_k fun K5 hK5 => ?_
 refine wp_region_lit ?_
 refine seg ha 3 [(3, .slice none 0 0), (6, .slice ao1 a0.length cap1), (7, .int .i64 (a0.length : Int)), (8, .int .i64 (0 : Int))] (by kernel_rfl) fun a ha => ?_
 refine hK5 _ _ ?_; try clear hK5 K5
 refine wp_block ?_
 obtain ⟨s6, H6, H⟩ := bind_some H
 have J6 : ∀ (a : Act) (wx6 : World) (ao10 : Option Addr) (cap10 : Nat), Has a Tryz.f136.ntmps [(3, .slice ao10 s6.length cap10)] → (Own rStr 9 wx6 (blkL ao10 ++ (M)) ao10 cap10 s6) → (∀ x ∈ blkL ao10, w.heap.size ≤ x) → (∀ x ∈ blkL ao10, x ∉ M) → (GF wx6 (blkL ao10 ++ (M))) → (Chg [] w wx6) → (MS (blkL ao10 ++ (M)) wx6) → K4 a wx6 := by
  intro a wx6 ao10 cap10 ha f10 e_i10 p_i10_M hG hC hM
  refine hK4 _ _ ?_; try clear hK4 K4
  refine wp_seq_k fun K11 hK11 => ?_
  refine wp_region_lit ?_
  refine seg ha 1 [(18, .slice ao10 s6.length cap10)] (by kernel_rfl) fun a ha => ?_
  have hML : MS (M) wx6 := MS.rest hM (fun _ h => mr (h))
  have oL : Ok (M) (blkL ao10 ++ (M)) wx6.heap.size := (fun _ h => .inl (mr (h)))
  obtain ⟨t12, H12, H⟩ := bind_some H
  refine cl ha (by rfl) (by kernel_rfl) (by rfl) (by rfl) (by rfl) (strings_Join.walk wx6 _ hML s6 ao10 cap10 (Own.toRSl (M' := M) f10 oL (fun x hx hm => p_i10_M x hx hm)) ([58] : List UInt8) _ H12) ?_
  rintro _ w12 ⟨rfl, hc12, hMn⟩ a ha
  have o1 : Ok [] (blkL ao10 ++ (M)) wx6.heap.size := Ok.nil _ _
  have o2 : Ok (blkL ao10 ++ (M)) (blkL ao10 ++ (M)) wx6.heap.size := (Ok.refl _ _)
  have hG := hG.chg hc12 o1 o2
  have f10 := f10.chg hc12 o1 o2 (fun _ _ h => nomatch h) (fun _ h => ml h)
  have hM : MS (blkL ao10 ++ (M)) w12 := (hM.chg hc12)
  have hC := hC.trans hc12 (Ok.nil _ _)
  refine seg ha 1 [(2, .string (bstr t12))] (by kernel_rfl) fun a ha => ?_
  refine hK11 _ _ ?_; try clear hK11 K11
  refine wp_ret ?_
  try simp only [Exit.then, Exit.inBlock]
  have o1 : Ok [] (blkL ao10 ++ (M)) w12.heap.size := Ok.nil _ _
  have o2 : Ok (M) (blkL ao10 ++ (M)) w12.heap.size := (fun _ h => .inl (mr (h)))
  have hG := hG.chg (Chg.refl [] _) o1 o2
  have hM : MS (M) w12 := (fun x h => hM.chg (Chg.refl [] _) x (mr (h)))
  obtain rfl := Option.some.inj H
  refine rt1 ha rfl rfl ?_
  exact ⟨rfl, hC, hM⟩
 have Hc6 := H
 have H := H6
 refine wp_loop_ghost (fun kk a w6 => ∃ (x8 : List (List UInt8)) (x9 : Int) (ao7 : Option Addr) (cap7 : Nat), addr_written.l0 k a0 kk x8 x9 = some s6 ∧ Has a Tryz.f136.ntmps [(3, .slice ao7 x8.length cap7), (6, .slice ao1 a0.length cap1), (7, .int .i64 (a0.length : Int)), (8, .int .i64 x9)] ∧ (Own rStr 9 w6 (blkL ao7 ++ (M)) ao7 cap7 x8) ∧ (RSl (rInt .i64) 3 w6 (blkL ao7 ++ (M)) ao1 cap1 a0) ∧ (∀ x ∈ blkL ao7, w.heap.size ≤ x) ∧ (∀ x ∈ blkL ao7, x ∉ M) ∧ (GF w6 (blkL ao7 ++ (M))) ∧ (Chg [] w w6) ∧ (MS (blkL ao7 ++ (M)) w6)) k ?_ ?_
 ·skip
  have o1 : Ok [] (M) w.heap.size := Ok.nil _ _
  have o2 : Ok (blkL none ++ (M)) (M) w.heap.size := (Ok.app (fun _ h => nomatch h) (Ok.refl _ _))
  have hG := hG.chg (Chg.refl [] _) o1 o2
  have f1 := f1.chg (Chg.refl [] _) o1 o2
  have p_z13_M : ∀ x ∈ blkL none, x ∉ M := fun x hx hy => absurd (hM x (hy)) (Nat.not_lt.2 ((fun _ h => nomatch h) x hx))
  have e_z13 : ∀ x ∈ blkL none, w.heap.size ≤ x := fun x hx => Nat.le_trans hC.size ((fun _ h => nomatch h) x hx)
  have hM : MS (blkL none ++ (M)) w := (MS.app (fun _ h => nomatch h) (hM.chg (Chg.refl [] _)))
  exact ⟨([] : List (List UInt8)), (0 : Int), none, 0, H, (ha.sel (by kernel_rfl)), Own.nil, f1, e_z13, p_z13_M, hG, hC, hM⟩
 ·rintro kk a w6 ⟨x8, x9, ao7, cap7, H, ha, f7, f1, e_i7, p_i7_M, hG, hC, hM⟩
  obtain _ | kk := kk
  ·exact nomatch (show none = some _ from H)
  rw [addr_written.l0] at H
  refine wp_seq_k fun K14 hK14 => ?_
  refine wp_region_lit ?_
  refine seg ha 1 [(3, .slice ao7 x8.length cap7), (6, .slice ao1 a0.length cap1), (7, .int .i64 (a0.length : Int)), (8, .int .i64 x9), (9, .bool (decide (x9 < (a0.length : Int))))] (by kernel_rfl) fun a ha => ?_
  refine hK14 _ _ ?_; try clear hK14 K14
  refine wp_seq_k fun K15 hK15 => ?_
  refine cnd ha rfl (fun hc16 => ?_) (fun hc16 => ?_)
  ·have H := ite_t hc16 H
   refine wp_skip ?_
   refine hK15 _ _ ?_; try clear hK15 K15
   refine wp_seq_k fun K17 hK17 => ?_
   refine wp_block ?_
   refine wp_seq_k fun K18 hK18 => ?_
   refine wp_region_lit ?_
   obtain ⟨⟨hx19, hx19'⟩, H⟩ := ite_some H
   refine ix (r := (rInt .i64)) ha (by kernel_rfl) (by kernel_rfl) rfl rfl rfl rfl rfl f1 hx19 hx19' fun a ge20 oe21 cs22 hn25 hR23 hE24 ha => ?_
   rw [rd_get] at hR23
   obtain rfl := hR23
   have hE24 : ∀ j v, ([.int .i64 (rd a0 x9)] : List Value)[j]? = some v → w6.cell? ⟨ge20, oe21 + j, none⟩ = some v := hE24
   refine ld ha rfl (by kernel_rfl) rfl rfl rfl (hE24 0 (.int .i64 (rd a0 x9)) (by kernel_rfl)) fun a ha => ?_
   refine seg ha 1 [(3, .slice ao7 x8.length cap7), (5, .int .i64 (rd a0 x9)), (6, .slice ao1 a0.length cap1), (7, .int .i64 (a0.length : Int)), (8, .int .i64 x9)] (by kernel_rfl) fun a ha => ?_
   refine hK18 _ _ ?_; try clear hK18 K18
   refine wp_region_lit ?_
   refine seg ha 2 [(6, .slice ao1 a0.length cap1), (7, .int .i64 (a0.length : Int)), (8, .int .i64 x9), (12, .slice ao7 x8.length cap7), (13, .int .i64 (rd a0 x9))] (by kernel_rfl) fun a ha => ?_
   obtain ⟨t26, H26, H⟩ := bind_some H
   refine cl ha (by rfl) (by kernel_rfl) (by rfl) (by rfl) (by rfl) (strconv_FormatInt_159.walk w6 _ hM hG (rd a0 x9) (16 : Int) k _ H26) ?_
   rintro _ w26 ⟨rfl, hc26, hMn⟩ a ha
   have o1 : Ok [] (blkL ao7 ++ (M)) w6.heap.size := Ok.nil _ _
   have o2 : Ok (blkL ao7 ++ (M)) (blkL ao7 ++ (M)) w6.heap.size := (Ok.refl _ _)
   have hG := hG.chg hc26 o1 o2
   have f1 := f1.chg hc26 o1 o2
   have f7 := f7.chg hc26 o1 o2 (fun _ _ h => nomatch h) (fun _ h => ml h)
   have hM : MS (blkL ao7 ++ (M)) w26 := (hM.chg hc26)
   have hC := hC.trans hc26 (Ok.nil _ _)
   refine bsl (vals := ([.string (bstr t26)] : List Value)) (T := 9) ha rfl (([.string (bstr t26)] : List Value) ++ ([] : List Value)) (fun w => by kernel_rfl) rfl rfl rfl fun a w27 g28 hN29 ha => ?_
   have o1 : Ok [] (blkL ao7 ++ (M)) w26.heap.size := Ok.nil _ _
   have o2 : Ok ([g28] ++ (blkL ao7 ++ (M))) (blkL ao7 ++ (M)) w26.heap.size := (Ok.app (hN29.ok _) (Ok.refl _ _))
   have hG := hG.chg hN29.chg o1 o2
   have f1 := f1.chg hN29.chg o1 o2
   have f7 := f7.chg hN29.chg o1 o2 (fun _ _ h => nomatch h) (fun _ h => mr (ml h))
   have p_i30_i7 : ∀ x ∈ [g28], x ∉ (blkL ao7) := fun x hx hy => absurd (hM x (ml hy)) (Nat.not_lt.2 ((hN29.ge1) x hx))
   have p_i30_M : ∀ x ∈ [g28], x ∉ M := fun x hx hy => absurd (hM x (mr (hy))) (Nat.not_lt.2 ((hN29.ge1) x hx))
   have e_i30 : ∀ x ∈ [g28], w.heap.size ≤ x := fun x hx => Nat.le_trans hC.size ((hN29.ge1) x hx)
   have hM : MS ([g28] ++ (blkL ao7 ++ (M))) w27 := (MS.app hN29.ms (hM.chg hN29.chg))
   have hC := hC.trans hN29.chg (Ok.nil _ _)
   have f31 : Own rStr 9 w27 ([g28] ++ (blkL ao7 ++ (M))) (some ⟨g28, 0, none⟩) 1 ([t26] : List (List UInt8)) := hN29.own ⟨([.string (bstr t26)] : List Value), _, rfl, rfl, rfl⟩ (Nat.le_of_ble_eq_true rfl)
   obtain ⟨hx32, H⟩ := ite_some H
   refine app (r := rStr) (xs := x8) (ys := ([t26] : List (List UInt8))) ha (ElemT.mk' (bytes := 16) (by kernel_rfl)) rfl rfl rfl rfl rfl f7 f31.src hx32 (by decide) fun a w33 ao34 cap34 hO34 hc34 hk34 hl34 ha => ?_
   have o1 : Ok (blkL ao7) ([g28] ++ (blkL ao7 ++ (M))) w27.heap.size := (fun _ h => .inl (mr (ml h)))
   have o2 : Ok (blkL ao34 ++ ([g28] ++ (M))) ([g28] ++ (blkL ao7 ++ (M))) w27.heap.size := (Ok.app (Ok.to hk34 (fun _ h => mr (ml h))) (Ok.app (fun _ h => .inl (ml h)) (fun _ h => .inl (mr (mr (h))))))
   have hG := hG.chg hc34 o1 o2
   have f1 := f1.chg hc34 o1 o2
   have f31 := f31.chg hc34 o1 o2 p_i30_i7 (fun _ h => mr (ml h))
   have p_i34_i30 : ∀ x ∈ blkL ao34, x ∉ ([g28]) := fun x hx hy => (hk34 x hx).elim (fun h => (fun x hx hy => p_i30_i7 x hy hx) x h hy) (fun h => absurd (hM x (ml hy)) (Nat.not_lt.2 h))
   have p_i34_M : ∀ x ∈ blkL ao34, x ∉ M := fun x hx hy => (hk34 x hx).elim (fun h => p_i7_M x h hy) (fun h => absurd (hM x (mr (mr (hy)))) (Nat.not_lt.2 h))
   have e_i34 : ∀ x ∈ blkL ao34, w.heap.size ≤ x := fun x hx => (hk34 x hx).elim (e_i7 x) (Nat.le_trans hC.size)
   have hM : MS (blkL ao34 ++ ([g28] ++ (M))) w33 := (MS.app hl34 (MS.app (fun x h => hM.chg hc34 x (ml h)) (fun x h => hM.chg hc34 x (mr (mr (h))))))
   have hC := hC.trans hc34 (fun x h => .inr (e_i7 x h))
   have f34 := hO34.chg (M' := blkL ao34 ++ ([g28] ++ (M))) (Chg.refl [] _) (Ok.nil _ _) (Ok.app (fun _ h => .inl (ml h)) (Ok.to (Ok.app (fun _ h => .inl (ml h)) (fun _ h => .inl (mr (mr (h))))) (fun _ h => mr h))) (fun _ _ h => nomatch h) (fun _ h => ml h)
   refine seg ha 1 [(3, .slice ao34 (x8 ++ ([t26] : List (List UInt8))).length cap34), (6, .slice ao1 a0.length cap1), (7, .int .i64 (a0.length : Int)), (8, .int .i64 x9)] (by kernel_rfl) fun a ha => ?_
   refine hK17 _ _ ?_; try clear hK17 K17
   refine wp_region_lit ?_
   refine seg ha 2 [(3, .slice ao34 (x8 ++ ([t26] : List (List UInt8))).length cap34), (6, .slice ao1 a0.length cap1), (7, .int .i64 (a0.length : Int)), (8, .int .i64 (IntKind.i64.wrap (x9 + (1 : Int))))] (by kernel_rfl) fun a ha => ?_
   have o1 : Ok [] (blkL ao34 ++ ([g28] ++ (M))) w33.heap.size := Ok.nil _ _
   have o2 : Ok (blkL ao34 ++ (M)) (blkL ao34 ++ ([g28] ++ (M))) w33.heap.size := (Ok.app (fun _ h => .inl (ml h)) (fun _ h => .inl (mr (mr (h)))))
   have hG := hG.chg (Chg.refl [] _) o1 o2
   have f1 := f1.chg (Chg.refl [] _) o1 o2
   have f34 := f34.chg (Chg.refl [] _) o1 o2 (fun _ _ h => nomatch h) (fun _ h => ml h)
   have hM : MS (blkL ao34 ++ (M)) w33 := (MS.app (fun x h => hM.chg (Chg.refl [] _) x (ml h)) (fun x h => hM.chg (Chg.refl [] _) x (mr (mr (h)))))
   exact ⟨kk, Nat.lt_succ_self _, ⟨(x8 ++ ([t26] : List (List UInt8))), IntKind.i64.wrap (x9 + (1 : Int)), ao34, cap34, H, (ha.sel (by kernel_rfl)), f34, f1, e_i34, p_i34_M, hG, hC, hM⟩⟩
  ·have H := ite_f hc16 H
   refine wp_exit ?_
   simp only [Exit.then, Exit.inBlock, ↓reduceIte, Nat.reduceEqDiff]
   obtain rfl := Option.some.inj H
   exact J6 _ _ ao7 cap7 (ha.sel (by kernel_rfl)) f7 e_i7 p_i7_M hG hC hM
def addr_text6.f (k : Nat) (a0 : S_api_Addr) : Option (List UInt8) := (addr_numbers.f k a0).bind fun t8 => (addr_gap.f k t8).bind fun t16 => (if (decide (t16.2 < (2 : Int))) = true then (addr_written.f k (arL 8 t8)).bind fun t22 => some ((t22 : List UInt8)) else (if 0 ≤ (0 : Int) ∧ (0 : Int) ≤ t16.1 ∧ t16.1 ≤ (8 : Int) then (addr_written.f k (((arL 8 t8).take (Int.toNat t16.1)).drop (Int.toNat (0 : Int)))).bind fun t26 => (if (t26 ++ ([58, 58] : List UInt8)).length ≤ 9223372036854775807 then (if 0 ≤ (IntKind.i64.wrap (t16.1 + t16.2)) ∧ (IntKind.i64.wrap (t16.1 + t16.2)) ≤ (8 : Int) ∧ (8 : Int) ≤ (8 : Int) then (addr_written.f k (((arL 8 t8).take (Int.toNat (8 : Int))).drop (Int.toNat (IntKind.i64.wrap (t16.1 + t16.2))))).bind fun t30 => (if ((t26 ++ ([58, 58] : List UInt8)) ++ t30).length ≤ 9223372036854775807 then some (((t26 ++ ([58, 58] : List UInt8)) ++ t30 : List UInt8)) else none) else none) else none) else none))
set_option maxRecDepth 100000 in
theorem addr_text6.walk (w : World) (M : List Nat) (hM : MS M w) (hG : GF w M) (a0 : S_api_Addr) (k : Nat) (r : List UInt8) (H : addr_text6.f k a0 = some r) :
    To Tryz.prog 100 [.agg (cS_api_Addr a0).toArray] w fun v w' => v = .string (bstr r) ∧ Chg [] w w' ∧ MS (M) w' := by
 unfold addr_text6.f at H
 refine ent Tryz.func100 rfl [(0, .agg (cS_api_Addr a0).toArray)] rfl (by rfl) fun a ha => ?_
 have hC : Chg [] w w := Chg.refl _ _
 refine wp_seq_k fun K1 hK1 => ?_
 refine wp_region_lit ?_
 refine bx (cs := (cS_api_Addr a0)) ha rfl rfl rfl rfl rfl fun a w2 g3 hN4 ha => ?_
 have hn6 := hN4.notin hM
 have o1 : Ok [] (M) w.heap.size := Ok.nil _ _
 have o2 : Ok (M) (M) w.heap.size := (Ok.refl _ _)
 have hG := hG.chg hN4.chg o1 o2
 have hM : MS (M) w2 := (hM.chg hN4.chg)
 have hC := hC.trans hN4.chg (Ok.nil _ _)
 have hE5 : ∀ j v, (cS_api_Addr a0)[j]? = some v → w2.cell? ⟨g3, 0 + j, none⟩ = some v := Box.cells (New.box hN4)
 refine seg ha 1 [(1, .pointer (some ⟨g3, 0, none⟩))] (by kernel_rfl) fun a ha => ?_
 refine hK1 _ _ ?_; try clear hK1 K1
 refine wp_seq_k fun K7 hK7 => ?_
 refine wp_region_lit ?_
 refine ldA (cs := (cS_api_Addr a0)) ha rfl (by kernel_rfl) rfl rfl rfl (cells_sub hE5 (all := (cS_api_Addr a0)) [] [] (by kernel_rfl)) fun a ha => ?_
 obtain ⟨t8, H8, H⟩ := bind_some H
 refine cl ha (by rfl) (by kernel_rfl) (by rfl) (by rfl) (by rfl) (addr_numbers.walk w2 _ hM a0 k _ H8) ?_
 rintro _ w8 ⟨rfl, hc8, hMn⟩ a ha
 have o1 : Ok [] (M) w2.heap.size := Ok.nil _ _
 have o2 : Ok (M) (M) w2.heap.size := (Ok.refl _ _)
 have hG := hG.chg hc8 o1 o2
 have hM : MS (M) w8 := (hM.chg hc8)
 have hC := hC.trans hc8 (Ok.nil _ _)
 refine al (cs := (cA .i64 8 (List.replicate 8 (0 : Int)))) (z := .agg (cA .i64 8 (List.replicate 8 (0 : Int))).toArray) ha (fun w => by kernel_rfl) rfl rfl rfl rfl fun a w9 g10 hN11 ha => ?_
 have o1 : Ok [] (M) w8.heap.size := Ok.nil _ _
 have o2 : Ok ([g10] ++ (M)) (M) w8.heap.size := (Ok.app (hN11.ok _) (Ok.refl _ _))
 have hG := hG.chg hN11.chg o1 o2
 have p_i12_M : ∀ x ∈ [g10], x ∉ M := fun x hx hy => absurd (hM x (hy)) (Nat.not_lt.2 ((hN11.ge1) x hx))
 have e_i12 : ∀ x ∈ [g10], w.heap.size ≤ x := fun x hx => Nat.le_trans hC.size ((hN11.ge1) x hx)
 have hM : MS ([g10] ++ (M)) w9 := (MS.app hN11.ms (hM.chg hN11.chg))
 have hC := hC.trans hN11.chg (Ok.nil _ _)
 have hBg10 : Box w9 g10 (cA .i64 8 (List.replicate 8 (0 : Int))) := hN11.box
 refine stA (l := (cA .i64 8 t8)) ha rfl rfl rfl (by kernel_rfl) rfl rfl hBg10 rfl fun a w13 ha hb2 hc14 _ => ?_
 have o1 : Ok [g10] ([g10] ++ (M)) w9.heap.size := (fun _ h => .inl (ml h))
 have o2 : Ok ([g10] ++ (M)) ([g10] ++ (M)) w9.heap.size := (Ok.refl _ _)
 have hG := hG.chg hc14 o1 o2
 have hM : MS ([g10] ++ (M)) w13 := (hM.chg hc14)
 have hC := hC.trans hc14 (fun x h => .inr (e_i12 x h))
 have hBg10 : Box w13 g10 (cA .i64 8 t8) := hb2
 refine hK7 _ _ ?_; try clear hK7 K7
 refine wp_seq_k fun K15 hK15 => ?_
 refine wp_region_lit ?_
 refine ldA (cs := (cA .i64 8 t8)) ha rfl (by kernel_rfl) rfl rfl rfl (cells_sub (Box.cells hBg10) (all := (cA .i64 8 t8)) [] [] (by kernel_rfl)) fun a ha => ?_
 obtain ⟨t16, H16, H⟩ := bind_some H
 refine cl ha (by rfl) (by kernel_rfl) (by rfl) (by rfl) (by rfl) (addr_gap.walk w13 _ hM t8 k _ H16) ?_
 rintro _ w16 ⟨rfl, hc16, hMn⟩ a ha
 have o1 : Ok [] ([g10] ++ (M)) w13.heap.size := Ok.nil _ _
 have o2 : Ok ([g10] ++ (M)) ([g10] ++ (M)) w13.heap.size := (Ok.refl _ _)
 have hG := hG.chg hc16 o1 o2
 have hBg10 := hBg10.chg hc16 (fun h => nomatch h)
 have hM : MS ([g10] ++ (M)) w16 := (hM.chg hc16)
 have hC := hC.trans hc16 (Ok.nil _ _)
 refine seg ha 5 [(3, .pointer (some ⟨g10, 0, none⟩)), (4, .int .i64 t16.1), (5, .int .i64 t16.2)] (by kernel_rfl) fun a ha => ?_
 refine hK15 _ _ ?_; try clear hK15 K15
 refine wp_seq_k fun K17 hK17 => ?_
 refine wp_seq_k fun K18 hK18 => ?_
 refine wp_region_lit ?_
 refine seg ha 2 [(3, .pointer (some ⟨g10, 0, none⟩)), (4, .int .i64 t16.1), (5, .int .i64 t16.2), (14, .bool (decide (t16.2 < (2 : Int))))] (by kernel_rfl) fun a ha => ?_
 refine hK18 _ _ ?_; try clear hK18 K18
 refine cnd ha rfl (fun hc19 => ?_) (fun hc19 => ?_)
 ·have H := ite_t hc19 H
  refine wp_seq_k fun K20 hK20 => ?_
  refine wp_region_lit ?_
  refine opk (v := .slice (some ⟨g10, 0, none⟩) 8 8) ha rfl rfl rfl rfl rfl (fun w => by kernel_rfl) fun a ha => ?_
  have fw21 : RSl (rInt .i64) 3 w16 (butL g10 w16) (some ⟨g10, 0, none⟩) 8 (arL 8 t8) := RSl.ofA ([] : List Value) ([] : List Value) (Box.cells hBg10) butL_self (by kernel_rfl) rfl
  have hML : MS (M) w16 := MS.rest hM (fun _ h => mr (h))
  have oL : Ok (M) ([g10] ++ (M)) w16.heap.size := (fun _ h => .inl (mr (h)))
  obtain ⟨t22, H22, H⟩ := bind_some H
  refine cl ha (by rfl) (by kernel_rfl) (by rfl) (by rfl) (by rfl) (addr_written.walk w16 _ hML (hG.chg (Chg.refl [] _) (Ok.nil _ _) oL) (arL 8 t8) (some ⟨g10, 0, none⟩) 8 (RSl.chg (M' := M) fw21 (Chg.refl [] _) (Ok.nil _ _) (butL_ok (fun x hm e0 => (fun (hx : x ∈ [g10]) => p_i12_M x hx hm) (by rw [e0]; exact List.mem_singleton.2 rfl)))) k _ H22) ?_
  rintro _ w22 ⟨rfl, hc22, hMn⟩ a ha
  have o1 : Ok [] ([g10] ++ (M)) w16.heap.size := Ok.nil _ _
  have o2 : Ok ([g10] ++ (M)) ([g10] ++ (M)) w16.heap.size := (Ok.refl _ _)
  have hG := hG.chg hc22 o1 o2
  have fw21 := fw21.chg (M' := butL g10 w22) hc22 (Ok.nil _ _) butL_chg
  have hBg10 := hBg10.chg hc22 (fun h => nomatch h)
  have hM : MS ([g10] ++ (M)) w22 := (hM.chg hc22)
  have hC := hC.trans hc22 (Ok.nil _ _)
  refine seg ha 1 [(2, .string (bstr t22))] (by kernel_rfl) fun a ha => ?_
  refine hK20 _ _ ?_; try clear hK20 K20
  refine wp_ret ?_
  try simp only [Exit.then, Exit.inBlock]
  have o1 : Ok [] ([g10] ++ (M)) w22.heap.size := Ok.nil _ _
  have o2 : Ok (M) ([g10] ++ (M)) w22.heap.size := (fun _ h => .inl (mr (h)))
  have hG := hG.chg (Chg.refl [] _) o1 o2
  have hM : MS (M) w22 := (fun x h => hM.chg (Chg.refl [] _) x (mr (h)))
  obtain rfl := Option.some.inj H
  refine rt1 ha rfl rfl ?_
  exact ⟨rfl, hC, hM⟩
 ·have H := ite_f hc19 H
  refine wp_skip ?_
  refine hK17 _ _ ?_; try clear hK17 K17
  refine wp_seq_k fun K23 hK23 => ?_
  refine drq0 (fun w' => Chg [] w16 w') (by kernel_rfl) (by kernel_rfl) (fun _ h => h) ?_
  refine qp 0 (.int .i64 t16.1) ha rfl rfl rfl (by kernel_rfl) fun a ha => ?_
  have fw24 : RSl (rInt .i64) 3 w16 (butL g10 w16) (some ⟨g10, 0, none⟩) 8 (arL 8 t8) := RSl.ofA ([] : List Value) ([] : List Value) (Box.cells hBg10) butL_self (by kernel_rfl) rfl
  obtain ⟨⟨hx25, hx25', hx25''⟩, H⟩ := ite_some H
  obtain ⟨ao25, cap25, f25, hr25⟩ := slA_run (kk := .i64) (T := 3) (N := 8) (g := g10) (o' := 0) (xs := (arL 8 t8)) (t := 162) (lo := Option.none) (hi := (Option.some (Operand.tmp 17))) (l := (0 : Int)) (h := t16.1) (dd := some 18) (ty := 143) (pos := "addr.go:86") (af := #[{ on := 0, ground := Ground.data }]) (gd := Option.none) ha (by kernel_rfl) (by kernel_rfl) (x := (Operand.tmp 3)) rfl (arL_length _ _) rfl rfl fw24 hx25 hx25' (by rw [arL_length]; exact hx25'')
  refine qv (v := .slice ao25 (((arL 8 t8).take (Int.toNat t16.1)).drop (Int.toNat (0 : Int))).length cap25) ha rfl rfl rfl (fun w' hs => hr25 w') fun a ha => ?_
  obtain ⟨t26, H26, H⟩ := bind_some H
  refine qc (.string (bstr t26)) ha (by rfl) (by kernel_rfl) (by rfl) (by rfl) (by rfl) (fun w' hs => (addr_written.walk w' [] (MS.nil _) (hG.chg (M' := []) hs (Ok.nil _ _) (Ok.nil _ _)) (((arL 8 t8).take (Int.toNat t16.1)).drop (Int.toNat (0 : Int))) ao25 cap25 (RSl.chg (M' := []) f25 hs (Ok.nil _ _) (Ok.nil _ _)) k _ H26).mono fun v w'' ⟨hv, hc, _⟩ => ⟨hv, hs.trans hc (Ok.nil _ _)⟩) fun a ha => ?_
  obtain ⟨hx27, H⟩ := ite_some H
  refine qv (v := .string (bstr (t26 ++ ([58, 58] : List UInt8)))) ha rfl rfl rfl (fun w' hs => sadd_run ha rfl rfl hx27 w') fun a ha => ?_
  refine qp 0 (.int .i64 t16.1) ha rfl rfl rfl (by kernel_rfl) fun a ha => ?_
  refine qp 0 (.int .i64 t16.2) ha rfl rfl rfl (by kernel_rfl) fun a ha => ?_
  refine qp 0 (.int .i64 (IntKind.i64.wrap (t16.1 + t16.2))) ha rfl rfl rfl (by kernel_rfl) fun a ha => ?_
  have fw28 : RSl (rInt .i64) 3 w16 (butL g10 w16) (some ⟨g10, 0, none⟩) 8 (arL 8 t8) := RSl.ofA ([] : List Value) ([] : List Value) (Box.cells hBg10) butL_self (by kernel_rfl) rfl
  obtain ⟨⟨hx29, hx29', hx29''⟩, H⟩ := ite_some H
  obtain ⟨ao29, cap29, f29, hr29⟩ := slA_run (kk := .i64) (T := 3) (N := 8) (g := g10) (o' := 0) (xs := (arL 8 t8)) (t := 162) (lo := (Option.some (Operand.tmp 23))) (hi := Option.none) (l := (IntKind.i64.wrap (t16.1 + t16.2))) (h := (8 : Int)) (dd := some 24) (ty := 143) (pos := "addr.go:86") (af := #[{ on := 6, ground := Ground.data }]) (gd := Option.none) ha (by kernel_rfl) (by kernel_rfl) (x := (Operand.tmp 3)) rfl (arL_length _ _) rfl rfl fw28 hx29 hx29' (by rw [arL_length]; exact hx29'')
  refine qv (v := .slice ao29 (((arL 8 t8).take (Int.toNat (8 : Int))).drop (Int.toNat (IntKind.i64.wrap (t16.1 + t16.2)))).length cap29) ha rfl rfl rfl (fun w' hs => hr29 w') fun a ha => ?_
  obtain ⟨t30, H30, H⟩ := bind_some H
  refine qc (.string (bstr t30)) ha (by rfl) (by kernel_rfl) (by rfl) (by rfl) (by rfl) (fun w' hs => (addr_written.walk w' [] (MS.nil _) (hG.chg (M' := []) hs (Ok.nil _ _) (Ok.nil _ _)) (((arL 8 t8).take (Int.toNat (8 : Int))).drop (Int.toNat (IntKind.i64.wrap (t16.1 + t16.2)))) ao29 cap29 (RSl.chg (M' := []) f29 hs (Ok.nil _ _) (Ok.nil _ _)) k _ H30).mono fun v w'' ⟨hv, hc, _⟩ => ⟨hv, hs.trans hc (Ok.nil _ _)⟩) fun a ha => ?_
  obtain ⟨hx31, H⟩ := ite_some H
  refine qv (v := .string (bstr ((t26 ++ ([58, 58] : List UInt8)) ++ t30))) ha rfl rfl rfl (fun w' hs => sadd_run ha rfl rfl hx31 w') fun a ha => ?_
  refine qp 0 (.string (bstr ((t26 ++ ([58, 58] : List UInt8)) ++ t30))) ha rfl rfl rfl (by kernel_rfl) fun a ha => ?_
  refine wpQuiet_nil ?_
  intro w32 hc33
  have o1 : Ok [] ([g10] ++ (M)) w16.heap.size := Ok.nil _ _
  have o2 : Ok ([g10] ++ (M)) ([g10] ++ (M)) w16.heap.size := (Ok.refl _ _)
  have hG := hG.chg hc33 o1 o2
  have f25 := f25.chg (M' := butL g10 w32) hc33 (Ok.nil _ _) butL_chg
  have f29 := f29.chg (M' := butL g10 w32) hc33 (Ok.nil _ _) butL_chg
  have hBg10 := hBg10.chg hc33 (fun h => nomatch h)
  have hM : MS ([g10] ++ (M)) w32 := (hM.chg hc33)
  have hC := hC.trans hc33 (Ok.nil _ _)
  refine wpl_end ?_
  refine hK23 _ _ ?_; try clear hK23 K23
  refine wp_ret ?_
  try simp only [Exit.then, Exit.inBlock]
  have o1 : Ok [] ([g10] ++ (M)) w32.heap.size := Ok.nil _ _
  have o2 : Ok (M) ([g10] ++ (M)) w32.heap.size := (fun _ h => .inl (mr (h)))
  have hG := hG.chg (Chg.refl [] _) o1 o2
  have hM : MS (M) w32 := (fun x h => hM.chg (Chg.refl [] _) x (mr (h)))
  obtain rfl := Option.some.inj H
  refine rt1 ha rfl rfl ?_
  exact ⟨rfl, hC, hM⟩
def addr_Text.l0 (a0 : S_api_Addr) : Nat → (List (List UInt8)) → Int → Option (List (List UInt8))
  | 0, _, _ => none
  | kk + 1, x23, x24 => (if (decide (x24 < ((((arL 16 a0.B).take (Int.toNat (4 : Int))).drop (Int.toNat (0 : Int))).length : Int))) = true then (if 0 ≤ x24 ∧ x24 < ((((arL 16 a0.B).take (Int.toNat (4 : Int))).drop (Int.toNat (0 : Int))).length : Int) then (strconv_Itoa.f (IntKind.i64.wrap (rd (((arL 16 a0.B).take (Int.toNat (4 : Int))).drop (Int.toNat (0 : Int))) x24))).bind fun t41 => (if (x23.length + ([t41] : List (List UInt8)).length) * 16 ≤ 140737488355328 then addr_Text.l0 a0 kk (x23 ++ ([t41] : List (List UInt8))) (IntKind.i64.wrap (x24 + (1 : Int))) else none) else none) else some (x23 : List (List UInt8)))
def addr_Text.f (k : Nat) (a0 : S_api_Addr) : Option (List UInt8) := (addr_Right.f k a0).bind fun t9 => (if (!t9) = true then some ((([] : List UInt8) : List UInt8)) else (if (a0.Size == (4 : Int)) = true then (if 0 ≤ (0 : Int) ∧ (0 : Int) ≤ (4 : Int) ∧ (4 : Int) ≤ (16 : Int) then (addr_Text.l0 a0 k ([] : List (List UInt8)) (0 : Int)).bind fun s21 => (strings_Join.f s21 ([46] : List UInt8)).bind fun t27 => some ((t27 : List UInt8)) else none) else (if (a0.Size == (16 : Int)) = true then (addr_text6.f k a0).bind fun t53 => some ((t53 : List UInt8)) else some ((([] : List UInt8) : List UInt8)))))
set_option maxRecDepth 100000 in
theorem addr_Text.walk (w : World) (M : List Nat) (hM : MS M w) (hG : GF w M) (a0 : S_api_Addr) (k : Nat) (r : List UInt8) (H : addr_Text.f k a0 = some r) :
    To Tryz.prog 70 [.agg (cS_api_Addr a0).toArray] w fun v w' => v = .string (bstr r) ∧ Chg [] w w' ∧ MS (M) w' := by
 unfold addr_Text.f at H
 refine ent Tryz.func70 rfl [(0, .agg (cS_api_Addr a0).toArray)] rfl (by rfl) fun a ha => ?_
 have hC : Chg [] w w := Chg.refl _ _
 refine wp_seq_k fun K1 hK1 => ?_
 refine wp_region_lit ?_
 refine bx (cs := (cS_api_Addr a0)) ha rfl rfl rfl rfl rfl fun a w2 g3 hN4 ha => ?_
 have hn6 := hN4.notin hM
 have o1 : Ok [] (M) w.heap.size := Ok.nil _ _
 have o2 : Ok (M) (M) w.heap.size := (Ok.refl _ _)
 have hG := hG.chg hN4.chg o1 o2
 have hM : MS (M) w2 := (hM.chg hN4.chg)
 have hC := hC.trans hN4.chg (Ok.nil _ _)
 have hE5 : ∀ j v, (cS_api_Addr a0)[j]? = some v → w2.cell? ⟨g3, 0 + j, none⟩ = some v := Box.cells (New.box hN4)
 refine seg ha 1 [(1, .pointer (some ⟨g3, 0, none⟩))] (by kernel_rfl) fun a ha => ?_
 refine hK1 _ _ ?_; try clear hK1 K1
 refine wp_seq_k fun K7 hK7 => ?_
 refine wp_seq_k fun K8 hK8 => ?_
 refine wp_region_lit ?_
 refine ldA (cs := (cS_api_Addr a0)) ha rfl (by kernel_rfl) rfl rfl rfl (cells_sub hE5 (all := (cS_api_Addr a0)) [] [] (by kernel_rfl)) fun a ha => ?_
 obtain ⟨t9, H9, H⟩ := bind_some H
 refine cl ha (by rfl) (by kernel_rfl) (by rfl) (by rfl) (by rfl) (addr_Right.walk w2 _ hM a0 k _ H9) ?_
 rintro _ w9 ⟨rfl, hc9, hMn⟩ a ha
 have o1 : Ok [] (M) w2.heap.size := Ok.nil _ _
 have o2 : Ok (M) (M) w2.heap.size := (Ok.refl _ _)
 have hG := hG.chg hc9 o1 o2
 have q_hn6 : g3 ∉ M := fun h => (o2 g3 h).elim hn6 (fun h => absurd (lt_cell (hE5 0 _ rfl)) (Nat.not_lt.2 h))
 have hE5 : ∀ j v, (cS_api_Addr a0)[j]? = some v → w9.cell? ⟨g3, 0 + j, none⟩ = some v := fun j v hv => (cell_keep hc9 o1 hn6 (hE5 j v hv))
 have hn6 := q_hn6
 have hM : MS (M) w9 := (hM.chg hc9)
 have hC := hC.trans hc9 (Ok.nil _ _)
 refine seg ha 1 [(1, .pointer (some ⟨g3, 0, none⟩)), (8, .bool (!t9))] (by kernel_rfl) fun a ha => ?_
 refine hK8 _ _ ?_; try clear hK8 K8
 refine cnd ha rfl (fun hc10 => ?_) (fun hc10 => ?_)
 ·have H := ite_t hc10 H
  refine wp_seq_k fun K11 hK11 => ?_
  refine wp_region_lit ?_
  refine seg ha 1 [(2, .string (bstr ([] : List UInt8)))] (by kernel_rfl) fun a ha => ?_
  refine hK11 _ _ ?_; try clear hK11 K11
  refine wp_ret ?_
  try simp only [Exit.then, Exit.inBlock]
  obtain rfl := Option.some.inj H
  refine rt1 ha rfl rfl ?_
  exact ⟨rfl, hC, hM⟩
 ·have H := ite_f hc10 H
  refine wp_skip ?_
  refine hK7 _ _ ?_; try clear hK7 K7
  refine wp_seq_k fun K12 hK12 => ?_
  refine wp_seq_k fun K13 hK13 => ?_
  refine wp_region_lit ?_
  refine seg ha 1 [(1, .pointer (some ⟨g3, 0, none⟩)), (9, .pointer (some ⟨g3, 0, none⟩))] (by kernel_rfl) fun a ha => ?_
  refine ld ha rfl (by kernel_rfl) rfl rfl rfl (hE5 0 (.int .i64 a0.Size) (by kernel_rfl)) fun a ha => ?_
  refine hK13 _ _ ?_; try clear hK13 K13
  refine wp_block ?_
  refine wp_seq_k fun K14 hK14 => ?_
  refine wp_region_lit ?_
  refine seg ha 2 [(1, .pointer (some ⟨g3, 0, none⟩)), (10, .int .i64 a0.Size), (11, .bool (a0.Size == (4 : Int)))] (by kernel_rfl) fun a ha => ?_
  refine hK14 _ _ ?_; try clear hK14 K14
  refine cnd ha rfl (fun hc15 => ?_) (fun hc15 => ?_)
  ·have H := ite_t hc15 H
   refine wp_seq_k fun K16 hK16 => ?_
   refine wp_region_lit ?_
   refine seg ha 1 [(1, .pointer (some ⟨g3, 0, none⟩)), (3, .slice none 0 0)] (by kernel_rfl) fun a ha => ?_
   refine hK16 _ _ ?_; try clear hK16 K16
   refine wp_seq_k fun K17 hK17 => ?_
   refine wp_seq_k fun K18 hK18 => ?_
   refine wp_region_lit ?_
   refine seg ha 1 [(3, .slice none 0 0), (13, .pointer (some ⟨g3, 0 + 1, none⟩))] (by kernel_rfl) fun a ha => ?_
   have f19 : RSl (rInt .u8) 5 w9 (M) (some ⟨g3, 0 + 1, none⟩) 16 (arL 16 a0.B) := RSl.ofA [.int .i64 a0.Size] [] hE5 hn6 (by kernel_rfl) rfl
   obtain ⟨⟨hx20, hx20', hx20''⟩, H⟩ := ite_some H
   obtain ⟨ao20, cap20, f20, hr20⟩ := slA_run (kk := .u8) (T := 5) (N := 16) (g := g3) (o' := 0 + 1) (xs := (arL 16 a0.B)) (t := 22) (lo := Option.none) (hi := (Option.some (Operand.const (Value.int IntKind.i64 4)))) (l := (0 : Int)) (h := (4 : Int)) (dd := some 14) (ty := 36) (pos := "addr.go:97") (af := #[{ on := 0, ground := Ground.data }]) (gd := Option.none) ha (by kernel_rfl) (by kernel_rfl) (x := (Operand.tmp 13)) rfl (arL_length _ _) rfl rfl f19 hx20 hx20' (by rw [arL_length]; exact hx20'')
   refine hop (v := .slice ao20 (((arL 16 a0.B).take (Int.toNat (4 : Int))).drop (Int.toNat (0 : Int))).length cap20) (w' := w9) ha rfl rfl rfl (hr20 _) fun a ha => ?_
   refine seg ha 2 [(3, .slice none 0 0), (14, .slice ao20 (((arL 16 a0.B).take (Int.toNat (4 : Int))).drop (Int.toNat (0 : Int))).length cap20), (15, .int .i64 ((((arL 16 a0.B).take (Int.toNat (4 : Int))).drop (Int.toNat (0 : Int))).length : Int)), (16, .int .i64 (0 : Int))] (by kernel_rfl) fun a ha => ?_
   refine hK18 _ _ ?_; try clear hK18 K18
   refine wp_block ?_
   obtain ⟨s21, H21, H⟩ := bind_some H
   have J21 : ∀ (a : Act) (wx21 : World) (ao25 : Option Addr) (cap25 : Nat), Has a Tryz.f70.ntmps [(3, .slice ao25 s21.length cap25)] → (Own rStr 9 wx21 (blkL ao25 ++ (M)) ao25 cap25 s21) → (∀ x ∈ blkL ao25, w.heap.size ≤ x) → (∀ x ∈ blkL ao25, x ∉ M) → (GF wx21 (blkL ao25 ++ (M))) → (Chg [] w wx21) → (MS (blkL ao25 ++ (M)) wx21) → K17 a wx21 := by
    intro a wx21 ao25 cap25 ha f25 e_i25 p_i25_M hG hC hM
    refine hK17 _ _ ?_; try clear hK17 K17
    refine wp_seq_k fun K26 hK26 => ?_
    refine wp_region_lit ?_
    refine seg ha 1 [(27, .slice ao25 s21.length cap25)] (by kernel_rfl) fun a ha => ?_
    have hML : MS (M) wx21 := MS.rest hM (fun _ h => mr (h))
    have oL : Ok (M) (blkL ao25 ++ (M)) wx21.heap.size := (fun _ h => .inl (mr (h)))
    obtain ⟨t27, H27, H⟩ := bind_some H
    refine cl ha (by rfl) (by kernel_rfl) (by rfl) (by rfl) (by rfl) (strings_Join.walk wx21 _ hML s21 ao25 cap25 (Own.toRSl (M' := M) f25 oL (fun x hx hm => p_i25_M x hx hm)) ([46] : List UInt8) _ H27) ?_
    rintro _ w27 ⟨rfl, hc27, hMn⟩ a ha
    have o1 : Ok [] (blkL ao25 ++ (M)) wx21.heap.size := Ok.nil _ _
    have o2 : Ok (blkL ao25 ++ (M)) (blkL ao25 ++ (M)) wx21.heap.size := (Ok.refl _ _)
    have hG := hG.chg hc27 o1 o2
    have f25 := f25.chg hc27 o1 o2 (fun _ _ h => nomatch h) (fun _ h => ml h)
    have hM : MS (blkL ao25 ++ (M)) w27 := (hM.chg hc27)
    have hC := hC.trans hc27 (Ok.nil _ _)
    refine seg ha 1 [(2, .string (bstr t27))] (by kernel_rfl) fun a ha => ?_
    refine hK26 _ _ ?_; try clear hK26 K26
    refine wp_ret ?_
    try simp only [Exit.then, Exit.inBlock]
    have o1 : Ok [] (blkL ao25 ++ (M)) w27.heap.size := Ok.nil _ _
    have o2 : Ok (M) (blkL ao25 ++ (M)) w27.heap.size := (fun _ h => .inl (mr (h)))
    have hG := hG.chg (Chg.refl [] _) o1 o2
    have hM : MS (M) w27 := (fun x h => hM.chg (Chg.refl [] _) x (mr (h)))
    obtain rfl := Option.some.inj H
    refine rt1 ha rfl rfl ?_
    exact ⟨rfl, hC, hM⟩
   have Hc21 := H
   have H := H21
   refine wp_loop_ghost (fun kk a w21 => ∃ (x23 : List (List UInt8)) (x24 : Int) (ao22 : Option Addr) (cap22 : Nat), addr_Text.l0 a0 kk x23 x24 = some s21 ∧ Has a Tryz.f70.ntmps [(3, .slice ao22 x23.length cap22), (14, .slice ao20 (((arL 16 a0.B).take (Int.toNat (4 : Int))).drop (Int.toNat (0 : Int))).length cap20), (15, .int .i64 ((((arL 16 a0.B).take (Int.toNat (4 : Int))).drop (Int.toNat (0 : Int))).length : Int)), (16, .int .i64 x24)] ∧ (Own rStr 9 w21 (blkL ao22 ++ (M)) ao22 cap22 x23) ∧ (RSl (rInt .u8) 5 w21 (blkL ao22 ++ (M)) ao20 cap20 (((arL 16 a0.B).take (Int.toNat (4 : Int))).drop (Int.toNat (0 : Int)))) ∧ (∀ x ∈ blkL ao22, w.heap.size ≤ x) ∧ (∀ x ∈ blkL ao22, x ∉ M) ∧ (GF w21 (blkL ao22 ++ (M))) ∧ (Chg [] w w21) ∧ (MS (blkL ao22 ++ (M)) w21)) k ?_ ?_
   ·skip
    have o1 : Ok [] (M) w9.heap.size := Ok.nil _ _
    have o2 : Ok (blkL none ++ (M)) (M) w9.heap.size := (Ok.app (fun _ h => nomatch h) (Ok.refl _ _))
    have hG := hG.chg (Chg.refl [] _) o1 o2
    have f20 := f20.chg (Chg.refl [] _) o1 o2
    have p_z28_M : ∀ x ∈ blkL none, x ∉ M := fun x hx hy => absurd (hM x (hy)) (Nat.not_lt.2 ((fun _ h => nomatch h) x hx))
    have e_z28 : ∀ x ∈ blkL none, w.heap.size ≤ x := fun x hx => Nat.le_trans hC.size ((fun _ h => nomatch h) x hx)
    have hM : MS (blkL none ++ (M)) w9 := (MS.app (fun _ h => nomatch h) (hM.chg (Chg.refl [] _)))
    exact ⟨([] : List (List UInt8)), (0 : Int), none, 0, H, (ha.sel (by kernel_rfl)), Own.nil, f20, e_z28, p_z28_M, hG, hC, hM⟩
   ·rintro kk a w21 ⟨x23, x24, ao22, cap22, H, ha, f22, f20, e_i22, p_i22_M, hG, hC, hM⟩
    obtain _ | kk := kk
    ·exact nomatch (show none = some _ from H)
    rw [addr_Text.l0] at H
    refine wp_seq_k fun K29 hK29 => ?_
    refine wp_region_lit ?_
    refine seg ha 1 [(3, .slice ao22 x23.length cap22), (14, .slice ao20 (((arL 16 a0.B).take (Int.toNat (4 : Int))).drop (Int.toNat (0 : Int))).length cap20), (15, .int .i64 ((((arL 16 a0.B).take (Int.toNat (4 : Int))).drop (Int.toNat (0 : Int))).length : Int)), (16, .int .i64 x24), (17, .bool (decide (x24 < ((((arL 16 a0.B).take (Int.toNat (4 : Int))).drop (Int.toNat (0 : Int))).length : Int))))] (by kernel_rfl) fun a ha => ?_
    refine hK29 _ _ ?_; try clear hK29 K29
    refine wp_seq_k fun K30 hK30 => ?_
    refine cnd ha rfl (fun hc31 => ?_) (fun hc31 => ?_)
    ·have H := ite_t hc31 H
     refine wp_skip ?_
     refine hK30 _ _ ?_; try clear hK30 K30
     refine wp_seq_k fun K32 hK32 => ?_
     refine wp_block ?_
     refine wp_seq_k fun K33 hK33 => ?_
     refine wp_region_lit ?_
     obtain ⟨⟨hx34, hx34'⟩, H⟩ := ite_some H
     refine ix (r := (rInt .u8)) ha (by kernel_rfl) (by kernel_rfl) rfl rfl rfl rfl rfl f20 hx34 hx34' fun a ge35 oe36 cs37 hn40 hR38 hE39 ha => ?_
     rw [rd_get] at hR38
     obtain rfl := hR38
     have hE39 : ∀ j v, ([.int .u8 (rd (((arL 16 a0.B).take (Int.toNat (4 : Int))).drop (Int.toNat (0 : Int))) x24)] : List Value)[j]? = some v → w21.cell? ⟨ge35, oe36 + j, none⟩ = some v := hE39
     refine ld ha rfl (by kernel_rfl) rfl rfl rfl (hE39 0 (.int .u8 (rd (((arL 16 a0.B).take (Int.toNat (4 : Int))).drop (Int.toNat (0 : Int))) x24)) (by kernel_rfl)) fun a ha => ?_
     refine seg ha 1 [(3, .slice ao22 x23.length cap22), (5, .int .u8 (rd (((arL 16 a0.B).take (Int.toNat (4 : Int))).drop (Int.toNat (0 : Int))) x24)), (14, .slice ao20 (((arL 16 a0.B).take (Int.toNat (4 : Int))).drop (Int.toNat (0 : Int))).length cap20), (15, .int .i64 ((((arL 16 a0.B).take (Int.toNat (4 : Int))).drop (Int.toNat (0 : Int))).length : Int)), (16, .int .i64 x24)] (by kernel_rfl) fun a ha => ?_
     refine hK33 _ _ ?_; try clear hK33 K33
     refine wp_region_lit ?_
     refine seg ha 3 [(14, .slice ao20 (((arL 16 a0.B).take (Int.toNat (4 : Int))).drop (Int.toNat (0 : Int))).length cap20), (15, .int .i64 ((((arL 16 a0.B).take (Int.toNat (4 : Int))).drop (Int.toNat (0 : Int))).length : Int)), (16, .int .i64 x24), (20, .slice ao22 x23.length cap22), (22, .int .i64 (IntKind.i64.wrap (rd (((arL 16 a0.B).take (Int.toNat (4 : Int))).drop (Int.toNat (0 : Int))) x24)))] (by kernel_rfl) fun a ha => ?_
     obtain ⟨t41, H41, H⟩ := bind_some H
     refine cl ha (by rfl) (by kernel_rfl) (by rfl) (by rfl) (by rfl) (strconv_Itoa.walk w21 _ hM hG (IntKind.i64.wrap (rd (((arL 16 a0.B).take (Int.toNat (4 : Int))).drop (Int.toNat (0 : Int))) x24)) _ H41) ?_
     rintro _ w41 ⟨rfl, hc41, hMn⟩ a ha
     have o1 : Ok [] (blkL ao22 ++ (M)) w21.heap.size := Ok.nil _ _
     have o2 : Ok (blkL ao22 ++ (M)) (blkL ao22 ++ (M)) w21.heap.size := (Ok.refl _ _)
     have hG := hG.chg hc41 o1 o2
     have f20 := f20.chg hc41 o1 o2
     have f22 := f22.chg hc41 o1 o2 (fun _ _ h => nomatch h) (fun _ h => ml h)
     have hM : MS (blkL ao22 ++ (M)) w41 := (hM.chg hc41)
     have hC := hC.trans hc41 (Ok.nil _ _)
     refine bsl (vals := ([.string (bstr t41)] : List Value)) (T := 9) ha rfl (([.string (bstr t41)] : List Value) ++ ([] : List Value)) (fun w => by kernel_rfl) rfl rfl rfl fun a w42 g43 hN44 ha => ?_
     have o1 : Ok [] (blkL ao22 ++ (M)) w41.heap.size := Ok.nil _ _
     have o2 : Ok ([g43] ++ (blkL ao22 ++ (M))) (blkL ao22 ++ (M)) w41.heap.size := (Ok.app (hN44.ok _) (Ok.refl _ _))
     have hG := hG.chg hN44.chg o1 o2
     have f20 := f20.chg hN44.chg o1 o2
     have f22 := f22.chg hN44.chg o1 o2 (fun _ _ h => nomatch h) (fun _ h => mr (ml h))
     have p_i45_i22 : ∀ x ∈ [g43], x ∉ (blkL ao22) := fun x hx hy => absurd (hM x (ml hy)) (Nat.not_lt.2 ((hN44.ge1) x hx))
     have p_i45_M : ∀ x ∈ [g43], x ∉ M := fun x hx hy => absurd (hM x (mr (hy))) (Nat.not_lt.2 ((hN44.ge1) x hx))
     have e_i45 : ∀ x ∈ [g43], w.heap.size ≤ x := fun x hx => Nat.le_trans hC.size ((hN44.ge1) x hx)
     have hM : MS ([g43] ++ (blkL ao22 ++ (M))) w42 := (MS.app hN44.ms (hM.chg hN44.chg))
     have hC := hC.trans hN44.chg (Ok.nil _ _)
     have f46 : Own rStr 9 w42 ([g43] ++ (blkL ao22 ++ (M))) (some ⟨g43, 0, none⟩) 1 ([t41] : List (List UInt8)) := hN44.own ⟨([.string (bstr t41)] : List Value), _, rfl, rfl, rfl⟩ (Nat.le_of_ble_eq_true rfl)
     obtain ⟨hx47, H⟩ := ite_some H
     refine app (r := rStr) (xs := x23) (ys := ([t41] : List (List UInt8))) ha (ElemT.mk' (bytes := 16) (by kernel_rfl)) rfl rfl rfl rfl rfl f22 f46.src hx47 (by decide) fun a w48 ao49 cap49 hO49 hc49 hk49 hl49 ha => ?_
     have o1 : Ok (blkL ao22) ([g43] ++ (blkL ao22 ++ (M))) w42.heap.size := (fun _ h => .inl (mr (ml h)))
     have o2 : Ok (blkL ao49 ++ ([g43] ++ (M))) ([g43] ++ (blkL ao22 ++ (M))) w42.heap.size := (Ok.app (Ok.to hk49 (fun _ h => mr (ml h))) (Ok.app (fun _ h => .inl (ml h)) (fun _ h => .inl (mr (mr (h))))))
     have hG := hG.chg hc49 o1 o2
     have f20 := f20.chg hc49 o1 o2
     have f46 := f46.chg hc49 o1 o2 p_i45_i22 (fun _ h => mr (ml h))
     have p_i49_i45 : ∀ x ∈ blkL ao49, x ∉ ([g43]) := fun x hx hy => (hk49 x hx).elim (fun h => (fun x hx hy => p_i45_i22 x hy hx) x h hy) (fun h => absurd (hM x (ml hy)) (Nat.not_lt.2 h))
     have p_i49_M : ∀ x ∈ blkL ao49, x ∉ M := fun x hx hy => (hk49 x hx).elim (fun h => p_i22_M x h hy) (fun h => absurd (hM x (mr (mr (hy)))) (Nat.not_lt.2 h))
     have e_i49 : ∀ x ∈ blkL ao49, w.heap.size ≤ x := fun x hx => (hk49 x hx).elim (e_i22 x) (Nat.le_trans hC.size)
     have hM : MS (blkL ao49 ++ ([g43] ++ (M))) w48 := (MS.app hl49 (MS.app (fun x h => hM.chg hc49 x (ml h)) (fun x h => hM.chg hc49 x (mr (mr (h))))))
     have hC := hC.trans hc49 (fun x h => .inr (e_i22 x h))
     have f49 := hO49.chg (M' := blkL ao49 ++ ([g43] ++ (M))) (Chg.refl [] _) (Ok.nil _ _) (Ok.app (fun _ h => .inl (ml h)) (Ok.to (Ok.app (fun _ h => .inl (ml h)) (fun _ h => .inl (mr (mr (h))))) (fun _ h => mr h))) (fun _ _ h => nomatch h) (fun _ h => ml h)
     refine seg ha 1 [(3, .slice ao49 (x23 ++ ([t41] : List (List UInt8))).length cap49), (14, .slice ao20 (((arL 16 a0.B).take (Int.toNat (4 : Int))).drop (Int.toNat (0 : Int))).length cap20), (15, .int .i64 ((((arL 16 a0.B).take (Int.toNat (4 : Int))).drop (Int.toNat (0 : Int))).length : Int)), (16, .int .i64 x24)] (by kernel_rfl) fun a ha => ?_
     refine hK32 _ _ ?_; try clear hK32 K32
     refine wp_region_lit ?_
     refine seg ha 2 [(3, .slice ao49 (x23 ++ ([t41] : List (List UInt8))).length cap49), (14, .slice ao20 (((arL 16 a0.B).take (Int.toNat (4 : Int))).drop (Int.toNat (0 : Int))).length cap20), (15, .int .i64 ((((arL 16 a0.B).take (Int.toNat (4 : Int))).drop (Int.toNat (0 : Int))).length : Int)), (16, .int .i64 (IntKind.i64.wrap (x24 + (1 : Int))))] (by kernel_rfl) fun a ha => ?_
     have o1 : Ok [] (blkL ao49 ++ ([g43] ++ (M))) w48.heap.size := Ok.nil _ _
     have o2 : Ok (blkL ao49 ++ (M)) (blkL ao49 ++ ([g43] ++ (M))) w48.heap.size := (Ok.app (fun _ h => .inl (ml h)) (fun _ h => .inl (mr (mr (h)))))
     have hG := hG.chg (Chg.refl [] _) o1 o2
     have f20 := f20.chg (Chg.refl [] _) o1 o2
     have f49 := f49.chg (Chg.refl [] _) o1 o2 (fun _ _ h => nomatch h) (fun _ h => ml h)
     have hM : MS (blkL ao49 ++ (M)) w48 := (MS.app (fun x h => hM.chg (Chg.refl [] _) x (ml h)) (fun x h => hM.chg (Chg.refl [] _) x (mr (mr (h)))))
     exact ⟨kk, Nat.lt_succ_self _, ⟨(x23 ++ ([t41] : List (List UInt8))), IntKind.i64.wrap (x24 + (1 : Int)), ao49, cap49, H, (ha.sel (by kernel_rfl)), f49, f20, e_i49, p_i49_M, hG, hC, hM⟩⟩
    ·have H := ite_f hc31 H
     refine wp_exit ?_
     simp only [Exit.then, Exit.inBlock, ↓reduceIte, Nat.reduceEqDiff]
     obtain rfl := Option.some.inj H
     exact J21 _ _ ao22 cap22 (ha.sel (by kernel_rfl)) f22 e_i22 p_i22_M hG hC hM
  ·have H := ite_f hc15 H
   refine wp_seq_k fun K50 hK50 => ?_
   refine wp_region_lit ?_
   refine seg ha 2 [(1, .pointer (some ⟨g3, 0, none⟩)), (29, .bool (a0.Size == (16 : Int)))] (by kernel_rfl) fun a ha => ?_
   refine hK50 _ _ ?_; try clear hK50 K50
   refine cnd ha rfl (fun hc51 => ?_) (fun hc51 => ?_)
   ·have H := ite_t hc51 H
    refine wp_seq_k fun K52 hK52 => ?_
    refine wp_region_lit ?_
    refine ldA (cs := (cS_api_Addr a0)) ha rfl (by kernel_rfl) rfl rfl rfl (cells_sub hE5 (all := (cS_api_Addr a0)) [] [] (by kernel_rfl)) fun a ha => ?_
    obtain ⟨t53, H53, H⟩ := bind_some H
    refine cl ha (by rfl) (by kernel_rfl) (by rfl) (by rfl) (by rfl) (addr_text6.walk w9 _ hM hG a0 k _ H53) ?_
    rintro _ w53 ⟨rfl, hc53, hMn⟩ a ha
    have o1 : Ok [] (M) w9.heap.size := Ok.nil _ _
    have o2 : Ok (M) (M) w9.heap.size := (Ok.refl _ _)
    have hG := hG.chg hc53 o1 o2
    have hM : MS (M) w53 := (hM.chg hc53)
    have hC := hC.trans hc53 (Ok.nil _ _)
    refine seg ha 1 [(2, .string (bstr t53))] (by kernel_rfl) fun a ha => ?_
    refine hK52 _ _ ?_; try clear hK52 K52
    refine wp_ret ?_
    try simp only [Exit.then, Exit.inBlock]
    obtain rfl := Option.some.inj H
    refine rt1 ha rfl rfl ?_
    exact ⟨rfl, hC, hM⟩
   ·have H := ite_f hc51 H
    refine wp_skip ?_
    refine hK12 _ _ ?_; try clear hK12 K12
    refine wp_seq_k fun K54 hK54 => ?_
    refine wp_region_lit ?_
    refine seg ha 1 [(2, .string (bstr ([] : List UInt8)))] (by kernel_rfl) fun a ha => ?_
    refine hK54 _ _ ?_; try clear hK54 K54
    refine wp_ret ?_
    try simp only [Exit.then, Exit.inBlock]
    obtain rfl := Option.some.inj H
    refine rt1 ha rfl rfl ?_
    exact ⟨rfl, hC, hM⟩
def rd_Text.l0 (a0 : List Int) : Nat → (List Int) → Int → Option (List Int)
  | 0, _, _ => none
  | kk + 1, x25, x26 => (if (decide (x26 < (8 : Int))) = true then (if 0 ≤ x26 ∧ x26 < (8 : Int) then (if 0 ≤ (Int.fdiv (ar a0 (Int.toNat x26)) (2 ^ (min (4 : Int).toNat IntKind.u8.bits))) ∧ (Int.fdiv (ar a0 (Int.toNat x26)) (2 ^ (min (4 : Int).toNat IntKind.u8.bits))) < (([48, 49, 50, 51, 52, 53, 54, 55, 56, 57, 97, 98, 99, 100, 101, 102] : List UInt8).length : Int) then (if 0 ≤ (IntKind.u8.wrap (BitVec.ofInt IntKind.u8.bits (ar a0 (Int.toNat x26)) &&& BitVec.ofInt IntKind.u8.bits (15 : Int)).toNat) ∧ (IntKind.u8.wrap (BitVec.ofInt IntKind.u8.bits (ar a0 (Int.toNat x26)) &&& BitVec.ofInt IntKind.u8.bits (15 : Int)).toNat) < (([48, 49, 50, 51, 52, 53, 54, 55, 56, 57, 97, 98, 99, 100, 101, 102] : List UInt8).length : Int) then (if (x25.length + ([((([48, 49, 50, 51, 52, 53, 54, 55, 56, 57, 97, 98, 99, 100, 101, 102] : List UInt8).getD (Int.toNat (Int.fdiv (ar a0 (Int.toNat x26)) (2 ^ (min (4 : Int).toNat IntKind.u8.bits)))) 0).toNat : Int), ((([48, 49, 50, 51, 52, 53, 54, 55, 56, 57, 97, 98, 99, 100, 101, 102] : List UInt8).getD (Int.toNat (IntKind.u8.wrap (BitVec.ofInt IntKind.u8.bits (ar a0 (Int.toNat x26)) &&& BitVec.ofInt IntKind.u8.bits (15 : Int)).toNat)) 0).toNat : Int)] : List Int).length) * 1 ≤ 140737488355328 then rd_Text.l0 a0 kk (x25 ++ ([((([48, 49, 50, 51, 52, 53, 54, 55, 56, 57, 97, 98, 99, 100, 101, 102] : List UInt8).getD (Int.toNat (Int.fdiv (ar a0 (Int.toNat x26)) (2 ^ (min (4 : Int).toNat IntKind.u8.bits)))) 0).toNat : Int), ((([48, 49, 50, 51, 52, 53, 54, 55, 56, 57, 97, 98, 99, 100, 101, 102] : List UInt8).getD (Int.toNat (IntKind.u8.wrap (BitVec.ofInt IntKind.u8.bits (ar a0 (Int.toNat x26)) &&& BitVec.ofInt IntKind.u8.bits (15 : Int)).toNat)) 0).toNat : Int)] : List Int)) (IntKind.i64.wrap (x26 + (1 : Int))) else none) else none) else none) else none) else some (x25 : List Int))
def rd_Text.f (k : Nat) (a0 : List Int) : Option (List UInt8) := (rd_Parts.f k a0).bind fun t8 => (if (!t8.2.2.2) = true then (rd_Text.l0 a0 k ([(63 : Int), (58 : Int)] : List Int) (0 : Int)).bind fun s23 => some ((b2s s23 : List UInt8)) else (strconv_Itoa.f t8.2.1).bind fun t50 => ((if (t8.1 == (1 : Int)) = true then (if 0 ≤ (2 : Int) ∧ (2 : Int) ≤ (6 : Int) ∧ (6 : Int) ≤ (8 : Int) then (addr_Of.f (((arL 8 a0).take (Int.toNat (6 : Int))).drop (Int.toNat (2 : Int)))).bind fun t65 => (addr_Text.f k t65.1).bind fun t72 => some (t72 : List UInt8) else none) else some (t50 : List UInt8))).bind fun s52 => (strconv_Itoa.f t8.1).bind fun t54 => (if (t54 ++ ([58] : List UInt8)).length ≤ 9223372036854775807 then (if ((t54 ++ ([58] : List UInt8)) ++ s52).length ≤ 9223372036854775807 then (if (((t54 ++ ([58] : List UInt8)) ++ s52) ++ ([58] : List UInt8)).length ≤ 9223372036854775807 then (strconv_Itoa.f t8.2.2.1).bind fun t58 => (if ((((t54 ++ ([58] : List UInt8)) ++ s52) ++ ([58] : List UInt8)) ++ t58).length ≤ 9223372036854775807 then some (((((t54 ++ ([58] : List UInt8)) ++ s52) ++ ([58] : List UInt8)) ++ t58 : List UInt8)) else none) else none) else none) else none))
set_option maxRecDepth 100000 in
theorem rd_Text.walk (w : World) (M : List Nat) (hM : MS M w) (hG : GF w M) (a0 : List Int) (k : Nat) (r : List UInt8) (H : rd_Text.f k a0 = some r) :
    To Tryz.prog 69 [.agg (cA .u8 8 a0).toArray] w fun v w' => v = .string (bstr r) ∧ Chg [] w w' ∧ MS (M) w' := by
 unfold rd_Text.f at H
 refine ent Tryz.func69 rfl [(0, .agg (cA .u8 8 a0).toArray)] rfl (by rfl) fun a ha => ?_
 have hC : Chg [] w w := Chg.refl _ _
 refine wp_seq_k fun K1 hK1 => ?_
 refine wp_region_lit ?_
 refine bx (cs := (cA .u8 8 a0)) ha rfl rfl rfl rfl rfl fun a w2 g3 hN4 ha => ?_
 have hn6 := hN4.notin hM
 have o1 : Ok [] (M) w.heap.size := Ok.nil _ _
 have o2 : Ok (M) (M) w.heap.size := (Ok.refl _ _)
 have hG := hG.chg hN4.chg o1 o2
 have hM : MS (M) w2 := (hM.chg hN4.chg)
 have hC := hC.trans hN4.chg (Ok.nil _ _)
 have hE5 : ∀ j v, (cA .u8 8 a0)[j]? = some v → w2.cell? ⟨g3, 0 + j, none⟩ = some v := Box.cells (New.box hN4)
 refine seg ha 1 [(1, .pointer (some ⟨g3, 0, none⟩))] (by kernel_rfl) fun a ha => ?_
 refine hK1 _ _ ?_; try clear hK1 K1
 refine wp_seq_k fun K7 hK7 => ?_
 refine wp_region_lit ?_
 refine ldA (cs := (cA .u8 8 a0)) ha rfl (by kernel_rfl) rfl rfl rfl (cells_sub hE5 (all := (cA .u8 8 a0)) [] [] (by kernel_rfl)) fun a ha => ?_
 obtain ⟨t8, H8, H⟩ := bind_some H
 refine cl ha (by rfl) (by kernel_rfl) (by rfl) (by rfl) (by rfl) (rd_Parts.walk w2 _ hM a0 k _ H8) ?_
 rintro _ w8 ⟨rfl, hc8, hMn⟩ a ha
 have o1 : Ok [] (M) w2.heap.size := Ok.nil _ _
 have o2 : Ok (M) (M) w2.heap.size := (Ok.refl _ _)
 have hG := hG.chg hc8 o1 o2
 have q_hn6 : g3 ∉ M := fun h => (o2 g3 h).elim hn6 (fun h => absurd (lt_cell (hE5 0 _ rfl)) (Nat.not_lt.2 h))
 have hE5 : ∀ j v, (cA .u8 8 a0)[j]? = some v → w8.cell? ⟨g3, 0 + j, none⟩ = some v := fun j v hv => (cell_keep hc8 o1 hn6 (hE5 j v hv))
 have hn6 := q_hn6
 have hM : MS (M) w8 := (hM.chg hc8)
 have hC := hC.trans hc8 (Ok.nil _ _)
 refine seg ha 9 [(1, .pointer (some ⟨g3, 0, none⟩)), (3, .int .i64 t8.1), (4, .int .i64 t8.2.1), (5, .int .i64 t8.2.2.1), (6, .bool t8.2.2.2)] (by kernel_rfl) fun a ha => ?_
 refine hK7 _ _ ?_; try clear hK7 K7
 refine wp_seq_k fun K9 hK9 => ?_
 refine wp_seq_k fun K10 hK10 => ?_
 refine wp_region_lit ?_
 refine seg ha 2 [(1, .pointer (some ⟨g3, 0, none⟩)), (3, .int .i64 t8.1), (4, .int .i64 t8.2.1), (5, .int .i64 t8.2.2.1), (21, .bool (!t8.2.2.2))] (by kernel_rfl) fun a ha => ?_
 refine hK10 _ _ ?_; try clear hK10 K10
 refine cnd ha rfl (fun hc11 => ?_) (fun hc11 => ?_)
 ·have H := ite_t hc11 H
  refine wp_seq_k fun K12 hK12 => ?_
  refine wp_region_lit ?_
  refine bsl (vals := ([.int .u8 (63 : Int), .int .u8 (58 : Int)] : List Value)) (T := 5) ha rfl (([.int .u8 (63 : Int)] : List Value) ++ (([.int .u8 (58 : Int)] : List Value) ++ ([] : List Value))) (fun w => by kernel_rfl) rfl rfl rfl fun a w13 g14 hN15 ha => ?_
  have o1 : Ok [] (M) w8.heap.size := Ok.nil _ _
  have o2 : Ok ([g14] ++ (M)) (M) w8.heap.size := (Ok.app (hN15.ok _) (Ok.refl _ _))
  have hG := hG.chg hN15.chg o1 o2
  have q_hn6 : g3 ∉ [g14] ++ (M) := fun h => (o2 g3 h).elim hn6 (fun h => absurd (lt_cell (hE5 0 _ rfl)) (Nat.not_lt.2 h))
  have hE5 : ∀ j v, (cA .u8 8 a0)[j]? = some v → w13.cell? ⟨g3, 0 + j, none⟩ = some v := fun j v hv => (cell_keep hN15.chg o1 hn6 (hE5 j v hv))
  have hn6 := q_hn6
  have p_i16_M : ∀ x ∈ [g14], x ∉ M := fun x hx hy => absurd (hM x (hy)) (Nat.not_lt.2 ((hN15.ge1) x hx))
  have e_i16 : ∀ x ∈ [g14], w.heap.size ≤ x := fun x hx => Nat.le_trans hC.size ((hN15.ge1) x hx)
  have hM : MS ([g14] ++ (M)) w13 := (MS.app hN15.ms (hM.chg hN15.chg))
  have hC := hC.trans hN15.chg (Ok.nil _ _)
  have f17 : Own (rInt .u8) 5 w13 ([g14] ++ (M)) (some ⟨g14, 0, none⟩) 2 ([(63 : Int), (58 : Int)] : List Int) := hN15.own ⟨([.int .u8 (63 : Int)] : List Value), _, rfl, rfl, ⟨([.int .u8 (58 : Int)] : List Value), _, rfl, rfl, rfl⟩⟩ (Nat.le_of_ble_eq_true rfl)
  refine cvl ha rfl (by kernel_rfl) (by kernel_rfl) rfl rfl rfl f17 fun a w18 hc19 hL20 ha => ?_
  have hOk20 : Ok [g14] ([g14] ++ (M)) w13.heap.size := (fun _ h => .inl (ml h))
  have hLt20 := f17.lt
  have o1 : Ok [g14] ([g14] ++ (M)) w13.heap.size := (fun _ h => .inl (ml h))
  have o2 : Ok ([g14] ++ (M)) ([g14] ++ (M)) w13.heap.size := (Ok.refl _ _)
  have hG := hG.chg hc19 o1 o2
  have q_hn6 : g3 ∉ [g14] ++ (M) := fun h => (o2 g3 h).elim hn6 (fun h => absurd (lt_cell (hE5 0 _ rfl)) (Nat.not_lt.2 h))
  have hE5 : ∀ j v, (cA .u8 8 a0)[j]? = some v → w18.cell? ⟨g3, 0 + j, none⟩ = some v := fun j v hv => (cell_keep hc19 o1 hn6 (hE5 j v hv))
  have hn6 := q_hn6
  have hM : MS ([g14] ++ (M)) w18 := (hM.chg hc19)
  have hC := hC.trans hc19 (fun x h => .inr (e_i16 x h))
  have f20 : OwnW .u8 5 w18 ([g14] ++ (M)) (some ⟨g14, 0, none⟩) 2 ([(63 : Int), (58 : Int)] : List Int) := .inr ⟨rfl, g14, rfl, ml (by simp [blkL]), Nat.lt_of_lt_of_le (hLt20 _ (by simp [blkL])) hc19.size, hL20 _ butL_self⟩
  refine seg ha 1 [(1, .pointer (some ⟨g3, 0, none⟩)), (7, .slice (some ⟨g14, 0, none⟩) ([(63 : Int), (58 : Int)] : List Int).length 2)] (by kernel_rfl) fun a ha => ?_
  refine hK12 _ _ ?_; try clear hK12 K12
  refine wp_seq_k fun K21 hK21 => ?_
  refine wp_seq_k fun K22 hK22 => ?_
  refine wp_region_lit ?_
  refine ldA (cs := (cA .u8 8 a0)) ha rfl (by kernel_rfl) rfl rfl rfl (cells_sub hE5 (all := (cA .u8 8 a0)) [] [] (by kernel_rfl)) fun a ha => ?_
  refine seg ha 1 [(7, .slice (some ⟨g14, 0, none⟩) ([(63 : Int), (58 : Int)] : List Int).length 2), (24, .agg (cA .u8 8 a0).toArray), (25, .int .i64 (0 : Int))] (by kernel_rfl) fun a ha => ?_
  refine hK22 _ _ ?_; try clear hK22 K22
  refine wp_block ?_
  obtain ⟨s23, H23, H⟩ := bind_some H
  have J23 : ∀ (a : Act) (wx23 : World) (ao27 : Option Addr) (cap27 : Nat), Has a Tryz.f69.ntmps [(7, .slice ao27 s23.length cap27)] → (OwnW .u8 5 wx23 (blkL ao27 ++ (M)) ao27 cap27 s23) → (∀ x ∈ blkL ao27, w.heap.size ≤ x) → (∀ x ∈ blkL ao27, x ∉ M) → (GF wx23 (blkL ao27 ++ (M))) → (Chg [] w wx23) → (MS (blkL ao27 ++ (M)) wx23) → K21 a wx23 := by
   intro a wx23 ao27 cap27 ha f27 e_i27 p_i27_M hG hC hM
   refine hK21 _ _ ?_; try clear hK21 K21
   refine wp_seq_k fun K28 hK28 => ?_
   refine wp_region_lit ?_
   refine seg ha 1 [(38, .slice ao27 s23.length cap27)] (by kernel_rfl) fun a ha => ?_
   refine cvs ha rfl (by kernel_rfl) (by kernel_rfl) (by kernel_rfl) rfl rfl rfl (OwnW.toRSl (M' := []) f27 (Ok.nil _ _) (fun _ _ h => nomatch h)) fun a ha => ?_
   refine seg ha 1 [(2, .string (bstr (b2s s23)))] (by kernel_rfl) fun a ha => ?_
   refine hK28 _ _ ?_; try clear hK28 K28
   refine wp_ret ?_
   try simp only [Exit.then, Exit.inBlock]
   have o1 : Ok [] (blkL ao27 ++ (M)) wx23.heap.size := Ok.nil _ _
   have o2 : Ok (M) (blkL ao27 ++ (M)) wx23.heap.size := (fun _ h => .inl (mr (h)))
   have hG := hG.chg (Chg.refl [] _) o1 o2
   have hM : MS (M) wx23 := (fun x h => hM.chg (Chg.refl [] _) x (mr (h)))
   obtain rfl := Option.some.inj H
   refine rt1 ha rfl rfl ?_
   exact ⟨rfl, hC, hM⟩
  have Hc23 := H
  have H := H23
  refine wp_loop_ghost (fun kk a w23 => ∃ (x25 : List Int) (x26 : Int) (ao24 : Option Addr) (cap24 : Nat), rd_Text.l0 a0 kk x25 x26 = some s23 ∧ Has a Tryz.f69.ntmps [(7, .slice ao24 x25.length cap24), (24, .agg (cA .u8 8 a0).toArray), (25, .int .i64 x26)] ∧ (OwnW .u8 5 w23 (blkL ao24 ++ (M)) ao24 cap24 x25) ∧ (∀ x ∈ blkL ao24, w.heap.size ≤ x) ∧ (∀ x ∈ blkL ao24, x ∉ M) ∧ (GF w23 (blkL ao24 ++ (M))) ∧ (Chg [] w w23) ∧ (MS (blkL ao24 ++ (M)) w23)) k ?_ ?_
  ·skip
   exact ⟨([(63 : Int), (58 : Int)] : List Int), (0 : Int), (some ⟨g14, 0, none⟩), 2, H, (ha.sel (by kernel_rfl)), f20, e_i16, p_i16_M, hG, hC, hM⟩
  ·rintro kk a w23 ⟨x25, x26, ao24, cap24, H, ha, f24, e_i24, p_i24_M, hG, hC, hM⟩
   obtain _ | kk := kk
   ·exact nomatch (show none = some _ from H)
   rw [rd_Text.l0] at H
   refine wp_seq_k fun K29 hK29 => ?_
   refine wp_region_lit ?_
   refine seg ha 1 [(7, .slice ao24 x25.length cap24), (24, .agg (cA .u8 8 a0).toArray), (25, .int .i64 x26), (26, .bool (decide (x26 < (8 : Int))))] (by kernel_rfl) fun a ha => ?_
   refine hK29 _ _ ?_; try clear hK29 K29
   refine wp_seq_k fun K30 hK30 => ?_
   refine cnd ha rfl (fun hc31 => ?_) (fun hc31 => ?_)
   ·have H := ite_t hc31 H
    refine wp_skip ?_
    refine hK30 _ _ ?_; try clear hK30 K30
    refine wp_seq_k fun K32 hK32 => ?_
    refine wp_block ?_
    refine wp_seq_k fun K33 hK33 => ?_
    refine wp_region_lit ?_
    obtain ⟨⟨hx34, hx34'⟩, H⟩ := ite_some H
    refine hop (v := .int .u8 (ar a0 (Int.toNat x26))) (w' := w23) ha rfl rfl rfl (aidx_run (T := 5) (N := 8) (kk := .u8) (l := a0) (k := .i64) (i := x26) ha (by kernel_rfl) (by kernel_rfl) (by kernel_rfl) (by rfl) (by rfl) hx34 hx34' _) fun a ha => ?_
    refine seg ha 1 [(7, .slice ao24 x25.length cap24), (9, .int .u8 (ar a0 (Int.toNat x26))), (24, .agg (cA .u8 8 a0).toArray), (25, .int .i64 x26)] (by kernel_rfl) fun a ha => ?_
    refine hK33 _ _ ?_; try clear hK33 K33
    have okS : Ok (blkL ao24) (blkL ao24 ++ (M)) w23.heap.size := (fun _ h => .inl (ml h))
    refine drw (fun w' => Chg (blkL ao24) w23 w') (by kernel_rfl) fun w35 hc36 _ => ?_
    have hS : Chg (blkL ao24) w23 w35 := (Chg.refl (blkL ao24) _).trans hc36 (Ok.nil _ _)
    have o1 : Ok [] (blkL ao24 ++ (M)) w23.heap.size := Ok.nil _ _
    have o2 : Ok (blkL ao24 ++ (M)) (blkL ao24 ++ (M)) w23.heap.size := (Ok.refl _ _)
    have hG := hG.chg hc36 o1 o2
    have f24 := f24.chg hc36 o1 o2 (fun _ _ h => nomatch h) (fun _ h => ml h)
    have hM : MS (blkL ao24 ++ (M)) w35 := (hM.chg hc36)
    have hC := hC.trans hc36 (Ok.nil _ _)
    refine tkpz 0 0 (.slice ao24 x25.length cap24) ha (s := hS) (q := fun a ha => ?_)
    refine tkpz 1 0 (.int .u8 (ar a0 (Int.toNat x26))) ha (s := hS) (q := fun a ha => ?_)
    refine tkpz 2 0 (.int .u8 (Int.fdiv (ar a0 (Int.toNat x26)) (2 ^ (min (4 : Int).toNat IntKind.u8.bits)))) ha (s := hS) (q := fun a ha => ?_)
    obtain ⟨⟨hx37, hx37'⟩, H⟩ := ite_some H
    refine tkz 3 ha (v := .int .u8 ((([48, 49, 50, 51, 52, 53, 54, 55, 56, 57, 97, 98, 99, 100, 101, 102] : List UInt8).getD (Int.toNat (Int.fdiv (ar a0 (Int.toNat x26)) (2 ^ (min (4 : Int).toNat IntKind.u8.bits)))) 0).toNat : Int)) (y := fun w' hs => sidx_run (l := ([48, 49, 50, 51, 52, 53, 54, 55, 56, 57, 97, 98, 99, 100, 101, 102] : List UInt8)) (k := .u8) (i := Int.fdiv (ar a0 (Int.toNat x26)) (2 ^ (min (4 : Int).toNat IntKind.u8.bits))) ha (by kernel_rfl) (by rfl) (by rfl) hx37 hx37' w') (s := hS) (q := fun a ha => ?_)
    refine tkpz 4 0 (.int .u8 (ar a0 (Int.toNat x26))) ha (s := hS) (q := fun a ha => ?_)
    refine tkpz 5 0 (.int .u8 (IntKind.u8.wrap (BitVec.ofInt IntKind.u8.bits (ar a0 (Int.toNat x26)) &&& BitVec.ofInt IntKind.u8.bits (15 : Int)).toNat)) ha (s := hS) (q := fun a ha => ?_)
    obtain ⟨⟨hx38, hx38'⟩, H⟩ := ite_some H
    refine tkz 6 ha (v := .int .u8 ((([48, 49, 50, 51, 52, 53, 54, 55, 56, 57, 97, 98, 99, 100, 101, 102] : List UInt8).getD (Int.toNat (IntKind.u8.wrap (BitVec.ofInt IntKind.u8.bits (ar a0 (Int.toNat x26)) &&& BitVec.ofInt IntKind.u8.bits (15 : Int)).toNat)) 0).toNat : Int)) (y := fun w' hs => sidx_run (l := ([48, 49, 50, 51, 52, 53, 54, 55, 56, 57, 97, 98, 99, 100, 101, 102] : List UInt8)) (k := .u8) (i := IntKind.u8.wrap (BitVec.ofInt IntKind.u8.bits (ar a0 (Int.toNat x26)) &&& BitVec.ofInt IntKind.u8.bits (15 : Int)).toNat) ha (by kernel_rfl) (by rfl) (by rfl) hx38 hx38' w') (s := hS) (q := fun a ha => ?_)
    refine ac 7 (by kernel_rfl) (by rfl) fun K39 hK39 => ?_
    refine bsl (vals := ([.int .u8 ((([48, 49, 50, 51, 52, 53, 54, 55, 56, 57, 97, 98, 99, 100, 101, 102] : List UInt8).getD (Int.toNat (Int.fdiv (ar a0 (Int.toNat x26)) (2 ^ (min (4 : Int).toNat IntKind.u8.bits)))) 0).toNat : Int), .int .u8 ((([48, 49, 50, 51, 52, 53, 54, 55, 56, 57, 97, 98, 99, 100, 101, 102] : List UInt8).getD (Int.toNat (IntKind.u8.wrap (BitVec.ofInt IntKind.u8.bits (ar a0 (Int.toNat x26)) &&& BitVec.ofInt IntKind.u8.bits (15 : Int)).toNat)) 0).toNat : Int)] : List Value)) (T := 5) ha rfl (([.int .u8 ((([48, 49, 50, 51, 52, 53, 54, 55, 56, 57, 97, 98, 99, 100, 101, 102] : List UInt8).getD (Int.toNat (Int.fdiv (ar a0 (Int.toNat x26)) (2 ^ (min (4 : Int).toNat IntKind.u8.bits)))) 0).toNat : Int)] : List Value) ++ (([.int .u8 ((([48, 49, 50, 51, 52, 53, 54, 55, 56, 57, 97, 98, 99, 100, 101, 102] : List UInt8).getD (Int.toNat (IntKind.u8.wrap (BitVec.ofInt IntKind.u8.bits (ar a0 (Int.toNat x26)) &&& BitVec.ofInt IntKind.u8.bits (15 : Int)).toNat)) 0).toNat : Int)] : List Value) ++ ([] : List Value))) (fun w => by kernel_rfl) rfl rfl rfl fun a w40 g41 hN42 ha => ?_
    have o1 : Ok [] (blkL ao24 ++ (M)) w35.heap.size := Ok.nil _ _
    have o2 : Ok ([g41] ++ (blkL ao24 ++ (M))) (blkL ao24 ++ (M)) w35.heap.size := (Ok.app (hN42.ok _) (Ok.refl _ _))
    have hG := hG.chg hN42.chg o1 o2
    have f24 := f24.chg hN42.chg o1 o2 (fun _ _ h => nomatch h) (fun _ h => mr (ml h))
    have p_iD000043_i24 : ∀ x ∈ [g41], x ∉ (blkL ao24) := fun x hx hy => absurd (hM x (ml hy)) (Nat.not_lt.2 ((hN42.ge1) x hx))
    have p_iD000043_M : ∀ x ∈ [g41], x ∉ M := fun x hx hy => absurd (hM x (mr (hy))) (Nat.not_lt.2 ((hN42.ge1) x hx))
    have e_iD000043 : ∀ x ∈ [g41], w.heap.size ≤ x := fun x hx => Nat.le_trans hC.size ((hN42.ge1) x hx)
    have hM : MS ([g41] ++ (blkL ao24 ++ (M))) w40 := (MS.app hN42.ms (hM.chg hN42.chg))
    have hC := hC.trans hN42.chg (Ok.nil _ _)
    have d_iD000043 : Ok ([g41]) (blkL ao24) w23.heap.size := fun x hx => .inr (Nat.le_trans hS.size ((hN42.ge1) x hx))
    have hS := hS.trans hN42.chg (Ok.nil _ _)
    have f44 : Own (rInt .u8) 5 w40 ([g41] ++ (blkL ao24 ++ (M))) (some ⟨g41, 0, none⟩) 2 ([((([48, 49, 50, 51, 52, 53, 54, 55, 56, 57, 97, 98, 99, 100, 101, 102] : List UInt8).getD (Int.toNat (Int.fdiv (ar a0 (Int.toNat x26)) (2 ^ (min (4 : Int).toNat IntKind.u8.bits)))) 0).toNat : Int), ((([48, 49, 50, 51, 52, 53, 54, 55, 56, 57, 97, 98, 99, 100, 101, 102] : List UInt8).getD (Int.toNat (IntKind.u8.wrap (BitVec.ofInt IntKind.u8.bits (ar a0 (Int.toNat x26)) &&& BitVec.ofInt IntKind.u8.bits (15 : Int)).toNat)) 0).toNat : Int)] : List Int) := hN42.own ⟨([.int .u8 ((([48, 49, 50, 51, 52, 53, 54, 55, 56, 57, 97, 98, 99, 100, 101, 102] : List UInt8).getD (Int.toNat (Int.fdiv (ar a0 (Int.toNat x26)) (2 ^ (min (4 : Int).toNat IntKind.u8.bits)))) 0).toNat : Int)] : List Value), _, rfl, rfl, ⟨([.int .u8 ((([48, 49, 50, 51, 52, 53, 54, 55, 56, 57, 97, 98, 99, 100, 101, 102] : List UInt8).getD (Int.toNat (IntKind.u8.wrap (BitVec.ofInt IntKind.u8.bits (ar a0 (Int.toNat x26)) &&& BitVec.ofInt IntKind.u8.bits (15 : Int)).toNat)) 0).toNat : Int)] : List Value), _, rfl, rfl, rfl⟩⟩ (Nat.le_of_ble_eq_true rfl)
    refine ae hK39 hS ?_; clear hK39 K39
    refine ac 8 (by kernel_rfl) (by rfl) fun K45 hK45 => ?_
    obtain ⟨hx46, H⟩ := ite_some H
    refine appW (k := .u8) (xs := x25) (ys := ([((([48, 49, 50, 51, 52, 53, 54, 55, 56, 57, 97, 98, 99, 100, 101, 102] : List UInt8).getD (Int.toNat (Int.fdiv (ar a0 (Int.toNat x26)) (2 ^ (min (4 : Int).toNat IntKind.u8.bits)))) 0).toNat : Int), ((([48, 49, 50, 51, 52, 53, 54, 55, 56, 57, 97, 98, 99, 100, 101, 102] : List UInt8).getD (Int.toNat (IntKind.u8.wrap (BitVec.ofInt IntKind.u8.bits (ar a0 (Int.toNat x26)) &&& BitVec.ofInt IntKind.u8.bits (15 : Int)).toNat)) 0).toNat : Int)] : List Int)) ha (ElemT.mk' (bytes := 1) (by kernel_rfl)) rfl rfl rfl rfl rfl f24 f44.src hx46 (by decide) (by simp) fun a w47 ao48 cap48 hO48 hc48 hk48 hl48 ha => ?_
    have o1 : Ok (blkL ao24) ([g41] ++ (blkL ao24 ++ (M))) w40.heap.size := (fun _ h => .inl (mr (ml h)))
    have o2 : Ok (blkL ao48 ++ ([g41] ++ (M))) ([g41] ++ (blkL ao24 ++ (M))) w40.heap.size := (Ok.app (Ok.to hk48 (fun _ h => mr (ml h))) (Ok.app (fun _ h => .inl (ml h)) (fun _ h => .inl (mr (mr (h))))))
    have hG := hG.chg hc48 o1 o2
    have f44 := f44.chg hc48 o1 o2 p_iD000043_i24 (fun _ h => mr (ml h))
    have p_iD000048_iD000043 : ∀ x ∈ blkL ao48, x ∉ ([g41]) := fun x hx hy => (hk48 x hx).elim (fun h => (fun x hx hy => p_iD000043_i24 x hy hx) x h hy) (fun h => absurd (hM x (ml hy)) (Nat.not_lt.2 h))
    have p_iD000048_M : ∀ x ∈ blkL ao48, x ∉ M := fun x hx hy => (hk48 x hx).elim (fun h => p_i24_M x h hy) (fun h => absurd (hM x (mr (mr (hy)))) (Nat.not_lt.2 h))
    have e_iD000048 : ∀ x ∈ blkL ao48, w.heap.size ≤ x := fun x hx => (hk48 x hx).elim (e_i24 x) (Nat.le_trans hC.size)
    have hM : MS (blkL ao48 ++ ([g41] ++ (M))) w47 := (MS.app hl48 (MS.app (fun x h => hM.chg hc48 x (ml h)) (fun x h => hM.chg hc48 x (mr (mr (h))))))
    have hC := hC.trans hc48 (fun x h => .inr (e_i24 x h))
    have d_iD000048 : Ok (blkL ao48) (blkL ao24) w23.heap.size := fun x hx => (hk48 x hx).elim (fun h => .inl (h)) (fun h => .inr (Nat.le_trans hS.size h))
    have hS := hS.trans hc48 (fun x h => .inl (h))
    have f48 := hO48.chg (M' := blkL ao48 ++ ([g41] ++ (M))) (Chg.refl [] _) (Ok.nil _ _) (Ok.app (fun _ h => .inl (ml h)) (Ok.to (Ok.app (fun _ h => .inl (ml h)) (fun _ h => .inl (mr (mr (h))))) (fun _ h => mr h))) (fun _ _ h => nomatch h) (fun _ h => ml h)
    refine ae hK45 hS ?_; clear hK45 K45
    refine tkpz 9 0 (.slice ao48 (x25 ++ ([((([48, 49, 50, 51, 52, 53, 54, 55, 56, 57, 97, 98, 99, 100, 101, 102] : List UInt8).getD (Int.toNat (Int.fdiv (ar a0 (Int.toNat x26)) (2 ^ (min (4 : Int).toNat IntKind.u8.bits)))) 0).toNat : Int), ((([48, 49, 50, 51, 52, 53, 54, 55, 56, 57, 97, 98, 99, 100, 101, 102] : List UInt8).getD (Int.toNat (IntKind.u8.wrap (BitVec.ofInt IntKind.u8.bits (ar a0 (Int.toNat x26)) &&& BitVec.ofInt IntKind.u8.bits (15 : Int)).toNat)) 0).toNat : Int)] : List Int)).length cap48) ha (s := hS) (q := fun a ha => ?_)
    refine dn (by kernel_rfl) ?_
    refine hK32 _ _ ?_; try clear hK32 K32
    refine wp_region_lit ?_
    refine seg ha 2 [(7, .slice ao48 (x25 ++ ([((([48, 49, 50, 51, 52, 53, 54, 55, 56, 57, 97, 98, 99, 100, 101, 102] : List UInt8).getD (Int.toNat (Int.fdiv (ar a0 (Int.toNat x26)) (2 ^ (min (4 : Int).toNat IntKind.u8.bits)))) 0).toNat : Int), ((([48, 49, 50, 51, 52, 53, 54, 55, 56, 57, 97, 98, 99, 100, 101, 102] : List UInt8).getD (Int.toNat (IntKind.u8.wrap (BitVec.ofInt IntKind.u8.bits (ar a0 (Int.toNat x26)) &&& BitVec.ofInt IntKind.u8.bits (15 : Int)).toNat)) 0).toNat : Int)] : List Int)).length cap48), (24, .agg (cA .u8 8 a0).toArray), (25, .int .i64 (IntKind.i64.wrap (x26 + (1 : Int))))] (by kernel_rfl) fun a ha => ?_
    have o1 : Ok [] (blkL ao48 ++ ([g41] ++ (M))) w47.heap.size := Ok.nil _ _
    have o2 : Ok (blkL ao48 ++ (M)) (blkL ao48 ++ ([g41] ++ (M))) w47.heap.size := (Ok.app (fun _ h => .inl (ml h)) (fun _ h => .inl (mr (mr (h)))))
    have hG := hG.chg (Chg.refl [] _) o1 o2
    have f48 := f48.chg (Chg.refl [] _) o1 o2 (fun _ _ h => nomatch h) (fun _ h => ml h)
    have hM : MS (blkL ao48 ++ (M)) w47 := (MS.app (fun x h => hM.chg (Chg.refl [] _) x (ml h)) (fun x h => hM.chg (Chg.refl [] _) x (mr (mr (h)))))
    exact ⟨kk, Nat.lt_succ_self _, ⟨(x25 ++ ([((([48, 49, 50, 51, 52, 53, 54, 55, 56, 57, 97, 98, 99, 100, 101, 102] : List UInt8).getD (Int.toNat (Int.fdiv (ar a0 (Int.toNat x26)) (2 ^ (min (4 : Int).toNat IntKind.u8.bits)))) 0).toNat : Int), ((([48, 49, 50, 51, 52, 53, 54, 55, 56, 57, 97, 98, 99, 100, 101, 102] : List UInt8).getD (Int.toNat (IntKind.u8.wrap (BitVec.ofInt IntKind.u8.bits (ar a0 (Int.toNat x26)) &&& BitVec.ofInt IntKind.u8.bits (15 : Int)).toNat)) 0).toNat : Int)] : List Int)), IntKind.i64.wrap (x26 + (1 : Int)), ao48, cap48, H, (ha.sel (by kernel_rfl)), f48, e_iD000048, p_iD000048_M, hG, hC, hM⟩⟩
   ·have H := ite_f hc31 H
    refine wp_exit ?_
    simp only [Exit.then, Exit.inBlock, ↓reduceIte, Nat.reduceEqDiff]
    obtain rfl := Option.some.inj H
    exact J23 _ _ ao24 cap24 (ha.sel (by kernel_rfl)) f24 e_i24 p_i24_M hG hC hM
 ·have H := ite_f hc11 H
  refine wp_skip ?_
  refine hK9 _ _ ?_; try clear hK9 K9
  refine wp_seq_k fun K49 hK49 => ?_
  refine wp_region_lit ?_
  refine seg ha 1 [(1, .pointer (some ⟨g3, 0, none⟩)), (3, .int .i64 t8.1), (5, .int .i64 t8.2.2.1), (40, .int .i64 t8.2.1)] (by kernel_rfl) fun a ha => ?_
  obtain ⟨t50, H50, H⟩ := bind_some H
  refine cl ha (by rfl) (by kernel_rfl) (by rfl) (by rfl) (by rfl) (strconv_Itoa.walk w8 _ hM hG t8.2.1 _ H50) ?_
  rintro _ w50 ⟨rfl, hc50, hMn⟩ a ha
  have o1 : Ok [] (M) w8.heap.size := Ok.nil _ _
  have o2 : Ok (M) (M) w8.heap.size := (Ok.refl _ _)
  have hG := hG.chg hc50 o1 o2
  have q_hn6 : g3 ∉ M := fun h => (o2 g3 h).elim hn6 (fun h => absurd (lt_cell (hE5 0 _ rfl)) (Nat.not_lt.2 h))
  have hE5 : ∀ j v, (cA .u8 8 a0)[j]? = some v → w50.cell? ⟨g3, 0 + j, none⟩ = some v := fun j v hv => (cell_keep hc50 o1 hn6 (hE5 j v hv))
  have hn6 := q_hn6
  have hM : MS (M) w50 := (hM.chg hc50)
  have hC := hC.trans hc50 (Ok.nil _ _)
  refine seg ha 1 [(1, .pointer (some ⟨g3, 0, none⟩)), (3, .int .i64 t8.1), (5, .int .i64 t8.2.2.1), (10, .string (bstr t50))] (by kernel_rfl) fun a ha => ?_
  refine hK49 _ _ ?_; try clear hK49 K49
  refine wp_seq_k fun K51 hK51 => ?_
  obtain ⟨s52, H52, H⟩ := bind_some H
  have J52 : ∀ (a : Act) (w52 : World), Has a Tryz.f69.ntmps [(3, .int .i64 t8.1), (5, .int .i64 t8.2.2.1), (10, .string (bstr s52))] → (GF w52 (M)) → (Chg [] w w52) → (MS (M) w52) → K51 a w52 := by
   intro a w52 ha hG hC hM
   refine hK51 _ _ ?_; try clear hK51 K51
   refine wp_seq_k fun K53 hK53 => ?_
   refine wp_region_lit ?_
   refine seg ha 1 [(5, .int .i64 t8.2.2.1), (10, .string (bstr s52)), (51, .int .i64 t8.1)] (by kernel_rfl) fun a ha => ?_
   obtain ⟨t54, H54, H⟩ := bind_some H
   refine cl ha (by rfl) (by kernel_rfl) (by rfl) (by rfl) (by rfl) (strconv_Itoa.walk w52 _ hM hG t8.1 _ H54) ?_
   rintro _ w54 ⟨rfl, hc54, hMn⟩ a ha
   have o1 : Ok [] (M) w52.heap.size := Ok.nil _ _
   have o2 : Ok (M) (M) w52.heap.size := (Ok.refl _ _)
   have hG := hG.chg hc54 o1 o2
   have hM : MS (M) w54 := (hM.chg hc54)
   have hC := hC.trans hc54 (Ok.nil _ _)
   obtain ⟨hx55, H⟩ := ite_some H
   refine sadd ha rfl rfl rfl rfl rfl hx55 fun a ha => ?_
   refine seg ha 1 [(5, .int .i64 t8.2.2.1), (53, .string (bstr (t54 ++ ([58] : List UInt8)))), (54, .string (bstr s52))] (by kernel_rfl) fun a ha => ?_
   obtain ⟨hx56, H⟩ := ite_some H
   refine sadd ha rfl rfl rfl rfl rfl hx56 fun a ha => ?_
   obtain ⟨hx57, H⟩ := ite_some H
   refine sadd ha rfl rfl rfl rfl rfl hx57 fun a ha => ?_
   refine seg ha 1 [(56, .string (bstr (((t54 ++ ([58] : List UInt8)) ++ s52) ++ ([58] : List UInt8)))), (57, .int .i64 t8.2.2.1)] (by kernel_rfl) fun a ha => ?_
   obtain ⟨t58, H58, H⟩ := bind_some H
   refine cl ha (by rfl) (by kernel_rfl) (by rfl) (by rfl) (by rfl) (strconv_Itoa.walk w54 _ hM hG t8.2.2.1 _ H58) ?_
   rintro _ w58 ⟨rfl, hc58, hMn⟩ a ha
   have o1 : Ok [] (M) w54.heap.size := Ok.nil _ _
   have o2 : Ok (M) (M) w54.heap.size := (Ok.refl _ _)
   have hG := hG.chg hc58 o1 o2
   have hM : MS (M) w58 := (hM.chg hc58)
   have hC := hC.trans hc58 (Ok.nil _ _)
   obtain ⟨hx59, H⟩ := ite_some H
   refine sadd ha rfl rfl rfl rfl rfl hx59 fun a ha => ?_
   refine seg ha 1 [(2, .string (bstr ((((t54 ++ ([58] : List UInt8)) ++ s52) ++ ([58] : List UInt8)) ++ t58)))] (by kernel_rfl) fun a ha => ?_
   refine hK53 _ _ ?_; try clear hK53 K53
   refine wp_ret ?_
   try simp only [Exit.then, Exit.inBlock]
   obtain rfl := Option.some.inj H
   refine rt1 ha rfl rfl ?_
   exact ⟨rfl, hC, hM⟩
  have H := H52
  refine wp_seq_k fun K60 hK60 => ?_
  refine wp_region_lit ?_
  refine seg ha 2 [(1, .pointer (some ⟨g3, 0, none⟩)), (3, .int .i64 t8.1), (5, .int .i64 t8.2.2.1), (10, .string (bstr t50)), (43, .bool (t8.1 == (1 : Int)))] (by kernel_rfl) fun a ha => ?_
  refine hK60 _ _ ?_; try clear hK60 K60
  refine cnd ha rfl (fun hc61 => ?_) (fun hc61 => ?_)
  ·have H := ite_t hc61 H
   refine wp_seq_k fun K62 hK62 => ?_
   refine wp_region_lit ?_
   have f63 : RSl (rInt .u8) 5 w50 (M) (some ⟨g3, 0 + 0, none⟩) 8 (arL 8 a0) := RSl.ofA [] [] hE5 hn6 (by kernel_rfl) rfl
   obtain ⟨⟨hx64, hx64', hx64''⟩, H⟩ := ite_some H
   obtain ⟨ao64, cap64, f64, hr64⟩ := slA_run (kk := .u8) (T := 5) (N := 8) (g := g3) (o' := 0 + 0) (xs := (arL 8 a0)) (t := 56) (lo := (Option.some (Operand.const (Value.int IntKind.i64 2)))) (hi := (Option.some (Operand.const (Value.int IntKind.i64 6)))) (l := (2 : Int)) (h := (6 : Int)) (dd := some 45) (ty := 36) (pos := "rd.go:71") (af := #[]) (gd := Option.none) ha (by kernel_rfl) (by kernel_rfl) (x := (Operand.tmp 1)) rfl (arL_length _ _) rfl rfl f63 hx64 hx64' (by rw [arL_length]; exact hx64'')
   refine hop (v := .slice ao64 (((arL 8 a0).take (Int.toNat (6 : Int))).drop (Int.toNat (2 : Int))).length cap64) (w' := w50) ha rfl rfl rfl (hr64 _) fun a ha => ?_
   obtain ⟨t65, H65, H⟩ := bind_some H
   refine cl ha (by rfl) (by kernel_rfl) (by rfl) (by rfl) (by rfl) (addr_Of.walk w50 _ hM (((arL 8 a0).take (Int.toNat (6 : Int))).drop (Int.toNat (2 : Int))) ao64 cap64 f64 _ H65) ?_
   rintro _ w65 ⟨rfl, hc65, hMn⟩ a ha
   have o1 : Ok [] (M) w50.heap.size := Ok.nil _ _
   have o2 : Ok (M) (M) w50.heap.size := (Ok.refl _ _)
   have hG := hG.chg hc65 o1 o2
   have f64 := f64.chg hc65 o1 o2
   have hM : MS (M) w65 := (hM.chg hc65)
   have hC := hC.trans hc65 (Ok.nil _ _)
   refine seg ha 3 [(3, .int .i64 t8.1), (5, .int .i64 t8.2.2.1), (47, .agg (cS_api_Addr t65.1).toArray), (48, .int .i64 t65.2)] (by kernel_rfl) fun a ha => ?_
   refine al (cs := (cS_api_Addr (⟨(0 : Int), (List.replicate 16 (0 : Int))⟩ : S_api_Addr))) (z := .agg (cS_api_Addr (⟨(0 : Int), (List.replicate 16 (0 : Int))⟩ : S_api_Addr)).toArray) ha (fun w => by kernel_rfl) rfl rfl rfl rfl fun a w66 g67 hN68 ha => ?_
   have o1 : Ok [] (M) w65.heap.size := Ok.nil _ _
   have o2 : Ok ([g67] ++ (M)) (M) w65.heap.size := (Ok.app (hN68.ok _) (Ok.refl _ _))
   have hG := hG.chg hN68.chg o1 o2
   have p_i69_M : ∀ x ∈ [g67], x ∉ M := fun x hx hy => absurd (hM x (hy)) (Nat.not_lt.2 ((hN68.ge1) x hx))
   have e_i69 : ∀ x ∈ [g67], w.heap.size ≤ x := fun x hx => Nat.le_trans hC.size ((hN68.ge1) x hx)
   have hM : MS ([g67] ++ (M)) w66 := (MS.app hN68.ms (hM.chg hN68.chg))
   have hC := hC.trans hN68.chg (Ok.nil _ _)
   have hBg67 : Box w66 g67 (cS_api_Addr (⟨(0 : Int), (List.replicate 16 (0 : Int))⟩ : S_api_Addr)) := hN68.box
   refine stA (l := (cS_api_Addr t65.1)) ha rfl rfl rfl (by kernel_rfl) rfl rfl hBg67 rfl fun a w70 ha hb2 hc71 _ => ?_
   have o1 : Ok [g67] ([g67] ++ (M)) w66.heap.size := (fun _ h => .inl (ml h))
   have o2 : Ok ([g67] ++ (M)) ([g67] ++ (M)) w66.heap.size := (Ok.refl _ _)
   have hG := hG.chg hc71 o1 o2
   have hM : MS ([g67] ++ (M)) w70 := (hM.chg hc71)
   have hC := hC.trans hc71 (fun x h => .inr (e_i69 x h))
   have hBg67 : Box w70 g67 (cS_api_Addr t65.1) := hb2
   refine seg ha 1 [(3, .int .i64 t8.1), (5, .int .i64 t8.2.2.1), (11, .pointer (some ⟨g67, 0, none⟩))] (by kernel_rfl) fun a ha => ?_
   refine hK62 _ _ ?_; try clear hK62 K62
   refine wp_region_lit ?_
   refine ldA (cs := (cS_api_Addr t65.1)) ha rfl (by kernel_rfl) rfl rfl rfl (cells_sub (Box.cells hBg67) (all := (cS_api_Addr t65.1)) [] [] (by kernel_rfl)) fun a ha => ?_
   obtain ⟨t72, H72, H⟩ := bind_some H
   refine cl ha (by rfl) (by kernel_rfl) (by rfl) (by rfl) (by rfl) (addr_Text.walk w70 _ hM hG t65.1 k _ H72) ?_
   rintro _ w72 ⟨rfl, hc72, hMn⟩ a ha
   have o1 : Ok [] ([g67] ++ (M)) w70.heap.size := Ok.nil _ _
   have o2 : Ok ([g67] ++ (M)) ([g67] ++ (M)) w70.heap.size := (Ok.refl _ _)
   have hG := hG.chg hc72 o1 o2
   have hBg67 := hBg67.chg hc72 (fun h => nomatch h)
   have hM : MS ([g67] ++ (M)) w72 := (hM.chg hc72)
   have hC := hC.trans hc72 (Ok.nil _ _)
   refine seg ha 1 [(3, .int .i64 t8.1), (5, .int .i64 t8.2.2.1), (10, .string (bstr t72))] (by kernel_rfl) fun a ha => ?_
   obtain rfl := Option.some.inj H
   have o1 : Ok [] ([g67] ++ (M)) w72.heap.size := Ok.nil _ _
   have o2 : Ok (M) ([g67] ++ (M)) w72.heap.size := (fun _ h => .inl (mr (h)))
   have hG := hG.chg (Chg.refl [] _) o1 o2
   have hM : MS (M) w72 := (fun x h => hM.chg (Chg.refl [] _) x (mr (h)))
   exact J52 _ _ (ha.sel (by kernel_rfl)) hG hC hM
  ·have H := ite_f hc61 H
   refine wp_skip ?_
   obtain rfl := Option.some.inj H
   exact J52 _ _ (ha.sel (by kernel_rfl)) hG hC hM
def community_rest.f (a0 : List Int) : Option (S_cursor_Reader) := (if 0 ≤ (2 : Int) ∧ (2 : Int) ≤ (8 : Int) ∧ (8 : Int) ≤ (8 : Int) then (cursor_Open.f (((arL 8 a0).take (Int.toNat (8 : Int))).drop (Int.toNat (2 : Int)))).bind fun t10 => some ((t10 : S_cursor_Reader)) else none)
set_option maxRecDepth 100000 in
theorem community_rest.walk (w : World) (M : List Nat) (hM : MS M w) (a0 : List Int) (r : S_cursor_Reader) (H : community_rest.f a0 = some r) :
    To Tryz.prog 57 [.agg (cA .u8 8 a0).toArray] w fun v w' => ∃ (g14 : Nat) (ao16 : Option Addr) (cap16 : Nat), v = .pointer (some ⟨g14, 0, none⟩) ∧ (RSl (rInt .u8) 5 w' ([g14] ++ (M)) ao16 cap16 r.rest.left) ∧ (Box w' g14 (cS_cursor_Reader r ao16 cap16)) ∧ (∀ x ∈ [g14], w.heap.size ≤ x) ∧ Chg [] w w' ∧ MS ([g14] ++ (M)) w' := by
 unfold community_rest.f at H
 refine ent Tryz.func57 rfl [(0, .agg (cA .u8 8 a0).toArray)] rfl (by rfl) fun a ha => ?_
 have hC : Chg [] w w := Chg.refl _ _
 refine wp_seq_k fun K1 hK1 => ?_
 refine wp_region_lit ?_
 refine bx (cs := (cA .u8 8 a0)) ha rfl rfl rfl rfl rfl fun a w2 g3 hN4 ha => ?_
 have hn6 := hN4.notin hM
 have hM : MS (M) w2 := (hM.chg hN4.chg)
 have hC := hC.trans hN4.chg (Ok.nil _ _)
 have hE5 : ∀ j v, (cA .u8 8 a0)[j]? = some v → w2.cell? ⟨g3, 0 + j, none⟩ = some v := Box.cells (New.box hN4)
 refine seg ha 1 [(1, .pointer (some ⟨g3, 0, none⟩))] (by kernel_rfl) fun a ha => ?_
 refine hK1 _ _ ?_; try clear hK1 K1
 refine wp_seq_k fun K7 hK7 => ?_
 refine wp_region_lit ?_
 have f8 : RSl (rInt .u8) 5 w2 (M) (some ⟨g3, 0 + 0, none⟩) 8 (arL 8 a0) := RSl.ofA [] [] hE5 hn6 (by kernel_rfl) rfl
 obtain ⟨⟨hx9, hx9', hx9''⟩, H⟩ := ite_some H
 obtain ⟨ao9, cap9, f9, hr9⟩ := slA_run (kk := .u8) (T := 5) (N := 8) (g := g3) (o' := 0 + 0) (xs := (arL 8 a0)) (t := 27) (lo := (Option.some (Operand.const (Value.int IntKind.i64 2)))) (hi := Option.none) (l := (2 : Int)) (h := (8 : Int)) (dd := some 3) (ty := 36) (pos := "community.go:72") (af := #[]) (gd := Option.none) ha (by kernel_rfl) (by kernel_rfl) (x := (Operand.tmp 1)) rfl (arL_length _ _) rfl rfl f8 hx9 hx9' (by rw [arL_length]; exact hx9'')
 refine hop (v := .slice ao9 (((arL 8 a0).take (Int.toNat (8 : Int))).drop (Int.toNat (2 : Int))).length cap9) (w' := w2) ha rfl rfl rfl (hr9 _) fun a ha => ?_
 obtain ⟨t10, H10, H⟩ := bind_some H
 refine cl ha (by rfl) (by kernel_rfl) (by rfl) (by rfl) (by rfl) (cursor_Open.walk w2 _ hM (((arL 8 a0).take (Int.toNat (8 : Int))).drop (Int.toNat (2 : Int))) ao9 cap9 f9 _ H10) ?_
 rintro _ w10 ⟨g11, ao13, cap13, rfl, f13, hBg11, ne_i12, hc10, hMn⟩ a ha
 have o1 : Ok [] (M) w2.heap.size := Ok.nil _ _
 have o2 : Ok ([g11] ++ (M)) (M) w2.heap.size := (Ok.app (fun x h => .inr (ne_i12 x h)) (Ok.refl _ _))
 have f9 := f9.chg hc10 o1 o2
 have p_i12_M : ∀ x ∈ [g11], x ∉ M := fun x hx hy => absurd (hM x (hy)) (Nat.not_lt.2 (ne_i12 x hx))
 have e_i12 : ∀ x ∈ [g11], w.heap.size ≤ x := fun x hx => Nat.le_trans hC.size (ne_i12 x hx)
 have hM : MS ([g11] ++ (M)) w10 := (MS.app (fun x h => hMn x (ml h)) (hM.chg hc10))
 have hC := hC.trans hc10 (Ok.nil _ _)
 refine seg ha 1 [(2, .pointer (some ⟨g11, 0, none⟩))] (by kernel_rfl) fun a ha => ?_
 refine hK7 _ _ ?_; try clear hK7 K7
 refine wp_ret ?_
 try simp only [Exit.then, Exit.inBlock]
 obtain rfl := Option.some.inj H
 refine rt1 ha rfl rfl ?_
 exact ⟨g11, ao13, cap13, rfl, f13, hBg11, e_i12, hC, hM⟩
def cursor_Reader_Take.f (a0 : S_cursor_Reader) (a1 : Int) : Option (List Int × S_cursor_Reader) := (cursor_rest_next.f a0.rest a1).bind fun t4 => (bytes_Clone.f t4.1).bind fun t7 => some ((t7 : List Int), ((⟨t4.2⟩ : S_cursor_Reader) : S_cursor_Reader))
set_option maxRecDepth 100000 in
theorem cursor_Reader_Take.walk (w : World) (M : List Nat) (hM : MS M w) (gp0 : Nat) (a0 : S_cursor_Reader) (ao1 : Option Addr) (cap1 : Nat) (f1 : RSl (rInt .u8) 5 w M ao1 cap1 a0.rest.left) (hBgp0 : Box w gp0 (cS_cursor_Reader a0 ao1 cap1)) (hg_gp0 : gp0 ∈ M) (a1 : Int) (r : List Int × S_cursor_Reader) (H : cursor_Reader_Take.f a0 a1 = some r) :
    To Tryz.prog 56 [.pointer (some ⟨gp0, 0, none⟩), .int .i64 a1] w fun v w' => ∃ (ao9 : Option Addr) (cap9 : Nat) (ao10 : Option Addr) (cap10 : Nat), v = .slice ao9 r.1.length cap9 ∧ (Own (rInt .u8) 5 w' (blkL ao9 ++ (M)) ao9 cap9 r.1) ∧ (RSl (rInt .u8) 5 w' (blkL ao9 ++ (M)) ao10 cap10 r.2.rest.left) ∧ (Box w' gp0 (cS_cursor_Reader r.2 ao10 cap10)) ∧ (∀ x ∈ blkL ao9, w.heap.size ≤ x) ∧ Chg [gp0] w w' ∧ MS (blkL ao9 ++ (M)) w' := by
 unfold cursor_Reader_Take.f at H
 refine ent Tryz.func56 rfl [(0, .pointer (some ⟨gp0, 0, none⟩)), (1, .int .i64 a1)] rfl (by rfl) fun a ha => ?_
 have hC : Chg [gp0] w w := Chg.refl _ _
 refine wp_seq_k fun K2 hK2 => ?_
 refine wp_region_lit ?_
 refine seg ha 1 [(0, .pointer (some ⟨gp0, 0, none⟩)), (1, .int .i64 a1)] (by kernel_rfl) fun a ha => ?_
 refine hK2 _ _ ?_; try clear hK2 K2
 refine wp_seq_k fun K3 hK3 => ?_
 refine wp_region_lit ?_
 refine seg ha 4 [(7, .pointer (some ⟨gp0, 0, none⟩)), (8, .int .i64 a1)] (by kernel_rfl) fun a ha => ?_
 obtain ⟨t4, H4, H⟩ := bind_some H
 refine cl ha (by rfl) (by kernel_rfl) (by rfl) (by rfl) (by rfl) (cursor_rest_next.walk w _ hM gp0 a0.rest ao1 cap1 f1 hBgp0 (hg_gp0) a1 _ H4) ?_
 rintro _ w4 ⟨ao5, cap5, ao6, cap6, rfl, f5, f6, qhBgp0, hc4, hMn⟩ a ha
 have o1 : Ok [gp0] (M) w.heap.size := Ok.one (.inl (hg_gp0))
 have o2 : Ok (M) (M) w.heap.size := (Ok.refl _ _)
 have f1 := f1.chg hc4 o1 o2
 have hM : MS (M) w4 := (hM.chg hc4)
 have hC := hC.trans hc4 (Ok.one (.inl (by simp)))
 have hBgp0 := qhBgp0
 obtain ⟨t7, H7, H⟩ := bind_some H
 refine cl ha (by rfl) (by kernel_rfl) (by rfl) (by rfl) (by rfl) (bytes_Clone.walk w4 _ hM t4.1 ao5 cap5 f5 _ H7) ?_
 rintro _ w7 ⟨ao8, cap8, rfl, f8, ne_i8, hc7, hMn⟩ a ha
 have o1 : Ok [] (M) w4.heap.size := Ok.nil _ _
 have o2 : Ok (blkL ao8 ++ (M)) (M) w4.heap.size := (Ok.app (fun x h => .inr (ne_i8 x h)) (Ok.refl _ _))
 have f5 := f5.chg hc7 o1 o2
 have f6 := f6.chg hc7 o1 o2
 have hBgp0 := hBgp0.chg hc7 (fun h => nomatch h)
 have p_i8_M : ∀ x ∈ blkL ao8, x ∉ M := fun x hx hy => absurd (hM x (hy)) (Nat.not_lt.2 (ne_i8 x hx))
 have e_i8 : ∀ x ∈ blkL ao8, w.heap.size ≤ x := fun x hx => Nat.le_trans hC.size (ne_i8 x hx)
 have hM : MS (blkL ao8 ++ (M)) w7 := (MS.app (fun x h => hMn x (ml h)) (hM.chg hc7))
 have hC := hC.trans hc7 (Ok.nil _ _)
 refine seg ha 1 [(4, .slice ao8 t7.length cap8)] (by kernel_rfl) fun a ha => ?_
 refine hK3 _ _ ?_; try clear hK3 K3
 refine wp_ret ?_
 try simp only [Exit.then, Exit.inBlock]
 obtain rfl := Option.some.inj H
 refine rt1 ha rfl rfl ?_
 exact ⟨ao8, cap8, ao6, cap6, rfl, f8, f6, hBgp0, e_i8, hC, hM⟩
def community_Importer.f (k : Nat) (a0 : List Int) : Option (S_api_Addr × Int × Bool) := (community_Kind.f a0).bind fun t13 => (if (t13 != (2 : Int)) = true then some (((⟨(0 : Int), (List.replicate 16 (0 : Int))⟩ : S_api_Addr) : S_api_Addr), ((0 : Int) : Int), (false : Bool)) else (community_rest.f a0).bind fun t19 => (cursor_Reader_Take.f t19 (4 : Int)).bind fun t24 => (addr_Of.f t24.1).bind fun t27 => (cursor_Reader_Num.f k t24.2 (2 : Int)).bind fun t38 => some ((t27.1 : S_api_Addr), (t38.1 : Int), (true : Bool)))
set_option maxRecDepth 100000 in
theorem community_Importer.walk (w : World) (M : List Nat) (hM : MS M w) (a0 : List Int) (k : Nat) (r : S_api_Addr × Int × Bool) (H : community_Importer.f k a0 = some r) :
    To Tryz.prog 27 [.agg (cA .u8 8 a0).toArray] w fun v w' => v = .tuple #[.agg (cS_api_Addr r.1).toArray, .int .i64 r.2.1, .bool r.2.2] ∧ Chg [] w w' ∧ MS (M) w' := by
 unfold community_Importer.f at H
 refine ent Tryz.func27 rfl [(0, .agg (cA .u8 8 a0).toArray)] rfl (by rfl) fun a ha => ?_
 have hC : Chg [] w w := Chg.refl _ _
 refine wp_seq_k fun K1 hK1 => ?_
 refine wp_region_lit ?_
 refine bx (cs := (cA .u8 8 a0)) ha rfl rfl rfl rfl rfl fun a w2 g3 hN4 ha => ?_
 have hn6 := hN4.notin hM
 have hM : MS (M) w2 := (hM.chg hN4.chg)
 have hC := hC.trans hN4.chg (Ok.nil _ _)
 have hE5 : ∀ j v, (cA .u8 8 a0)[j]? = some v → w2.cell? ⟨g3, 0 + j, none⟩ = some v := Box.cells (New.box hN4)
 refine al (cs := (cS_api_Addr (⟨(0 : Int), (List.replicate 16 (0 : Int))⟩ : S_api_Addr))) (z := .agg (cS_api_Addr (⟨(0 : Int), (List.replicate 16 (0 : Int))⟩ : S_api_Addr)).toArray) ha (fun w => by kernel_rfl) rfl rfl rfl rfl fun a w7 g8 hN9 ha => ?_
 have o1 : Ok [] (M) w2.heap.size := Ok.nil _ _
 have o2 : Ok ([g8] ++ (M)) (M) w2.heap.size := (Ok.app (hN9.ok _) (Ok.refl _ _))
 have q_hn6 : g3 ∉ [g8] ++ (M) := fun h => (o2 g3 h).elim hn6 (fun h => absurd (lt_cell (hE5 0 _ rfl)) (Nat.not_lt.2 h))
 have hE5 : ∀ j v, (cA .u8 8 a0)[j]? = some v → w7.cell? ⟨g3, 0 + j, none⟩ = some v := fun j v hv => (cell_keep hN9.chg o1 hn6 (hE5 j v hv))
 have hn6 := q_hn6
 have p_i10_M : ∀ x ∈ [g8], x ∉ M := fun x hx hy => absurd (hM x (hy)) (Nat.not_lt.2 ((hN9.ge1) x hx))
 have e_i10 : ∀ x ∈ [g8], w.heap.size ≤ x := fun x hx => Nat.le_trans hC.size ((hN9.ge1) x hx)
 have hM : MS ([g8] ++ (M)) w7 := (MS.app hN9.ms (hM.chg hN9.chg))
 have hC := hC.trans hN9.chg (Ok.nil _ _)
 have hBg8 : Box w7 g8 (cS_api_Addr (⟨(0 : Int), (List.replicate 16 (0 : Int))⟩ : S_api_Addr)) := hN9.box
 refine seg ha 2 [(1, .pointer (some ⟨g3, 0, none⟩)), (2, .pointer (some ⟨g8, 0, none⟩))] (by kernel_rfl) fun a ha => ?_
 refine hK1 _ _ ?_; try clear hK1 K1
 refine wp_seq_k fun K11 hK11 => ?_
 refine wp_seq_k fun K12 hK12 => ?_
 refine wp_region_lit ?_
 refine ldA (cs := (cA .u8 8 a0)) ha rfl (by kernel_rfl) rfl rfl rfl (cells_sub hE5 (all := (cA .u8 8 a0)) [] [] (by kernel_rfl)) fun a ha => ?_
 obtain ⟨t13, H13, H⟩ := bind_some H
 refine cl ha (by rfl) (by kernel_rfl) (by rfl) (by rfl) (by rfl) (community_Kind.walk w7 _ hM a0 _ H13) ?_
 rintro _ w13 ⟨rfl, hc13, hMn⟩ a ha
 have o1 : Ok [] ([g8] ++ (M)) w7.heap.size := Ok.nil _ _
 have o2 : Ok ([g8] ++ (M)) ([g8] ++ (M)) w7.heap.size := (Ok.refl _ _)
 have hBg8 := hBg8.chg hc13 (fun h => nomatch h)
 have q_hn6 : g3 ∉ [g8] ++ (M) := fun h => (o2 g3 h).elim hn6 (fun h => absurd (lt_cell (hE5 0 _ rfl)) (Nat.not_lt.2 h))
 have hE5 : ∀ j v, (cA .u8 8 a0)[j]? = some v → w13.cell? ⟨g3, 0 + j, none⟩ = some v := fun j v hv => (cell_keep hc13 o1 hn6 (hE5 j v hv))
 have hn6 := q_hn6
 have hM : MS ([g8] ++ (M)) w13 := (hM.chg hc13)
 have hC := hC.trans hc13 (Ok.nil _ _)
 refine seg ha 1 [(1, .pointer (some ⟨g3, 0, none⟩)), (2, .pointer (some ⟨g8, 0, none⟩)), (10, .bool (t13 != (2 : Int)))] (by kernel_rfl) fun a ha => ?_
 refine hK12 _ _ ?_; try clear hK12 K12
 refine cnd ha rfl (fun hc14 => ?_) (fun hc14 => ?_)
 ·have H := ite_t hc14 H
  refine wp_seq_k fun K15 hK15 => ?_
  refine wp_region_lit ?_
  refine opk (v := .agg (cS_api_Addr (⟨(0 : Int), (List.replicate 16 (0 : Int))⟩ : S_api_Addr)).toArray) ha rfl rfl rfl rfl rfl (fun w => by kernel_rfl) fun a ha => ?_
  refine stA (l := (cS_api_Addr (⟨(0 : Int), (List.replicate 16 (0 : Int))⟩ : S_api_Addr))) ha rfl rfl rfl (by kernel_rfl) rfl rfl hBg8 rfl fun a w16 ha hb2 hc17 _ => ?_
  have hM : MS ([g8] ++ (M)) w16 := (hM.chg hc17)
  have hC := hC.trans hc17 (fun x h => .inr (e_i10 x h))
  have hBg8 : Box w16 g8 (cS_api_Addr (⟨(0 : Int), (List.replicate 16 (0 : Int))⟩ : S_api_Addr)) := hb2
  refine seg ha 2 [(2, .pointer (some ⟨g8, 0, none⟩)), (3, .int .i64 (0 : Int)), (4, .bool false)] (by kernel_rfl) fun a ha => ?_
  refine hK15 _ _ ?_; try clear hK15 K15
  refine wp_ret ?_
  try simp only [Exit.then, Exit.inBlock]
  have hM : MS (M) w16 := (fun x h => hM.chg (Chg.refl [] _) x (mr (h)))
  obtain rfl := Option.some.inj H
  refine rtr ha (res3 rfl (roA ha rfl hBg8 (by kernel_rfl)) (roT ha rfl) (roT ha rfl)) ?_
  exact ⟨rfl, hC, hM⟩
 ·have H := ite_f hc14 H
  refine wp_skip ?_
  refine hK11 _ _ ?_; try clear hK11 K11
  refine wp_seq_k fun K18 hK18 => ?_
  refine wp_region_lit ?_
  refine ldA (cs := (cA .u8 8 a0)) ha rfl (by kernel_rfl) rfl rfl rfl (cells_sub hE5 (all := (cA .u8 8 a0)) [] [] (by kernel_rfl)) fun a ha => ?_
  obtain ⟨t19, H19, H⟩ := bind_some H
  refine cl ha (by rfl) (by kernel_rfl) (by rfl) (by rfl) (by rfl) (community_rest.walk w13 _ hM a0 _ H19) ?_
  rintro _ w19 ⟨g20, ao22, cap22, rfl, f22, hBg20, ne_i21, hc19, hMn⟩ a ha
  have hBg8 := hBg8.chg hc19 (fun h => nomatch h)
  have p_i21_i10 : ∀ x ∈ [g20], x ∉ ([g8]) := fun x hx hy => absurd (hM x (ml hy)) (Nat.not_lt.2 (ne_i21 x hx))
  have p_i21_M : ∀ x ∈ [g20], x ∉ M := fun x hx hy => absurd (hM x (mr (hy))) (Nat.not_lt.2 (ne_i21 x hx))
  have e_i21 : ∀ x ∈ [g20], w.heap.size ≤ x := fun x hx => Nat.le_trans hC.size (ne_i21 x hx)
  have hM : MS ([g20] ++ ([g8] ++ (M))) w19 := (MS.app (fun x h => hMn x (ml h)) (hM.chg hc19))
  have hC := hC.trans hc19 (Ok.nil _ _)
  refine seg ha 1 [(2, .pointer (some ⟨g8, 0, none⟩)), (5, .pointer (some ⟨g20, 0, none⟩))] (by kernel_rfl) fun a ha => ?_
  refine hK18 _ _ ?_; try clear hK18 K18
  refine wp_seq_k fun K23 hK23 => ?_
  refine wp_region_lit ?_
  refine seg ha 1 [(2, .pointer (some ⟨g8, 0, none⟩)), (5, .pointer (some ⟨g20, 0, none⟩)), (15, .pointer (some ⟨g20, 0, none⟩))] (by kernel_rfl) fun a ha => ?_
  obtain ⟨t24, H24, H⟩ := bind_some H
  refine cl ha (by rfl) (by kernel_rfl) (by rfl) (by rfl) (by rfl) (cursor_Reader_Take.walk w19 _ hM g20 t19 ao22 cap22 f22 hBg20 (ml (List.mem_singleton.2 rfl)) (4 : Int) _ H24) ?_
  rintro _ w24 ⟨ao25, cap25, ao26, cap26, rfl, f25, f26, qhBg20, ne_i25, hc24, hMn⟩ a ha
  have o1 : Ok [g20] ([g20] ++ ([g8] ++ (M))) w19.heap.size := (fun _ h => .inl (ml h))
  have o2 : Ok (blkL ao25 ++ ([g20] ++ ([g8] ++ (M)))) ([g20] ++ ([g8] ++ (M))) w19.heap.size := (Ok.app (fun x h => .inr (ne_i25 x h)) (Ok.refl _ _))
  have f22 := f22.chg hc24 o1 o2
  have hBg8 := hBg8.chg hc24 ((fun x (hx : x ∈ [g8]) (hy : x ∈ [g20]) => p_i21_i10 x hy hx) g8 (by simp))
  have p_i25_i21 : ∀ x ∈ blkL ao25, x ∉ ([g20]) := fun x hx hy => absurd (hM x (ml hy)) (Nat.not_lt.2 (ne_i25 x hx))
  have p_i25_i10 : ∀ x ∈ blkL ao25, x ∉ ([g8]) := fun x hx hy => absurd (hM x (mr (ml hy))) (Nat.not_lt.2 (ne_i25 x hx))
  have p_i25_M : ∀ x ∈ blkL ao25, x ∉ M := fun x hx hy => absurd (hM x (mr (mr (hy)))) (Nat.not_lt.2 (ne_i25 x hx))
  have e_i25 : ∀ x ∈ blkL ao25, w.heap.size ≤ x := fun x hx => Nat.le_trans hC.size (ne_i25 x hx)
  have hM : MS (blkL ao25 ++ ([g20] ++ ([g8] ++ (M)))) w24 := (MS.app (fun x h => hMn x (ml h)) (hM.chg hc24))
  have hC := hC.trans hc24 (fun x h => .inr (e_i21 x h))
  have hBg20 := qhBg20
  have hML : MS ([g20] ++ ([g8] ++ (M))) w24 := MS.rest hM (fun _ h => (List.mem_append.1 h).elim (fun h => mr (ml h)) (fun h => (List.mem_append.1 h).elim (fun h => mr (mr (ml h))) (fun h => mr (mr (mr (h))))))
  have oL : Ok ([g20] ++ ([g8] ++ (M))) (blkL ao25 ++ ([g20] ++ ([g8] ++ (M)))) w24.heap.size := (fun _ h => .inl (mr (h)))
  obtain ⟨t27, H27, H⟩ := bind_some H
  refine cl ha (by rfl) (by kernel_rfl) (by rfl) (by rfl) (by rfl) (addr_Of.walk w24 _ hML t24.1 ao25 cap25 (Own.toRSl (M' := [g20] ++ ([g8] ++ (M))) f25 oL (fun x hx hm => (List.mem_append.1 hm).elim (fun h => p_i25_i21 x hx h) (fun h => (List.mem_append.1 h).elim (fun h => p_i25_i10 x hx h) (fun h => p_i25_M x hx h)))) _ H27) ?_
  rintro _ w27 ⟨rfl, hc27, hMn⟩ a ha
  have o1 : Ok [] (blkL ao25 ++ ([g20] ++ ([g8] ++ (M)))) w24.heap.size := Ok.nil _ _
  have o2 : Ok (blkL ao25 ++ ([g20] ++ ([g8] ++ (M)))) (blkL ao25 ++ ([g20] ++ ([g8] ++ (M)))) w24.heap.size := (Ok.refl _ _)
  have f25 := f25.chg hc27 o1 o2 (fun _ _ h => nomatch h) (fun _ h => ml h)
  have f26 := f26.chg hc27 o1 o2
  have hBg8 := hBg8.chg hc27 (fun h => nomatch h)
  have hBg20 := hBg20.chg hc27 (fun h => nomatch h)
  have hM : MS (blkL ao25 ++ ([g20] ++ ([g8] ++ (M)))) w27 := (hM.chg hc27)
  have hC := hC.trans hc27 (Ok.nil _ _)
  refine seg ha 3 [(2, .pointer (some ⟨g8, 0, none⟩)), (5, .pointer (some ⟨g20, 0, none⟩)), (18, .agg (cS_api_Addr t27.1).toArray), (19, .int .i64 t27.2)] (by kernel_rfl) fun a ha => ?_
  refine al (cs := (cS_api_Addr (⟨(0 : Int), (List.replicate 16 (0 : Int))⟩ : S_api_Addr))) (z := .agg (cS_api_Addr (⟨(0 : Int), (List.replicate 16 (0 : Int))⟩ : S_api_Addr)).toArray) ha (fun w => by kernel_rfl) rfl rfl rfl rfl fun a w28 g29 hN30 ha => ?_
  have o1 : Ok [] (blkL ao25 ++ ([g20] ++ ([g8] ++ (M)))) w27.heap.size := Ok.nil _ _
  have o2 : Ok ([g29] ++ (blkL ao25 ++ ([g20] ++ ([g8] ++ (M))))) (blkL ao25 ++ ([g20] ++ ([g8] ++ (M)))) w27.heap.size := (Ok.app (hN30.ok _) (Ok.refl _ _))
  have f26 := f26.chg hN30.chg o1 o2
  have hBg8 := hBg8.chg hN30.chg (fun h => nomatch h)
  have hBg20 := hBg20.chg hN30.chg (fun h => nomatch h)
  have p_i31_i25 : ∀ x ∈ [g29], x ∉ (blkL ao25) := fun x hx hy => absurd (hM x (ml hy)) (Nat.not_lt.2 ((hN30.ge1) x hx))
  have p_i31_i21 : ∀ x ∈ [g29], x ∉ ([g20]) := fun x hx hy => absurd (hM x (mr (ml hy))) (Nat.not_lt.2 ((hN30.ge1) x hx))
  have p_i31_i10 : ∀ x ∈ [g29], x ∉ ([g8]) := fun x hx hy => absurd (hM x (mr (mr (ml hy)))) (Nat.not_lt.2 ((hN30.ge1) x hx))
  have p_i31_M : ∀ x ∈ [g29], x ∉ M := fun x hx hy => absurd (hM x (mr (mr (mr (hy))))) (Nat.not_lt.2 ((hN30.ge1) x hx))
  have e_i31 : ∀ x ∈ [g29], w.heap.size ≤ x := fun x hx => Nat.le_trans hC.size ((hN30.ge1) x hx)
  have hM : MS ([g29] ++ (blkL ao25 ++ ([g20] ++ ([g8] ++ (M))))) w28 := (MS.app hN30.ms (hM.chg hN30.chg))
  have hC := hC.trans hN30.chg (Ok.nil _ _)
  have hBg29 : Box w28 g29 (cS_api_Addr (⟨(0 : Int), (List.replicate 16 (0 : Int))⟩ : S_api_Addr)) := hN30.box
  refine stA (l := (cS_api_Addr t27.1)) ha rfl rfl rfl (by kernel_rfl) rfl rfl hBg29 rfl fun a w32 ha hb2 hc33 _ => ?_
  have o1 : Ok [g29] ([g29] ++ (blkL ao25 ++ ([g20] ++ ([g8] ++ (M))))) w28.heap.size := (fun _ h => .inl (ml h))
  have o2 : Ok ([g29] ++ (blkL ao25 ++ ([g20] ++ ([g8] ++ (M))))) ([g29] ++ (blkL ao25 ++ ([g20] ++ ([g8] ++ (M))))) w28.heap.size := (Ok.refl _ _)
  have f26 := f26.chg hc33 o1 o2
  have hBg8 := hBg8.chg hc33 ((fun x (hx : x ∈ [g8]) (hy : x ∈ [g29]) => p_i31_i10 x hy hx) g8 (by simp))
  have hBg20 := hBg20.chg hc33 ((fun x (hx : x ∈ [g20]) (hy : x ∈ [g29]) => p_i31_i21 x hy hx) g20 (by simp))
  have hM : MS ([g29] ++ (blkL ao25 ++ ([g20] ++ ([g8] ++ (M))))) w32 := (hM.chg hc33)
  have hC := hC.trans hc33 (fun x h => .inr (e_i31 x h))
  have hBg29 : Box w32 g29 (cS_api_Addr t27.1) := hb2
  refine seg ha 1 [(2, .pointer (some ⟨g8, 0, none⟩)), (5, .pointer (some ⟨g20, 0, none⟩)), (6, .pointer (some ⟨g29, 0, none⟩))] (by kernel_rfl) fun a ha => ?_
  refine hK23 _ _ ?_; try clear hK23 K23
  refine wp_seq_k fun K34 hK34 => ?_
  have okS : Ok ([g20] ++ [g8]) ([g29] ++ (blkL ao25 ++ ([g20] ++ ([g8] ++ (M))))) w32.heap.size := (Ok.app (fun _ h => .inl (mr (mr (ml h)))) (fun _ h => .inl (mr (mr (mr (ml h))))))
  have z_f26 := f26
  have z_hBg29 := hBg29
  refine drw (fun w' => Chg ([g20] ++ [g8]) w32 w') (by kernel_rfl) fun w35 hc36 _ => ?_
  have hS : Chg ([g20] ++ [g8]) w32 w35 := (Chg.refl ([g20] ++ [g8]) _).trans hc36 (Ok.nil _ _)
  have o1 : Ok [] ([g29] ++ (blkL ao25 ++ ([g20] ++ ([g8] ++ (M))))) w32.heap.size := Ok.nil _ _
  have o2 : Ok ([g29] ++ (blkL ao25 ++ ([g20] ++ ([g8] ++ (M))))) ([g29] ++ (blkL ao25 ++ ([g20] ++ ([g8] ++ (M))))) w32.heap.size := (Ok.refl _ _)
  have f26 := f26.chg hc36 o1 o2
  have hBg8 := hBg8.chg hc36 (fun h => nomatch h)
  have hBg20 := hBg20.chg hc36 (fun h => nomatch h)
  have hBg29 := hBg29.chg hc36 (fun h => nomatch h)
  have hM : MS ([g29] ++ (blkL ao25 ++ ([g20] ++ ([g8] ++ (M))))) w35 := (hM.chg hc36)
  have hC := hC.trans hc36 (Ok.nil _ _)
  refine tkz 0 ha (v := .agg (cS_api_Addr t27.1).toArray) (y := fun w' hs => ldA_run (cs := (cS_api_Addr t27.1)) ha rfl (by kernel_rfl) (cells_sub (Box.cells (Box.chg z_hBg29 hs ((fun x (hx : x ∈ [g29]) (hy : x ∈ [g20] ++ [g8]) => (List.mem_append.1 hy).elim (fun hy => p_i31_i21 x hx hy) (fun hy => p_i31_i10 x hx hy)) g29 (by simp)))) (all := (cS_api_Addr t27.1)) [] [] (by kernel_rfl))) (s := hS) (q := fun a ha => ?_)
  refine tkpz 1 0 (.pointer (some ⟨g20, 0, none⟩)) ha (s := hS) (q := fun a ha => ?_)
  refine ac 2 (by kernel_rfl) (by rfl) fun K37 hK37 => ?_
  obtain ⟨t38, H38, H⟩ := bind_some H
  refine cl ha (by rfl) (by kernel_rfl) (by rfl) (by rfl) (by rfl) (cursor_Reader_Num.walk w35 _ hM g20 t24.2 ao26 cap26 f26 hBg20 (mr (mr (ml (List.mem_singleton.2 rfl)))) (2 : Int) k _ H38) ?_
  rintro _ w38 ⟨ao39, cap39, rfl, f39, qhBg20, hc38, hMn⟩ a ha
  have o1 : Ok [g20] ([g29] ++ (blkL ao25 ++ ([g20] ++ ([g8] ++ (M))))) w35.heap.size := (fun _ h => .inl (mr (mr (ml h))))
  have o2 : Ok ([g29] ++ (blkL ao25 ++ ([g20] ++ ([g8] ++ (M))))) ([g29] ++ (blkL ao25 ++ ([g20] ++ ([g8] ++ (M))))) w35.heap.size := (Ok.refl _ _)
  have f26 := f26.chg hc38 o1 o2
  have hBg8 := hBg8.chg hc38 ((fun x (hx : x ∈ [g8]) (hy : x ∈ [g20]) => p_i21_i10 x hy hx) g8 (by simp))
  have hBg29 := hBg29.chg hc38 (p_i31_i21 g29 (by simp))
  have hM : MS ([g29] ++ (blkL ao25 ++ ([g20] ++ ([g8] ++ (M))))) w38 := (hM.chg hc38)
  have hC := hC.trans hc38 (fun x h => .inr (e_i21 x h))
  have hS := hS.trans hc38 (fun x h => .inl ((List.mem_append_left _ h)))
  have hBg20 := qhBg20
  refine ae hK37 hS ?_; clear hK37 K37
  refine ac 3 (by kernel_rfl) (by rfl) fun K40 hK40 => ?_
  refine stA (l := (cS_api_Addr t27.1)) ha rfl rfl rfl (by kernel_rfl) rfl rfl hBg8 rfl fun a w41 ha hb2 hc42 _ => ?_
  have o1 : Ok [g8] ([g29] ++ (blkL ao25 ++ ([g20] ++ ([g8] ++ (M))))) w38.heap.size := (fun _ h => .inl (mr (mr (mr (ml h)))))
  have o2 : Ok ([g29] ++ (blkL ao25 ++ ([g20] ++ ([g8] ++ (M))))) ([g29] ++ (blkL ao25 ++ ([g20] ++ ([g8] ++ (M))))) w38.heap.size := (Ok.refl _ _)
  have f39 := f39.chg hc42 o1 o2
  have hBg20 := hBg20.chg hc42 (p_i21_i10 g20 (by simp))
  have hBg29 := hBg29.chg hc42 (p_i31_i10 g29 (by simp))
  have hM : MS ([g29] ++ (blkL ao25 ++ ([g20] ++ ([g8] ++ (M))))) w41 := (hM.chg hc42)
  have hC := hC.trans hc42 (fun x h => .inr (e_i10 x h))
  have hS := hS.trans hc42 (fun x h => .inl ((List.mem_append_right _ h)))
  have hBg8 : Box w41 g8 (cS_api_Addr t27.1) := hb2
  refine ae hK40 hS ?_; clear hK40 K40
  refine tkpz 4 0 (.int .i64 t38.1) ha (s := hS) (q := fun a ha => ?_)
  refine tkpz 5 0 (.bool true) ha (s := hS) (q := fun a ha => ?_)
  refine dn (by kernel_rfl) ?_
  refine hK34 _ _ ?_; try clear hK34 K34
  refine wp_ret ?_
  try simp only [Exit.then, Exit.inBlock]
  have o1 : Ok [] ([g29] ++ (blkL ao25 ++ ([g20] ++ ([g8] ++ (M))))) w41.heap.size := Ok.nil _ _
  have o2 : Ok (M) ([g29] ++ (blkL ao25 ++ ([g20] ++ ([g8] ++ (M))))) w41.heap.size := (fun _ h => .inl (mr (mr (mr (mr (h))))))
  have f39 := f39.chg (Chg.refl [] _) o1 o2
  have hM : MS (M) w41 := (fun x h => hM.chg (Chg.refl [] _) x (mr (mr (mr (mr (h))))))
  obtain rfl := Option.some.inj H
  refine rtr ha (res3 rfl (roA ha rfl hBg8 (by kernel_rfl)) (roT ha rfl) (roT ha rfl)) ?_
  exact ⟨rfl, hC, hM⟩
def community_AS.f (k : Nat) (a0 : List Int) : Option (Int × Bool) := (community_Kind.f a0).bind fun t9 => (if (t9 != (3 : Int)) = true then some (((0 : Int) : Int), (false : Bool)) else (community_rest.f a0).bind fun t13 => (cursor_Reader_Num.f k t13 (4 : Int)).bind fun t17 => some ((t17.1 : Int), (true : Bool)))
set_option maxRecDepth 100000 in
theorem community_AS.walk (w : World) (M : List Nat) (hM : MS M w) (a0 : List Int) (k : Nat) (r : Int × Bool) (H : community_AS.f k a0 = some r) :
    To Tryz.prog 29 [.agg (cA .u8 8 a0).toArray] w fun v w' => v = .tuple #[.int .i64 r.1, .bool r.2] ∧ Chg [] w w' ∧ MS (M) w' := by
 unfold community_AS.f at H
 refine ent Tryz.func29 rfl [(0, .agg (cA .u8 8 a0).toArray)] rfl (by rfl) fun a ha => ?_
 have hC : Chg [] w w := Chg.refl _ _
 refine wp_seq_k fun K1 hK1 => ?_
 refine wp_region_lit ?_
 refine bx (cs := (cA .u8 8 a0)) ha rfl rfl rfl rfl rfl fun a w2 g3 hN4 ha => ?_
 have hn6 := hN4.notin hM
 have hM : MS (M) w2 := (hM.chg hN4.chg)
 have hC := hC.trans hN4.chg (Ok.nil _ _)
 have hE5 : ∀ j v, (cA .u8 8 a0)[j]? = some v → w2.cell? ⟨g3, 0 + j, none⟩ = some v := Box.cells (New.box hN4)
 refine seg ha 2 [(1, .pointer (some ⟨g3, 0, none⟩))] (by kernel_rfl) fun a ha => ?_
 refine hK1 _ _ ?_; try clear hK1 K1
 refine wp_seq_k fun K7 hK7 => ?_
 refine wp_seq_k fun K8 hK8 => ?_
 refine wp_region_lit ?_
 refine ldA (cs := (cA .u8 8 a0)) ha rfl (by kernel_rfl) rfl rfl rfl (cells_sub hE5 (all := (cA .u8 8 a0)) [] [] (by kernel_rfl)) fun a ha => ?_
 obtain ⟨t9, H9, H⟩ := bind_some H
 refine cl ha (by rfl) (by kernel_rfl) (by rfl) (by rfl) (by rfl) (community_Kind.walk w2 _ hM a0 _ H9) ?_
 rintro _ w9 ⟨rfl, hc9, hMn⟩ a ha
 have o1 : Ok [] (M) w2.heap.size := Ok.nil _ _
 have o2 : Ok (M) (M) w2.heap.size := (Ok.refl _ _)
 have q_hn6 : g3 ∉ M := fun h => (o2 g3 h).elim hn6 (fun h => absurd (lt_cell (hE5 0 _ rfl)) (Nat.not_lt.2 h))
 have hE5 : ∀ j v, (cA .u8 8 a0)[j]? = some v → w9.cell? ⟨g3, 0 + j, none⟩ = some v := fun j v hv => (cell_keep hc9 o1 hn6 (hE5 j v hv))
 have hn6 := q_hn6
 have hM : MS (M) w9 := (hM.chg hc9)
 have hC := hC.trans hc9 (Ok.nil _ _)
 refine seg ha 1 [(1, .pointer (some ⟨g3, 0, none⟩)), (6, .bool (t9 != (3 : Int)))] (by kernel_rfl) fun a ha => ?_
 refine hK8 _ _ ?_; try clear hK8 K8
 refine cnd ha rfl (fun hc10 => ?_) (fun hc10 => ?_)
 ·have H := ite_t hc10 H
  refine wp_seq_k fun K11 hK11 => ?_
  refine wp_region_lit ?_
  refine seg ha 2 [(2, .int .i64 (0 : Int)), (3, .bool false)] (by kernel_rfl) fun a ha => ?_
  refine hK11 _ _ ?_; try clear hK11 K11
  refine wp_ret ?_
  try simp only [Exit.then, Exit.inBlock]
  obtain rfl := Option.some.inj H
  refine rt2 ha rfl rfl rfl ?_
  exact ⟨rfl, hC, hM⟩
 ·have H := ite_f hc10 H
  refine wp_skip ?_
  refine hK7 _ _ ?_; try clear hK7 K7
  refine wp_seq_k fun K12 hK12 => ?_
  refine wp_region_lit ?_
  refine ldA (cs := (cA .u8 8 a0)) ha rfl (by kernel_rfl) rfl rfl rfl (cells_sub hE5 (all := (cA .u8 8 a0)) [] [] (by kernel_rfl)) fun a ha => ?_
  obtain ⟨t13, H13, H⟩ := bind_some H
  refine cl ha (by rfl) (by kernel_rfl) (by rfl) (by rfl) (by rfl) (community_rest.walk w9 _ hM a0 _ H13) ?_
  rintro _ w13 ⟨g14, ao16, cap16, rfl, f16, hBg14, ne_i15, hc13, hMn⟩ a ha
  have p_i15_M : ∀ x ∈ [g14], x ∉ M := fun x hx hy => absurd (hM x (hy)) (Nat.not_lt.2 (ne_i15 x hx))
  have e_i15 : ∀ x ∈ [g14], w.heap.size ≤ x := fun x hx => Nat.le_trans hC.size (ne_i15 x hx)
  have hM : MS ([g14] ++ (M)) w13 := (MS.app (fun x h => hMn x (ml h)) (hM.chg hc13))
  have hC := hC.trans hc13 (Ok.nil _ _)
  obtain ⟨t17, H17, H⟩ := bind_some H
  refine cl ha (by rfl) (by kernel_rfl) (by rfl) (by rfl) (by rfl) (cursor_Reader_Num.walk w13 _ hM g14 t13 ao16 cap16 f16 hBg14 (ml (List.mem_singleton.2 rfl)) (4 : Int) k _ H17) ?_
  rintro _ w17 ⟨ao18, cap18, rfl, f18, qhBg14, hc17, hMn⟩ a ha
  have o1 : Ok [g14] ([g14] ++ (M)) w13.heap.size := (fun _ h => .inl (ml h))
  have o2 : Ok ([g14] ++ (M)) ([g14] ++ (M)) w13.heap.size := (Ok.refl _ _)
  have f16 := f16.chg hc17 o1 o2
  have hM : MS ([g14] ++ (M)) w17 := (hM.chg hc17)
  have hC := hC.trans hc17 (fun x h => .inr (e_i15 x h))
  have hBg14 := qhBg14
  refine seg ha 2 [(2, .int .i64 t17.1), (3, .bool true)] (by kernel_rfl) fun a ha => ?_
  refine hK12 _ _ ?_; try clear hK12 K12
  refine wp_ret ?_
  try simp only [Exit.then, Exit.inBlock]
  have o1 : Ok [] ([g14] ++ (M)) w17.heap.size := Ok.nil _ _
  have o2 : Ok (M) ([g14] ++ (M)) w17.heap.size := (fun _ h => .inl (mr (h)))
  have f18 := f18.chg (Chg.refl [] _) o1 o2
  have hM : MS (M) w17 := (fun x h => hM.chg (Chg.refl [] _) x (mr (h)))
  obtain rfl := Option.some.inj H
  refine rt2 ha rfl rfl rfl ?_
  exact ⟨rfl, hC, hM⟩
def community_Text.l0 (a0 : List Int) : Nat → (List Int) → Int → Option (List Int)
  | 0, _, _ => none
  | kk + 1, x65, x66 => (if (decide (x66 < (8 : Int))) = true then (if 0 ≤ x66 ∧ x66 < (8 : Int) then (if 0 ≤ (Int.fdiv (ar a0 (Int.toNat x66)) (2 ^ (min (4 : Int).toNat IntKind.u8.bits))) ∧ (Int.fdiv (ar a0 (Int.toNat x66)) (2 ^ (min (4 : Int).toNat IntKind.u8.bits))) < (([48, 49, 50, 51, 52, 53, 54, 55, 56, 57, 97, 98, 99, 100, 101, 102] : List UInt8).length : Int) then (if 0 ≤ (IntKind.u8.wrap (BitVec.ofInt IntKind.u8.bits (ar a0 (Int.toNat x66)) &&& BitVec.ofInt IntKind.u8.bits (15 : Int)).toNat) ∧ (IntKind.u8.wrap (BitVec.ofInt IntKind.u8.bits (ar a0 (Int.toNat x66)) &&& BitVec.ofInt IntKind.u8.bits (15 : Int)).toNat) < (([48, 49, 50, 51, 52, 53, 54, 55, 56, 57, 97, 98, 99, 100, 101, 102] : List UInt8).length : Int) then (if (x65.length + ([((([48, 49, 50, 51, 52, 53, 54, 55, 56, 57, 97, 98, 99, 100, 101, 102] : List UInt8).getD (Int.toNat (Int.fdiv (ar a0 (Int.toNat x66)) (2 ^ (min (4 : Int).toNat IntKind.u8.bits)))) 0).toNat : Int), ((([48, 49, 50, 51, 52, 53, 54, 55, 56, 57, 97, 98, 99, 100, 101, 102] : List UInt8).getD (Int.toNat (IntKind.u8.wrap (BitVec.ofInt IntKind.u8.bits (ar a0 (Int.toNat x66)) &&& BitVec.ofInt IntKind.u8.bits (15 : Int)).toNat)) 0).toNat : Int)] : List Int).length) * 1 ≤ 140737488355328 then community_Text.l0 a0 kk (x65 ++ ([((([48, 49, 50, 51, 52, 53, 54, 55, 56, 57, 97, 98, 99, 100, 101, 102] : List UInt8).getD (Int.toNat (Int.fdiv (ar a0 (Int.toNat x66)) (2 ^ (min (4 : Int).toNat IntKind.u8.bits)))) 0).toNat : Int), ((([48, 49, 50, 51, 52, 53, 54, 55, 56, 57, 97, 98, 99, 100, 101, 102] : List UInt8).getD (Int.toNat (IntKind.u8.wrap (BitVec.ofInt IntKind.u8.bits (ar a0 (Int.toNat x66)) &&& BitVec.ofInt IntKind.u8.bits (15 : Int)).toNat)) 0).toNat : Int)] : List Int)) (IntKind.i64.wrap (x66 + (1 : Int))) else none) else none) else none) else none) else some (x65 : List Int))
def community_Text.f (k : Nat) (a0 : List Int) : Option (List UInt8) := (community_Kind.f a0).bind fun t8 => (if (t8 == (1 : Int)) = true then (if 0 ≤ (2 : Int) ∧ (2 : Int) ≤ (8 : Int) ∧ (8 : Int) ≤ (8 : Int) then (rd_Text.f k ((arL 8 ([(0 : Int), ar a0 0, (0 : Int), (0 : Int), (0 : Int), (0 : Int), (0 : Int), (0 : Int)] : List Int)).take 2 ++ arC 6 ((arL 8 ([(0 : Int), ar a0 0, (0 : Int), (0 : Int), (0 : Int), (0 : Int), (0 : Int), (0 : Int)] : List Int)).drop 2) (((arL 8 a0).take (Int.toNat (8 : Int))).drop (Int.toNat (2 : Int))))).bind fun t27 => (if (([114, 116, 58] : List UInt8) ++ t27).length ≤ 9223372036854775807 then some ((([114, 116, 58] : List UInt8) ++ t27 : List UInt8)) else none) else none) else (if (t8 == (2 : Int)) = true then (community_Importer.f k a0).bind fun t32 => (addr_Text.f k t32.1).bind fun t40 => (if (([105, 109, 112, 111, 114, 116, 58] : List UInt8) ++ t40).length ≤ 9223372036854775807 then (if ((([105, 109, 112, 111, 114, 116, 58] : List UInt8) ++ t40) ++ ([58] : List UInt8)).length ≤ 9223372036854775807 then (strconv_Itoa.f t32.2.1).bind fun t43 => (if (((([105, 109, 112, 111, 114, 116, 58] : List UInt8) ++ t40) ++ ([58] : List UInt8)) ++ t43).length ≤ 9223372036854775807 then some ((((([105, 109, 112, 111, 114, 116, 58] : List UInt8) ++ t40) ++ ([58] : List UInt8)) ++ t43 : List UInt8)) else none) else none) else none) else (if (t8 == (3 : Int)) = true then (community_AS.f k a0).bind fun t48 => (strconv_Itoa.f t48.1).bind fun t50 => (if (([115, 111, 117, 114, 99, 101, 58] : List UInt8) ++ t50).length ≤ 9223372036854775807 then some ((([115, 111, 117, 114, 99, 101, 58] : List UInt8) ++ t50 : List UInt8)) else none) else (community_Text.l0 a0 k ([(111 : Int), (116 : Int), (104 : Int), (101 : Int), (114 : Int), (58 : Int)] : List Int) (0 : Int)).bind fun s63 => some ((b2s s63 : List UInt8)))))
set_option maxRecDepth 100000 in
theorem community_Text.walk (w : World) (M : List Nat) (hM : MS M w) (hG : GF w M) (a0 : List Int) (k : Nat) (r : List UInt8) (H : community_Text.f k a0 = some r) :
    To Tryz.prog 35 [.agg (cA .u8 8 a0).toArray] w fun v w' => v = .string (bstr r) ∧ Chg [] w w' ∧ MS (M) w' := by
 unfold community_Text.f at H
 refine ent Tryz.func35 rfl [(0, .agg (cA .u8 8 a0).toArray)] rfl (by rfl) fun a ha => ?_
 have hC : Chg [] w w := Chg.refl _ _
 refine wp_seq_k fun K1 hK1 => ?_
 refine wp_region_lit ?_
 refine bx (cs := (cA .u8 8 a0)) ha rfl rfl rfl rfl rfl fun a w2 g3 hN4 ha => ?_
 have o1 : Ok [] (M) w.heap.size := Ok.nil _ _
 have o2 : Ok ([g3] ++ (M)) (M) w.heap.size := (Ok.app (hN4.ok _) (Ok.refl _ _))
 have hG := hG.chg hN4.chg o1 o2
 have p_i5_M : ∀ x ∈ [g3], x ∉ M := fun x hx hy => absurd (hM x (hy)) (Nat.not_lt.2 ((hN4.ge1) x hx))
 have e_i5 : ∀ x ∈ [g3], w.heap.size ≤ x := fun x hx => Nat.le_trans hC.size ((hN4.ge1) x hx)
 have hM : MS ([g3] ++ (M)) w2 := (MS.app hN4.ms (hM.chg hN4.chg))
 have hC := hC.trans hN4.chg (Ok.nil _ _)
 have hBg3 : Box w2 g3 (cA .u8 8 a0) := hN4.box
 refine seg ha 1 [(1, .pointer (some ⟨g3, 0, none⟩))] (by kernel_rfl) fun a ha => ?_
 refine hK1 _ _ ?_; try clear hK1 K1
 refine wp_seq_k fun K6 hK6 => ?_
 refine wp_seq_k fun K7 hK7 => ?_
 refine wp_region_lit ?_
 refine ldA (cs := (cA .u8 8 a0)) ha rfl (by kernel_rfl) rfl rfl rfl (cells_sub (Box.cells hBg3) (all := (cA .u8 8 a0)) [] [] (by kernel_rfl)) fun a ha => ?_
 obtain ⟨t8, H8, H⟩ := bind_some H
 refine cl ha (by rfl) (by kernel_rfl) (by rfl) (by rfl) (by rfl) (community_Kind.walk w2 _ hM a0 _ H8) ?_
 rintro _ w8 ⟨rfl, hc8, hMn⟩ a ha
 have o1 : Ok [] ([g3] ++ (M)) w2.heap.size := Ok.nil _ _
 have o2 : Ok ([g3] ++ (M)) ([g3] ++ (M)) w2.heap.size := (Ok.refl _ _)
 have hG := hG.chg hc8 o1 o2
 have hBg3 := hBg3.chg hc8 (fun h => nomatch h)
 have hM : MS ([g3] ++ (M)) w8 := (hM.chg hc8)
 have hC := hC.trans hc8 (Ok.nil _ _)
 refine hK7 _ _ ?_; try clear hK7 K7
 refine wp_block ?_
 refine wp_seq_k fun K9 hK9 => ?_
 refine wp_region_lit ?_
 refine seg ha 2 [(1, .pointer (some ⟨g3, 0, none⟩)), (13, .int .i64 t8), (14, .bool (t8 == (1 : Int)))] (by kernel_rfl) fun a ha => ?_
 refine hK9 _ _ ?_; try clear hK9 K9
 refine cnd ha rfl (fun hc10 => ?_) (fun hc10 => ?_)
 ·have H := ite_t hc10 H
  refine wp_seq_k fun K11 hK11 => ?_
  refine wp_region_lit ?_
  have hi12 : 0 < 8 := by decide
  refine hop (v := .pointer (some ⟨g3, 0 + 0, none⟩)) (w' := w8) ha rfl rfl rfl (ixA_run (T := 5) (N := 8) (g := g3) (o' := 0) (k := .i64) (i := (0 : Int)) ha (by kernel_rfl) (by kernel_rfl) (by rfl) (by rfl) (by decide) (by decide) _) fun a ha => ?_
  refine ld (v := .int .u8 (ar a0 0)) ha rfl (by kernel_rfl) rfl rfl rfl (hBg3.cell' (o := 0 + 0) rfl (arr_cell (k := .u8) (m := 8) (x := a0) ([] : List Value) ([] : List Value) (by kernel_rfl) hi12)) fun a ha => ?_
  refine opk (v := .agg (cA .u8 8 ([(0 : Int), ar a0 0, (0 : Int), (0 : Int), (0 : Int), (0 : Int), (0 : Int), (0 : Int)] : List Int)).toArray) ha rfl rfl rfl rfl rfl (fun w => by kernel_rfl) fun a ha => ?_
  refine al (cs := (cA .u8 8 (List.replicate 8 (0 : Int)))) (z := .agg (cA .u8 8 (List.replicate 8 (0 : Int))).toArray) ha (fun w => by kernel_rfl) rfl rfl rfl rfl fun a w13 g14 hN15 ha => ?_
  have o1 : Ok [] ([g3] ++ (M)) w8.heap.size := Ok.nil _ _
  have o2 : Ok ([g14] ++ ([g3] ++ (M))) ([g3] ++ (M)) w8.heap.size := (Ok.app (hN15.ok _) (Ok.refl _ _))
  have hG := hG.chg hN15.chg o1 o2
  have hBg3 := hBg3.chg hN15.chg (fun h => nomatch h)
  have p_i16_i5 : ∀ x ∈ [g14], x ∉ ([g3]) := fun x hx hy => absurd (hM x (ml hy)) (Nat.not_lt.2 ((hN15.ge1) x hx))
  have p_i16_M : ∀ x ∈ [g14], x ∉ M := fun x hx hy => absurd (hM x (mr (hy))) (Nat.not_lt.2 ((hN15.ge1) x hx))
  have e_i16 : ∀ x ∈ [g14], w.heap.size ≤ x := fun x hx => Nat.le_trans hC.size ((hN15.ge1) x hx)
  have hM : MS ([g14] ++ ([g3] ++ (M))) w13 := (MS.app hN15.ms (hM.chg hN15.chg))
  have hC := hC.trans hN15.chg (Ok.nil _ _)
  have hBg14 : Box w13 g14 (cA .u8 8 (List.replicate 8 (0 : Int))) := hN15.box
  refine stA (l := (cA .u8 8 ([(0 : Int), ar a0 0, (0 : Int), (0 : Int), (0 : Int), (0 : Int), (0 : Int), (0 : Int)] : List Int))) ha rfl rfl rfl (by kernel_rfl) rfl rfl hBg14 rfl fun a w17 ha hb2 hc18 _ => ?_
  have o1 : Ok [g14] ([g14] ++ ([g3] ++ (M))) w13.heap.size := (fun _ h => .inl (ml h))
  have o2 : Ok ([g14] ++ ([g3] ++ (M))) ([g14] ++ ([g3] ++ (M))) w13.heap.size := (Ok.refl _ _)
  have hG := hG.chg hc18 o1 o2
  have hBg3 := hBg3.chg hc18 ((fun x (hx : x ∈ [g3]) (hy : x ∈ [g14]) => p_i16_i5 x hy hx) g3 (by simp))
  have hM : MS ([g14] ++ ([g3] ++ (M))) w17 := (hM.chg hc18)
  have hC := hC.trans hc18 (fun x h => .inr (e_i16 x h))
  have hBg14 : Box w17 g14 (cA .u8 8 ([(0 : Int), ar a0 0, (0 : Int), (0 : Int), (0 : Int), (0 : Int), (0 : Int), (0 : Int)] : List Int)) := hb2
  refine hK11 _ _ ?_; try clear hK11 K11
  refine wp_seq_k fun K19 hK19 => ?_
  refine drq 2 (fun w' => Chg [] w17 w') (by kernel_rfl) (by kernel_rfl) (fun _ h => h) ?_
  refine qv (v := .slice (some ⟨g14, 2, none⟩) 6 6) ha rfl rfl rfl (fun w' hs => opk_run ha rfl rfl (fun w => by kernel_rfl)) fun a ha => ?_
  have fw20 : RSl (rInt .u8) 5 w17 (butL g3 w17) (some ⟨g3, 0, none⟩) 8 (arL 8 a0) := RSl.ofA ([] : List Value) ([] : List Value) (Box.cells hBg3) butL_self (by kernel_rfl) rfl
  obtain ⟨⟨hx21, hx21', hx21''⟩, H⟩ := ite_some H
  obtain ⟨ao21, cap21, f21, hr21⟩ := slA_run (kk := .u8) (T := 5) (N := 8) (g := g3) (o' := 0) (xs := (arL 8 a0)) (t := 27) (lo := (Option.some (Operand.const (Value.int IntKind.i64 2)))) (hi := Option.none) (l := (2 : Int)) (h := (8 : Int)) (dd := some 20) (ty := 36) (pos := "text.go:19") (af := #[]) (gd := Option.none) ha (by kernel_rfl) (by kernel_rfl) (x := (Operand.tmp 1)) rfl (arL_length _ _) rfl rfl fw20 hx21 hx21' (by rw [arL_length]; exact hx21'')
  refine qv (v := .slice ao21 (((arL 8 a0).take (Int.toNat (8 : Int))).drop (Int.toNat (2 : Int))).length cap21) ha rfl rfl rfl (fun w' hs => hr21 w') fun a ha => ?_
  refine wpQuiet_nil ?_
  intro w22 hc23
  have o1 : Ok [] ([g14] ++ ([g3] ++ (M))) w17.heap.size := Ok.nil _ _
  have o2 : Ok ([g14] ++ ([g3] ++ (M))) ([g14] ++ ([g3] ++ (M))) w17.heap.size := (Ok.refl _ _)
  have hG := hG.chg hc23 o1 o2
  have f21 := f21.chg (M' := butL g3 w22) hc23 (Ok.nil _ _) butL_chg
  have hBg3 := hBg3.chg hc23 (fun h => nomatch h)
  have hBg14 := hBg14.chg hc23 (fun h => nomatch h)
  have hM : MS ([g14] ++ ([g3] ++ (M))) w22 := (hM.chg hc23)
  have hC := hC.trans hc23 (Ok.nil _ _)
  refine cpyA (T := 5) (k := .u8) (x0 := ((arL 8 ([(0 : Int), ar a0 0, (0 : Int), (0 : Int), (0 : Int), (0 : Int), (0 : Int), (0 : Int)] : List Int)).drop 2)) (N := 6) ([.int .u8 (ar ([(0 : Int), ar a0 0, (0 : Int), (0 : Int), (0 : Int), (0 : Int), (0 : Int), (0 : Int)] : List Int) 0), .int .u8 (ar ([(0 : Int), ar a0 0, (0 : Int), (0 : Int), (0 : Int), (0 : Int), (0 : Int), (0 : Int)] : List Int) 1)] : List Value) ([] : List Value) ha (by kernel_rfl) (by kernel_rfl) rfl rfl rfl rfl rfl hBg14 (by kernel_rfl) f21 fun a w24 hb2 hc25 ha => ?_
  have o1 : Ok [g14] ([g14] ++ ([g3] ++ (M))) w22.heap.size := (fun _ h => .inl (ml h))
  have o2 : Ok ([g14] ++ ([g3] ++ (M))) ([g14] ++ ([g3] ++ (M))) w22.heap.size := (Ok.refl _ _)
  have hG := hG.chg hc25 o1 o2
  have f21 := f21.chg (M' := butL g3 w24) hc25 (butL_ok (fun x hx0 e0 => (fun x (hx : x ∈ [g3]) (hy : x ∈ [g14]) => p_i16_i5 x hy hx) x (by rw [e0]; exact List.mem_singleton.2 rfl) hx0)) butL_chg
  have hBg3 := hBg3.chg hc25 ((fun x (hx : x ∈ [g3]) (hy : x ∈ [g14]) => p_i16_i5 x hy hx) g3 (by simp))
  have hM : MS ([g14] ++ ([g3] ++ (M))) w24 := (hM.chg hc25)
  have hC := hC.trans hc25 (fun x h => .inr (e_i16 x h))
  have hBg14 : Box w24 g14 (cA .u8 8 ((arL 8 ([(0 : Int), ar a0 0, (0 : Int), (0 : Int), (0 : Int), (0 : Int), (0 : Int), (0 : Int)] : List Int)).take 2 ++ arC 6 ((arL 8 ([(0 : Int), ar a0 0, (0 : Int), (0 : Int), (0 : Int), (0 : Int), (0 : Int), (0 : Int)] : List Int)).drop 2) (((arL 8 a0).take (Int.toNat (8 : Int))).drop (Int.toNat (2 : Int))))) := hb2.cast (by kernel_rfl)
  refine hK19 _ _ ?_; try clear hK19 K19
  refine wp_seq_k fun K26 hK26 => ?_
  refine wp_region_lit ?_
  refine ldA (cs := (cA .u8 8 ((arL 8 ([(0 : Int), ar a0 0, (0 : Int), (0 : Int), (0 : Int), (0 : Int), (0 : Int), (0 : Int)] : List Int)).take 2 ++ arC 6 ((arL 8 ([(0 : Int), ar a0 0, (0 : Int), (0 : Int), (0 : Int), (0 : Int), (0 : Int), (0 : Int)] : List Int)).drop 2) (((arL 8 a0).take (Int.toNat (8 : Int))).drop (Int.toNat (2 : Int)))))) ha rfl (by kernel_rfl) rfl rfl rfl (cells_sub (Box.cells hBg14) (all := (cA .u8 8 ((arL 8 ([(0 : Int), ar a0 0, (0 : Int), (0 : Int), (0 : Int), (0 : Int), (0 : Int), (0 : Int)] : List Int)).take 2 ++ arC 6 ((arL 8 ([(0 : Int), ar a0 0, (0 : Int), (0 : Int), (0 : Int), (0 : Int), (0 : Int), (0 : Int)] : List Int)).drop 2) (((arL 8 a0).take (Int.toNat (8 : Int))).drop (Int.toNat (2 : Int)))))) [] [] (by kernel_rfl)) fun a ha => ?_
  obtain ⟨t27, H27, H⟩ := bind_some H
  refine cl ha (by rfl) (by kernel_rfl) (by rfl) (by rfl) (by rfl) (rd_Text.walk w24 _ hM hG ((arL 8 ([(0 : Int), ar a0 0, (0 : Int), (0 : Int), (0 : Int), (0 : Int), (0 : Int), (0 : Int)] : List Int)).take 2 ++ arC 6 ((arL 8 ([(0 : Int), ar a0 0, (0 : Int), (0 : Int), (0 : Int), (0 : Int), (0 : Int), (0 : Int)] : List Int)).drop 2) (((arL 8 a0).take (Int.toNat (8 : Int))).drop (Int.toNat (2 : Int)))) k _ H27) ?_
  rintro _ w27 ⟨rfl, hc27, hMn⟩ a ha
  have o1 : Ok [] ([g14] ++ ([g3] ++ (M))) w24.heap.size := Ok.nil _ _
  have o2 : Ok ([g14] ++ ([g3] ++ (M))) ([g14] ++ ([g3] ++ (M))) w24.heap.size := (Ok.refl _ _)
  have hG := hG.chg hc27 o1 o2
  have hBg3 := hBg3.chg hc27 (fun h => nomatch h)
  have hBg14 := hBg14.chg hc27 (fun h => nomatch h)
  have hM : MS ([g14] ++ ([g3] ++ (M))) w27 := (hM.chg hc27)
  have hC := hC.trans hc27 (Ok.nil _ _)
  obtain ⟨hx28, H⟩ := ite_some H
  refine sadd ha rfl rfl rfl rfl rfl hx28 fun a ha => ?_
  refine seg ha 1 [(2, .string (bstr (([114, 116, 58] : List UInt8) ++ t27)))] (by kernel_rfl) fun a ha => ?_
  refine hK26 _ _ ?_; try clear hK26 K26
  refine wp_ret ?_
  try simp only [Exit.then, Exit.inBlock]
  have o1 : Ok [] ([g14] ++ ([g3] ++ (M))) w27.heap.size := Ok.nil _ _
  have o2 : Ok (M) ([g14] ++ ([g3] ++ (M))) w27.heap.size := (fun _ h => .inl (mr (mr (h))))
  have hG := hG.chg (Chg.refl [] _) o1 o2
  have hM : MS (M) w27 := (fun x h => hM.chg (Chg.refl [] _) x (mr (mr (h))))
  obtain rfl := Option.some.inj H
  refine rt1 ha rfl rfl ?_
  exact ⟨rfl, hC, hM⟩
 ·have H := ite_f hc10 H
  refine wp_seq_k fun K29 hK29 => ?_
  refine wp_region_lit ?_
  refine seg ha 2 [(1, .pointer (some ⟨g3, 0, none⟩)), (13, .int .i64 t8), (25, .bool (t8 == (2 : Int)))] (by kernel_rfl) fun a ha => ?_
  refine hK29 _ _ ?_; try clear hK29 K29
  refine cnd ha rfl (fun hc30 => ?_) (fun hc30 => ?_)
  ·have H := ite_t hc30 H
   refine wp_seq_k fun K31 hK31 => ?_
   refine wp_region_lit ?_
   refine ldA (cs := (cA .u8 8 a0)) ha rfl (by kernel_rfl) rfl rfl rfl (cells_sub (Box.cells hBg3) (all := (cA .u8 8 a0)) [] [] (by kernel_rfl)) fun a ha => ?_
   obtain ⟨t32, H32, H⟩ := bind_some H
   refine cl ha (by rfl) (by kernel_rfl) (by rfl) (by rfl) (by rfl) (community_Importer.walk w8 _ hM a0 k _ H32) ?_
   rintro _ w32 ⟨rfl, hc32, hMn⟩ a ha
   have o1 : Ok [] ([g3] ++ (M)) w8.heap.size := Ok.nil _ _
   have o2 : Ok ([g3] ++ (M)) ([g3] ++ (M)) w8.heap.size := (Ok.refl _ _)
   have hG := hG.chg hc32 o1 o2
   have hBg3 := hBg3.chg hc32 (fun h => nomatch h)
   have hM : MS ([g3] ++ (M)) w32 := (hM.chg hc32)
   have hC := hC.trans hc32 (Ok.nil _ _)
   refine seg ha 4 [(30, .agg (cS_api_Addr t32.1).toArray), (31, .int .i64 t32.2.1), (32, .bool t32.2.2)] (by kernel_rfl) fun a ha => ?_
   refine al (cs := (cS_api_Addr (⟨(0 : Int), (List.replicate 16 (0 : Int))⟩ : S_api_Addr))) (z := .agg (cS_api_Addr (⟨(0 : Int), (List.replicate 16 (0 : Int))⟩ : S_api_Addr)).toArray) ha (fun w => by kernel_rfl) rfl rfl rfl rfl fun a w33 g34 hN35 ha => ?_
   have o1 : Ok [] ([g3] ++ (M)) w32.heap.size := Ok.nil _ _
   have o2 : Ok ([g34] ++ ([g3] ++ (M))) ([g3] ++ (M)) w32.heap.size := (Ok.app (hN35.ok _) (Ok.refl _ _))
   have hG := hG.chg hN35.chg o1 o2
   have hBg3 := hBg3.chg hN35.chg (fun h => nomatch h)
   have p_i36_i5 : ∀ x ∈ [g34], x ∉ ([g3]) := fun x hx hy => absurd (hM x (ml hy)) (Nat.not_lt.2 ((hN35.ge1) x hx))
   have p_i36_M : ∀ x ∈ [g34], x ∉ M := fun x hx hy => absurd (hM x (mr (hy))) (Nat.not_lt.2 ((hN35.ge1) x hx))
   have e_i36 : ∀ x ∈ [g34], w.heap.size ≤ x := fun x hx => Nat.le_trans hC.size ((hN35.ge1) x hx)
   have hM : MS ([g34] ++ ([g3] ++ (M))) w33 := (MS.app hN35.ms (hM.chg hN35.chg))
   have hC := hC.trans hN35.chg (Ok.nil _ _)
   have hBg34 : Box w33 g34 (cS_api_Addr (⟨(0 : Int), (List.replicate 16 (0 : Int))⟩ : S_api_Addr)) := hN35.box
   refine stA (l := (cS_api_Addr t32.1)) ha rfl rfl rfl (by kernel_rfl) rfl rfl hBg34 rfl fun a w37 ha hb2 hc38 _ => ?_
   have o1 : Ok [g34] ([g34] ++ ([g3] ++ (M))) w33.heap.size := (fun _ h => .inl (ml h))
   have o2 : Ok ([g34] ++ ([g3] ++ (M))) ([g34] ++ ([g3] ++ (M))) w33.heap.size := (Ok.refl _ _)
   have hG := hG.chg hc38 o1 o2
   have hBg3 := hBg3.chg hc38 ((fun x (hx : x ∈ [g3]) (hy : x ∈ [g34]) => p_i36_i5 x hy hx) g3 (by simp))
   have hM : MS ([g34] ++ ([g3] ++ (M))) w37 := (hM.chg hc38)
   have hC := hC.trans hc38 (fun x h => .inr (e_i36 x h))
   have hBg34 : Box w37 g34 (cS_api_Addr t32.1) := hb2
   refine seg ha 2 [(4, .pointer (some ⟨g34, 0, none⟩)), (5, .int .i64 t32.2.1)] (by kernel_rfl) fun a ha => ?_
   refine hK31 _ _ ?_; try clear hK31 K31
   refine wp_seq_k fun K39 hK39 => ?_
   refine wp_region_lit ?_
   refine ldA (cs := (cS_api_Addr t32.1)) ha rfl (by kernel_rfl) rfl rfl rfl (cells_sub (Box.cells hBg34) (all := (cS_api_Addr t32.1)) [] [] (by kernel_rfl)) fun a ha => ?_
   obtain ⟨t40, H40, H⟩ := bind_some H
   refine cl ha (by rfl) (by kernel_rfl) (by rfl) (by rfl) (by rfl) (addr_Text.walk w37 _ hM hG t32.1 k _ H40) ?_
   rintro _ w40 ⟨rfl, hc40, hMn⟩ a ha
   have o1 : Ok [] ([g34] ++ ([g3] ++ (M))) w37.heap.size := Ok.nil _ _
   have o2 : Ok ([g34] ++ ([g3] ++ (M))) ([g34] ++ ([g3] ++ (M))) w37.heap.size := (Ok.refl _ _)
   have hG := hG.chg hc40 o1 o2
   have hBg3 := hBg3.chg hc40 (fun h => nomatch h)
   have hBg34 := hBg34.chg hc40 (fun h => nomatch h)
   have hM : MS ([g34] ++ ([g3] ++ (M))) w40 := (hM.chg hc40)
   have hC := hC.trans hc40 (Ok.nil _ _)
   obtain ⟨hx41, H⟩ := ite_some H
   refine sadd ha rfl rfl rfl rfl rfl hx41 fun a ha => ?_
   obtain ⟨hx42, H⟩ := ite_some H
   refine sadd ha rfl rfl rfl rfl rfl hx42 fun a ha => ?_
   refine seg ha 1 [(36, .string (bstr ((([105, 109, 112, 111, 114, 116, 58] : List UInt8) ++ t40) ++ ([58] : List UInt8)))), (37, .int .i64 t32.2.1)] (by kernel_rfl) fun a ha => ?_
   obtain ⟨t43, H43, H⟩ := bind_some H
   refine cl ha (by rfl) (by kernel_rfl) (by rfl) (by rfl) (by rfl) (strconv_Itoa.walk w40 _ hM hG t32.2.1 _ H43) ?_
   rintro _ w43 ⟨rfl, hc43, hMn⟩ a ha
   have o1 : Ok [] ([g34] ++ ([g3] ++ (M))) w40.heap.size := Ok.nil _ _
   have o2 : Ok ([g34] ++ ([g3] ++ (M))) ([g34] ++ ([g3] ++ (M))) w40.heap.size := (Ok.refl _ _)
   have hG := hG.chg hc43 o1 o2
   have hBg3 := hBg3.chg hc43 (fun h => nomatch h)
   have hBg34 := hBg34.chg hc43 (fun h => nomatch h)
   have hM : MS ([g34] ++ ([g3] ++ (M))) w43 := (hM.chg hc43)
   have hC := hC.trans hc43 (Ok.nil _ _)
   obtain ⟨hx44, H⟩ := ite_some H
   refine sadd ha rfl rfl rfl rfl rfl hx44 fun a ha => ?_
   refine seg ha 1 [(2, .string (bstr (((([105, 109, 112, 111, 114, 116, 58] : List UInt8) ++ t40) ++ ([58] : List UInt8)) ++ t43)))] (by kernel_rfl) fun a ha => ?_
   refine hK39 _ _ ?_; try clear hK39 K39
   refine wp_ret ?_
   try simp only [Exit.then, Exit.inBlock]
   have o1 : Ok [] ([g34] ++ ([g3] ++ (M))) w43.heap.size := Ok.nil _ _
   have o2 : Ok (M) ([g34] ++ ([g3] ++ (M))) w43.heap.size := (fun _ h => .inl (mr (mr (h))))
   have hG := hG.chg (Chg.refl [] _) o1 o2
   have hM : MS (M) w43 := (fun x h => hM.chg (Chg.refl [] _) x (mr (mr (h))))
   obtain rfl := Option.some.inj H
   refine rt1 ha rfl rfl ?_
   exact ⟨rfl, hC, hM⟩
  ·have H := ite_f hc30 H
   refine wp_seq_k fun K45 hK45 => ?_
   refine wp_region_lit ?_
   refine seg ha 2 [(1, .pointer (some ⟨g3, 0, none⟩)), (40, .bool (t8 == (3 : Int)))] (by kernel_rfl) fun a ha => ?_
   refine hK45 _ _ ?_; try clear hK45 K45
   refine cnd ha rfl (fun hc46 => ?_) (fun hc46 => ?_)
   ·have H := ite_t hc46 H
    refine wp_seq_k fun K47 hK47 => ?_
    refine wp_region_lit ?_
    refine ldA (cs := (cA .u8 8 a0)) ha rfl (by kernel_rfl) rfl rfl rfl (cells_sub (Box.cells hBg3) (all := (cA .u8 8 a0)) [] [] (by kernel_rfl)) fun a ha => ?_
    obtain ⟨t48, H48, H⟩ := bind_some H
    refine cl ha (by rfl) (by kernel_rfl) (by rfl) (by rfl) (by rfl) (community_AS.walk w8 _ hM a0 k _ H48) ?_
    rintro _ w48 ⟨rfl, hc48, hMn⟩ a ha
    have o1 : Ok [] ([g3] ++ (M)) w8.heap.size := Ok.nil _ _
    have o2 : Ok ([g3] ++ (M)) ([g3] ++ (M)) w8.heap.size := (Ok.refl _ _)
    have hG := hG.chg hc48 o1 o2
    have hBg3 := hBg3.chg hc48 (fun h => nomatch h)
    have hM : MS ([g3] ++ (M)) w48 := (hM.chg hc48)
    have hC := hC.trans hc48 (Ok.nil _ _)
    refine seg ha 5 [(7, .int .i64 t48.1)] (by kernel_rfl) fun a ha => ?_
    refine hK47 _ _ ?_; try clear hK47 K47
    refine wp_seq_k fun K49 hK49 => ?_
    refine wp_region_lit ?_
    refine seg ha 1 [(47, .int .i64 t48.1)] (by kernel_rfl) fun a ha => ?_
    obtain ⟨t50, H50, H⟩ := bind_some H
    refine cl ha (by rfl) (by kernel_rfl) (by rfl) (by rfl) (by rfl) (strconv_Itoa.walk w48 _ hM hG t48.1 _ H50) ?_
    rintro _ w50 ⟨rfl, hc50, hMn⟩ a ha
    have o1 : Ok [] ([g3] ++ (M)) w48.heap.size := Ok.nil _ _
    have o2 : Ok ([g3] ++ (M)) ([g3] ++ (M)) w48.heap.size := (Ok.refl _ _)
    have hG := hG.chg hc50 o1 o2
    have hBg3 := hBg3.chg hc50 (fun h => nomatch h)
    have hM : MS ([g3] ++ (M)) w50 := (hM.chg hc50)
    have hC := hC.trans hc50 (Ok.nil _ _)
    obtain ⟨hx51, H⟩ := ite_some H
    refine sadd ha rfl rfl rfl rfl rfl hx51 fun a ha => ?_
    refine seg ha 1 [(2, .string (bstr (([115, 111, 117, 114, 99, 101, 58] : List UInt8) ++ t50)))] (by kernel_rfl) fun a ha => ?_
    refine hK49 _ _ ?_; try clear hK49 K49
    refine wp_ret ?_
    try simp only [Exit.then, Exit.inBlock]
    have o1 : Ok [] ([g3] ++ (M)) w50.heap.size := Ok.nil _ _
    have o2 : Ok (M) ([g3] ++ (M)) w50.heap.size := (fun _ h => .inl (mr (h)))
    have hG := hG.chg (Chg.refl [] _) o1 o2
    have hM : MS (M) w50 := (fun x h => hM.chg (Chg.refl [] _) x (mr (h)))
    obtain rfl := Option.some.inj H
    refine rt1 ha rfl rfl ?_
    exact ⟨rfl, hC, hM⟩
   ·have H := ite_f hc46 H
    refine wp_skip ?_
    refine hK6 _ _ ?_; try clear hK6 K6
    refine wp_seq_k fun K52 hK52 => ?_
    refine wp_region_lit ?_
    refine bsl (vals := ([.int .u8 (111 : Int), .int .u8 (116 : Int), .int .u8 (104 : Int), .int .u8 (101 : Int), .int .u8 (114 : Int), .int .u8 (58 : Int)] : List Value)) (T := 5) ha rfl (([.int .u8 (111 : Int)] : List Value) ++ (([.int .u8 (116 : Int)] : List Value) ++ (([.int .u8 (104 : Int)] : List Value) ++ (([.int .u8 (101 : Int)] : List Value) ++ (([.int .u8 (114 : Int)] : List Value) ++ (([.int .u8 (58 : Int)] : List Value) ++ ([] : List Value))))))) (fun w => by kernel_rfl) rfl rfl rfl fun a w53 g54 hN55 ha => ?_
    have o1 : Ok [] ([g3] ++ (M)) w8.heap.size := Ok.nil _ _
    have o2 : Ok ([g54] ++ ([g3] ++ (M))) ([g3] ++ (M)) w8.heap.size := (Ok.app (hN55.ok _) (Ok.refl _ _))
    have hG := hG.chg hN55.chg o1 o2
    have hBg3 := hBg3.chg hN55.chg (fun h => nomatch h)
    have p_i56_i5 : ∀ x ∈ [g54], x ∉ ([g3]) := fun x hx hy => absurd (hM x (ml hy)) (Nat.not_lt.2 ((hN55.ge1) x hx))
    have p_i56_M : ∀ x ∈ [g54], x ∉ M := fun x hx hy => absurd (hM x (mr (hy))) (Nat.not_lt.2 ((hN55.ge1) x hx))
    have e_i56 : ∀ x ∈ [g54], w.heap.size ≤ x := fun x hx => Nat.le_trans hC.size ((hN55.ge1) x hx)
    have hM : MS ([g54] ++ ([g3] ++ (M))) w53 := (MS.app hN55.ms (hM.chg hN55.chg))
    have hC := hC.trans hN55.chg (Ok.nil _ _)
    have f57 : Own (rInt .u8) 5 w53 ([g54] ++ ([g3] ++ (M))) (some ⟨g54, 0, none⟩) 6 ([(111 : Int), (116 : Int), (104 : Int), (101 : Int), (114 : Int), (58 : Int)] : List Int) := hN55.own ⟨([.int .u8 (111 : Int)] : List Value), _, rfl, rfl, ⟨([.int .u8 (116 : Int)] : List Value), _, rfl, rfl, ⟨([.int .u8 (104 : Int)] : List Value), _, rfl, rfl, ⟨([.int .u8 (101 : Int)] : List Value), _, rfl, rfl, ⟨([.int .u8 (114 : Int)] : List Value), _, rfl, rfl, ⟨([.int .u8 (58 : Int)] : List Value), _, rfl, rfl, rfl⟩⟩⟩⟩⟩⟩ (Nat.le_of_ble_eq_true rfl)
    refine cvl ha rfl (by kernel_rfl) (by kernel_rfl) rfl rfl rfl f57 fun a w58 hc59 hL60 ha => ?_
    have hOk60 : Ok [g54] ([g54] ++ ([g3] ++ (M))) w53.heap.size := (fun _ h => .inl (ml h))
    have hLt60 := f57.lt
    have o1 : Ok [g54] ([g54] ++ ([g3] ++ (M))) w53.heap.size := (fun _ h => .inl (ml h))
    have o2 : Ok ([g54] ++ ([g3] ++ (M))) ([g54] ++ ([g3] ++ (M))) w53.heap.size := (Ok.refl _ _)
    have hG := hG.chg hc59 o1 o2
    have hBg3 := hBg3.chg hc59 ((fun x (hx : x ∈ [g3]) (hy : x ∈ [g54]) => p_i56_i5 x hy hx) g3 (by simp))
    have hM : MS ([g54] ++ ([g3] ++ (M))) w58 := (hM.chg hc59)
    have hC := hC.trans hc59 (fun x h => .inr (e_i56 x h))
    have f60 : OwnW .u8 5 w58 ([g54] ++ ([g3] ++ (M))) (some ⟨g54, 0, none⟩) 6 ([(111 : Int), (116 : Int), (104 : Int), (101 : Int), (114 : Int), (58 : Int)] : List Int) := .inr ⟨rfl, g54, rfl, ml (by simp [blkL]), Nat.lt_of_lt_of_le (hLt60 _ (by simp [blkL])) hc59.size, hL60 _ butL_self⟩
    refine seg ha 1 [(1, .pointer (some ⟨g3, 0, none⟩)), (9, .slice (some ⟨g54, 0, none⟩) ([(111 : Int), (116 : Int), (104 : Int), (101 : Int), (114 : Int), (58 : Int)] : List Int).length 6)] (by kernel_rfl) fun a ha => ?_
    refine hK52 _ _ ?_; try clear hK52 K52
    refine wp_seq_k fun K61 hK61 => ?_
    refine wp_seq_k fun K62 hK62 => ?_
    refine wp_region_lit ?_
    refine ldA (cs := (cA .u8 8 a0)) ha rfl (by kernel_rfl) rfl rfl rfl (cells_sub (Box.cells hBg3) (all := (cA .u8 8 a0)) [] [] (by kernel_rfl)) fun a ha => ?_
    refine seg ha 1 [(9, .slice (some ⟨g54, 0, none⟩) ([(111 : Int), (116 : Int), (104 : Int), (101 : Int), (114 : Int), (58 : Int)] : List Int).length 6), (52, .agg (cA .u8 8 a0).toArray), (53, .int .i64 (0 : Int))] (by kernel_rfl) fun a ha => ?_
    refine hK62 _ _ ?_; try clear hK62 K62
    refine wp_block ?_
    obtain ⟨s63, H63, H⟩ := bind_some H
    have J63 : ∀ (a : Act) (wx63 : World) (ao67 : Option Addr) (cap67 : Nat), Has a Tryz.f35.ntmps [(9, .slice ao67 s63.length cap67)] → (OwnW .u8 5 wx63 (blkL ao67 ++ ([g3] ++ (M))) ao67 cap67 s63) → (Box wx63 g3 (cA .u8 8 a0)) → (∀ x ∈ blkL ao67, w.heap.size ≤ x) → (∀ x ∈ blkL ao67, x ∉ [g3]) → (∀ x ∈ blkL ao67, x ∉ M) → (GF wx63 (blkL ao67 ++ ([g3] ++ (M)))) → (Chg [] w wx63) → (MS (blkL ao67 ++ ([g3] ++ (M))) wx63) → K61 a wx63 := by
     intro a wx63 ao67 cap67 ha f67 hBg3 e_i67 p_i67_i5 p_i67_M hG hC hM
     refine hK61 _ _ ?_; try clear hK61 K61
     refine wp_seq_k fun K68 hK68 => ?_
     refine wp_region_lit ?_
     refine seg ha 1 [(66, .slice ao67 s63.length cap67)] (by kernel_rfl) fun a ha => ?_
     refine cvs ha rfl (by kernel_rfl) (by kernel_rfl) (by kernel_rfl) rfl rfl rfl (OwnW.toRSl (M' := []) f67 (Ok.nil _ _) (fun _ _ h => nomatch h)) fun a ha => ?_
     refine seg ha 1 [(2, .string (bstr (b2s s63)))] (by kernel_rfl) fun a ha => ?_
     refine hK68 _ _ ?_; try clear hK68 K68
     refine wp_ret ?_
     try simp only [Exit.then, Exit.inBlock]
     have o1 : Ok [] (blkL ao67 ++ ([g3] ++ (M))) wx63.heap.size := Ok.nil _ _
     have o2 : Ok (M) (blkL ao67 ++ ([g3] ++ (M))) wx63.heap.size := (fun _ h => .inl (mr (mr (h))))
     have hG := hG.chg (Chg.refl [] _) o1 o2
     have hM : MS (M) wx63 := (fun x h => hM.chg (Chg.refl [] _) x (mr (mr (h))))
     obtain rfl := Option.some.inj H
     refine rt1 ha rfl rfl ?_
     exact ⟨rfl, hC, hM⟩
    have Hc63 := H
    have H := H63
    refine wp_loop_ghost (fun kk a w63 => ∃ (x65 : List Int) (x66 : Int) (ao64 : Option Addr) (cap64 : Nat), community_Text.l0 a0 kk x65 x66 = some s63 ∧ Has a Tryz.f35.ntmps [(9, .slice ao64 x65.length cap64), (52, .agg (cA .u8 8 a0).toArray), (53, .int .i64 x66)] ∧ (OwnW .u8 5 w63 (blkL ao64 ++ ([g3] ++ (M))) ao64 cap64 x65) ∧ (Box w63 g3 (cA .u8 8 a0)) ∧ (∀ x ∈ blkL ao64, w.heap.size ≤ x) ∧ (∀ x ∈ blkL ao64, x ∉ [g3]) ∧ (∀ x ∈ blkL ao64, x ∉ M) ∧ (GF w63 (blkL ao64 ++ ([g3] ++ (M)))) ∧ (Chg [] w w63) ∧ (MS (blkL ao64 ++ ([g3] ++ (M))) w63)) k ?_ ?_
    ·skip
     exact ⟨([(111 : Int), (116 : Int), (104 : Int), (101 : Int), (114 : Int), (58 : Int)] : List Int), (0 : Int), (some ⟨g54, 0, none⟩), 6, H, (ha.sel (by kernel_rfl)), f60, hBg3, e_i56, p_i56_i5, p_i56_M, hG, hC, hM⟩
    ·rintro kk a w63 ⟨x65, x66, ao64, cap64, H, ha, f64, hBg3, e_i64, p_i64_i5, p_i64_M, hG, hC, hM⟩
     obtain _ | kk := kk
     ·exact nomatch (show none = some _ from H)
     rw [community_Text.l0] at H
     refine wp_seq_k fun K69 hK69 => ?_
     refine wp_region_lit ?_
     refine seg ha 1 [(9, .slice ao64 x65.length cap64), (52, .agg (cA .u8 8 a0).toArray), (53, .int .i64 x66), (54, .bool (decide (x66 < (8 : Int))))] (by kernel_rfl) fun a ha => ?_
     refine hK69 _ _ ?_; try clear hK69 K69
     refine wp_seq_k fun K70 hK70 => ?_
     refine cnd ha rfl (fun hc71 => ?_) (fun hc71 => ?_)
     ·have H := ite_t hc71 H
      refine wp_skip ?_
      refine hK70 _ _ ?_; try clear hK70 K70
      refine wp_seq_k fun K72 hK72 => ?_
      refine wp_block ?_
      refine wp_seq_k fun K73 hK73 => ?_
      refine wp_region_lit ?_
      obtain ⟨⟨hx74, hx74'⟩, H⟩ := ite_some H
      refine hop (v := .int .u8 (ar a0 (Int.toNat x66))) (w' := w63) ha rfl rfl rfl (aidx_run (T := 5) (N := 8) (kk := .u8) (l := a0) (k := .i64) (i := x66) ha (by kernel_rfl) (by kernel_rfl) (by kernel_rfl) (by rfl) (by rfl) hx74 hx74' _) fun a ha => ?_
      refine seg ha 1 [(9, .slice ao64 x65.length cap64), (11, .int .u8 (ar a0 (Int.toNat x66))), (52, .agg (cA .u8 8 a0).toArray), (53, .int .i64 x66)] (by kernel_rfl) fun a ha => ?_
      refine hK73 _ _ ?_; try clear hK73 K73
      have okS : Ok (blkL ao64) (blkL ao64 ++ ([g3] ++ (M))) w63.heap.size := (fun _ h => .inl (ml h))
      have z_hBg3 := hBg3
      refine drw (fun w' => Chg (blkL ao64) w63 w') (by kernel_rfl) fun w75 hc76 _ => ?_
      have hS : Chg (blkL ao64) w63 w75 := (Chg.refl (blkL ao64) _).trans hc76 (Ok.nil _ _)
      have o1 : Ok [] (blkL ao64 ++ ([g3] ++ (M))) w63.heap.size := Ok.nil _ _
      have o2 : Ok (blkL ao64 ++ ([g3] ++ (M))) (blkL ao64 ++ ([g3] ++ (M))) w63.heap.size := (Ok.refl _ _)
      have hG := hG.chg hc76 o1 o2
      have f64 := f64.chg hc76 o1 o2 (fun _ _ h => nomatch h) (fun _ h => ml h)
      have hBg3 := hBg3.chg hc76 (fun h => nomatch h)
      have hM : MS (blkL ao64 ++ ([g3] ++ (M))) w75 := (hM.chg hc76)
      have hC := hC.trans hc76 (Ok.nil _ _)
      refine tkpz 0 0 (.slice ao64 x65.length cap64) ha (s := hS) (q := fun a ha => ?_)
      refine tkpz 1 0 (.int .u8 (ar a0 (Int.toNat x66))) ha (s := hS) (q := fun a ha => ?_)
      refine tkpz 2 0 (.int .u8 (Int.fdiv (ar a0 (Int.toNat x66)) (2 ^ (min (4 : Int).toNat IntKind.u8.bits)))) ha (s := hS) (q := fun a ha => ?_)
      obtain ⟨⟨hx77, hx77'⟩, H⟩ := ite_some H
      refine tkz 3 ha (v := .int .u8 ((([48, 49, 50, 51, 52, 53, 54, 55, 56, 57, 97, 98, 99, 100, 101, 102] : List UInt8).getD (Int.toNat (Int.fdiv (ar a0 (Int.toNat x66)) (2 ^ (min (4 : Int).toNat IntKind.u8.bits)))) 0).toNat : Int)) (y := fun w' hs => sidx_run (l := ([48, 49, 50, 51, 52, 53, 54, 55, 56, 57, 97, 98, 99, 100, 101, 102] : List UInt8)) (k := .u8) (i := Int.fdiv (ar a0 (Int.toNat x66)) (2 ^ (min (4 : Int).toNat IntKind.u8.bits))) ha (by kernel_rfl) (by rfl) (by rfl) hx77 hx77' w') (s := hS) (q := fun a ha => ?_)
      refine tkpz 4 0 (.int .u8 (ar a0 (Int.toNat x66))) ha (s := hS) (q := fun a ha => ?_)
      refine tkpz 5 0 (.int .u8 (IntKind.u8.wrap (BitVec.ofInt IntKind.u8.bits (ar a0 (Int.toNat x66)) &&& BitVec.ofInt IntKind.u8.bits (15 : Int)).toNat)) ha (s := hS) (q := fun a ha => ?_)
      obtain ⟨⟨hx78, hx78'⟩, H⟩ := ite_some H
      refine tkz 6 ha (v := .int .u8 ((([48, 49, 50, 51, 52, 53, 54, 55, 56, 57, 97, 98, 99, 100, 101, 102] : List UInt8).getD (Int.toNat (IntKind.u8.wrap (BitVec.ofInt IntKind.u8.bits (ar a0 (Int.toNat x66)) &&& BitVec.ofInt IntKind.u8.bits (15 : Int)).toNat)) 0).toNat : Int)) (y := fun w' hs => sidx_run (l := ([48, 49, 50, 51, 52, 53, 54, 55, 56, 57, 97, 98, 99, 100, 101, 102] : List UInt8)) (k := .u8) (i := IntKind.u8.wrap (BitVec.ofInt IntKind.u8.bits (ar a0 (Int.toNat x66)) &&& BitVec.ofInt IntKind.u8.bits (15 : Int)).toNat) ha (by kernel_rfl) (by rfl) (by rfl) hx78 hx78' w') (s := hS) (q := fun a ha => ?_)
      refine ac 7 (by kernel_rfl) (by rfl) fun K79 hK79 => ?_
      refine bsl (vals := ([.int .u8 ((([48, 49, 50, 51, 52, 53, 54, 55, 56, 57, 97, 98, 99, 100, 101, 102] : List UInt8).getD (Int.toNat (Int.fdiv (ar a0 (Int.toNat x66)) (2 ^ (min (4 : Int).toNat IntKind.u8.bits)))) 0).toNat : Int), .int .u8 ((([48, 49, 50, 51, 52, 53, 54, 55, 56, 57, 97, 98, 99, 100, 101, 102] : List UInt8).getD (Int.toNat (IntKind.u8.wrap (BitVec.ofInt IntKind.u8.bits (ar a0 (Int.toNat x66)) &&& BitVec.ofInt IntKind.u8.bits (15 : Int)).toNat)) 0).toNat : Int)] : List Value)) (T := 5) ha rfl (([.int .u8 ((([48, 49, 50, 51, 52, 53, 54, 55, 56, 57, 97, 98, 99, 100, 101, 102] : List UInt8).getD (Int.toNat (Int.fdiv (ar a0 (Int.toNat x66)) (2 ^ (min (4 : Int).toNat IntKind.u8.bits)))) 0).toNat : Int)] : List Value) ++ (([.int .u8 ((([48, 49, 50, 51, 52, 53, 54, 55, 56, 57, 97, 98, 99, 100, 101, 102] : List UInt8).getD (Int.toNat (IntKind.u8.wrap (BitVec.ofInt IntKind.u8.bits (ar a0 (Int.toNat x66)) &&& BitVec.ofInt IntKind.u8.bits (15 : Int)).toNat)) 0).toNat : Int)] : List Value) ++ ([] : List Value))) (fun w => by kernel_rfl) rfl rfl rfl fun a w80 g81 hN82 ha => ?_
      have o1 : Ok [] (blkL ao64 ++ ([g3] ++ (M))) w75.heap.size := Ok.nil _ _
      have o2 : Ok ([g81] ++ (blkL ao64 ++ ([g3] ++ (M)))) (blkL ao64 ++ ([g3] ++ (M))) w75.heap.size := (Ok.app (hN82.ok _) (Ok.refl _ _))
      have hG := hG.chg hN82.chg o1 o2
      have f64 := f64.chg hN82.chg o1 o2 (fun _ _ h => nomatch h) (fun _ h => mr (ml h))
      have hBg3 := hBg3.chg hN82.chg (fun h => nomatch h)
      have p_iD000083_i64 : ∀ x ∈ [g81], x ∉ (blkL ao64) := fun x hx hy => absurd (hM x (ml hy)) (Nat.not_lt.2 ((hN82.ge1) x hx))
      have p_iD000083_i5 : ∀ x ∈ [g81], x ∉ ([g3]) := fun x hx hy => absurd (hM x (mr (ml hy))) (Nat.not_lt.2 ((hN82.ge1) x hx))
      have p_iD000083_M : ∀ x ∈ [g81], x ∉ M := fun x hx hy => absurd (hM x (mr (mr (hy)))) (Nat.not_lt.2 ((hN82.ge1) x hx))
      have e_iD000083 : ∀ x ∈ [g81], w.heap.size ≤ x := fun x hx => Nat.le_trans hC.size ((hN82.ge1) x hx)
      have hM : MS ([g81] ++ (blkL ao64 ++ ([g3] ++ (M)))) w80 := (MS.app hN82.ms (hM.chg hN82.chg))
      have hC := hC.trans hN82.chg (Ok.nil _ _)
      have d_iD000083 : Ok ([g81]) (blkL ao64) w63.heap.size := fun x hx => .inr (Nat.le_trans hS.size ((hN82.ge1) x hx))
      have hS := hS.trans hN82.chg (Ok.nil _ _)
      have f84 : Own (rInt .u8) 5 w80 ([g81] ++ (blkL ao64 ++ ([g3] ++ (M)))) (some ⟨g81, 0, none⟩) 2 ([((([48, 49, 50, 51, 52, 53, 54, 55, 56, 57, 97, 98, 99, 100, 101, 102] : List UInt8).getD (Int.toNat (Int.fdiv (ar a0 (Int.toNat x66)) (2 ^ (min (4 : Int).toNat IntKind.u8.bits)))) 0).toNat : Int), ((([48, 49, 50, 51, 52, 53, 54, 55, 56, 57, 97, 98, 99, 100, 101, 102] : List UInt8).getD (Int.toNat (IntKind.u8.wrap (BitVec.ofInt IntKind.u8.bits (ar a0 (Int.toNat x66)) &&& BitVec.ofInt IntKind.u8.bits (15 : Int)).toNat)) 0).toNat : Int)] : List Int) := hN82.own ⟨([.int .u8 ((([48, 49, 50, 51, 52, 53, 54, 55, 56, 57, 97, 98, 99, 100, 101, 102] : List UInt8).getD (Int.toNat (Int.fdiv (ar a0 (Int.toNat x66)) (2 ^ (min (4 : Int).toNat IntKind.u8.bits)))) 0).toNat : Int)] : List Value), _, rfl, rfl, ⟨([.int .u8 ((([48, 49, 50, 51, 52, 53, 54, 55, 56, 57, 97, 98, 99, 100, 101, 102] : List UInt8).getD (Int.toNat (IntKind.u8.wrap (BitVec.ofInt IntKind.u8.bits (ar a0 (Int.toNat x66)) &&& BitVec.ofInt IntKind.u8.bits (15 : Int)).toNat)) 0).toNat : Int)] : List Value), _, rfl, rfl, rfl⟩⟩ (Nat.le_of_ble_eq_true rfl)
      refine ae hK79 hS ?_; clear hK79 K79
      refine ac 8 (by kernel_rfl) (by rfl) fun K85 hK85 => ?_
      obtain ⟨hx86, H⟩ := ite_some H
      refine appW (k := .u8) (xs := x65) (ys := ([((([48, 49, 50, 51, 52, 53, 54, 55, 56, 57, 97, 98, 99, 100, 101, 102] : List UInt8).getD (Int.toNat (Int.fdiv (ar a0 (Int.toNat x66)) (2 ^ (min (4 : Int).toNat IntKind.u8.bits)))) 0).toNat : Int), ((([48, 49, 50, 51, 52, 53, 54, 55, 56, 57, 97, 98, 99, 100, 101, 102] : List UInt8).getD (Int.toNat (IntKind.u8.wrap (BitVec.ofInt IntKind.u8.bits (ar a0 (Int.toNat x66)) &&& BitVec.ofInt IntKind.u8.bits (15 : Int)).toNat)) 0).toNat : Int)] : List Int)) ha (ElemT.mk' (bytes := 1) (by kernel_rfl)) rfl rfl rfl rfl rfl f64 f84.src hx86 (by decide) (by simp) fun a w87 ao88 cap88 hO88 hc88 hk88 hl88 ha => ?_
      have o1 : Ok (blkL ao64) ([g81] ++ (blkL ao64 ++ ([g3] ++ (M)))) w80.heap.size := (fun _ h => .inl (mr (ml h)))
      have o2 : Ok (blkL ao88 ++ ([g81] ++ ([g3] ++ (M)))) ([g81] ++ (blkL ao64 ++ ([g3] ++ (M)))) w80.heap.size := (Ok.app (Ok.to hk88 (fun _ h => mr (ml h))) (Ok.app (fun _ h => .inl (ml h)) (fun _ h => .inl (mr (mr (h))))))
      have hG := hG.chg hc88 o1 o2
      have f84 := f84.chg hc88 o1 o2 p_iD000083_i64 (fun _ h => mr (ml h))
      have hBg3 := hBg3.chg hc88 ((fun x (hx : x ∈ [g3]) (hy : x ∈ blkL ao64) => p_i64_i5 x hy hx) g3 (by simp))
      have p_iD000088_iD000083 : ∀ x ∈ blkL ao88, x ∉ ([g81]) := fun x hx hy => (hk88 x hx).elim (fun h => (fun x hx hy => p_iD000083_i64 x hy hx) x h hy) (fun h => absurd (hM x (ml hy)) (Nat.not_lt.2 h))
      have p_iD000088_i5 : ∀ x ∈ blkL ao88, x ∉ ([g3]) := fun x hx hy => (hk88 x hx).elim (fun h => p_i64_i5 x h hy) (fun h => absurd (hM x (mr (mr (ml hy)))) (Nat.not_lt.2 h))
      have p_iD000088_M : ∀ x ∈ blkL ao88, x ∉ M := fun x hx hy => (hk88 x hx).elim (fun h => p_i64_M x h hy) (fun h => absurd (hM x (mr (mr (mr (hy))))) (Nat.not_lt.2 h))
      have e_iD000088 : ∀ x ∈ blkL ao88, w.heap.size ≤ x := fun x hx => (hk88 x hx).elim (e_i64 x) (Nat.le_trans hC.size)
      have hM : MS (blkL ao88 ++ ([g81] ++ ([g3] ++ (M)))) w87 := (MS.app hl88 (MS.app (fun x h => hM.chg hc88 x (ml h)) (fun x h => hM.chg hc88 x (mr (mr (h))))))
      have hC := hC.trans hc88 (fun x h => .inr (e_i64 x h))
      have d_iD000088 : Ok (blkL ao88) (blkL ao64) w63.heap.size := fun x hx => (hk88 x hx).elim (fun h => .inl (h)) (fun h => .inr (Nat.le_trans hS.size h))
      have hS := hS.trans hc88 (fun x h => .inl (h))
      have f88 := hO88.chg (M' := blkL ao88 ++ ([g81] ++ ([g3] ++ (M)))) (Chg.refl [] _) (Ok.nil _ _) (Ok.app (fun _ h => .inl (ml h)) (Ok.to (Ok.app (fun _ h => .inl (ml h)) (fun _ h => .inl (mr (mr (h))))) (fun _ h => mr h))) (fun _ _ h => nomatch h) (fun _ h => ml h)
      refine ae hK85 hS ?_; clear hK85 K85
      refine tkpz 9 0 (.slice ao88 (x65 ++ ([((([48, 49, 50, 51, 52, 53, 54, 55, 56, 57, 97, 98, 99, 100, 101, 102] : List UInt8).getD (Int.toNat (Int.fdiv (ar a0 (Int.toNat x66)) (2 ^ (min (4 : Int).toNat IntKind.u8.bits)))) 0).toNat : Int), ((([48, 49, 50, 51, 52, 53, 54, 55, 56, 57, 97, 98, 99, 100, 101, 102] : List UInt8).getD (Int.toNat (IntKind.u8.wrap (BitVec.ofInt IntKind.u8.bits (ar a0 (Int.toNat x66)) &&& BitVec.ofInt IntKind.u8.bits (15 : Int)).toNat)) 0).toNat : Int)] : List Int)).length cap88) ha (s := hS) (q := fun a ha => ?_)
      refine dn (by kernel_rfl) ?_
      refine hK72 _ _ ?_; try clear hK72 K72
      refine wp_region_lit ?_
      refine seg ha 2 [(9, .slice ao88 (x65 ++ ([((([48, 49, 50, 51, 52, 53, 54, 55, 56, 57, 97, 98, 99, 100, 101, 102] : List UInt8).getD (Int.toNat (Int.fdiv (ar a0 (Int.toNat x66)) (2 ^ (min (4 : Int).toNat IntKind.u8.bits)))) 0).toNat : Int), ((([48, 49, 50, 51, 52, 53, 54, 55, 56, 57, 97, 98, 99, 100, 101, 102] : List UInt8).getD (Int.toNat (IntKind.u8.wrap (BitVec.ofInt IntKind.u8.bits (ar a0 (Int.toNat x66)) &&& BitVec.ofInt IntKind.u8.bits (15 : Int)).toNat)) 0).toNat : Int)] : List Int)).length cap88), (52, .agg (cA .u8 8 a0).toArray), (53, .int .i64 (IntKind.i64.wrap (x66 + (1 : Int))))] (by kernel_rfl) fun a ha => ?_
      have o1 : Ok [] (blkL ao88 ++ ([g81] ++ ([g3] ++ (M)))) w87.heap.size := Ok.nil _ _
      have o2 : Ok (blkL ao88 ++ ([g3] ++ (M))) (blkL ao88 ++ ([g81] ++ ([g3] ++ (M)))) w87.heap.size := (Ok.app (fun _ h => .inl (ml h)) (fun _ h => .inl (mr (mr (h)))))
      have hG := hG.chg (Chg.refl [] _) o1 o2
      have f88 := f88.chg (Chg.refl [] _) o1 o2 (fun _ _ h => nomatch h) (fun _ h => ml h)
      have hM : MS (blkL ao88 ++ ([g3] ++ (M))) w87 := (MS.app (fun x h => hM.chg (Chg.refl [] _) x (ml h)) (fun x h => hM.chg (Chg.refl [] _) x (mr (mr (h)))))
      exact ⟨kk, Nat.lt_succ_self _, ⟨(x65 ++ ([((([48, 49, 50, 51, 52, 53, 54, 55, 56, 57, 97, 98, 99, 100, 101, 102] : List UInt8).getD (Int.toNat (Int.fdiv (ar a0 (Int.toNat x66)) (2 ^ (min (4 : Int).toNat IntKind.u8.bits)))) 0).toNat : Int), ((([48, 49, 50, 51, 52, 53, 54, 55, 56, 57, 97, 98, 99, 100, 101, 102] : List UInt8).getD (Int.toNat (IntKind.u8.wrap (BitVec.ofInt IntKind.u8.bits (ar a0 (Int.toNat x66)) &&& BitVec.ofInt IntKind.u8.bits (15 : Int)).toNat)) 0).toNat : Int)] : List Int)), IntKind.i64.wrap (x66 + (1 : Int)), ao88, cap88, H, (ha.sel (by kernel_rfl)), f88, hBg3, e_iD000088, p_iD000088_i5, p_iD000088_M, hG, hC, hM⟩⟩
     ·have H := ite_f hc71 H
      refine wp_exit ?_
      simp only [Exit.then, Exit.inBlock, ↓reduceIte, Nat.reduceEqDiff]
      obtain rfl := Option.some.inj H
      exact J63 _ _ ao64 cap64 (ha.sel (by kernel_rfl)) f64 hBg3 e_i64 p_i64_i5 p_i64_M hG hC hM
end Go.E
