/- What the functions that the law reaches compute, and the walks that show it. -/
import Derived.Test.YtcejhnpncodkjaaGreatDoorEngU
import Derived.Test.YtcejhnpncodkjaaGreatDoorShelf
import Derived.Test.YtcejhnpncodkjaaGreatDoorEngQ
import Derived.Test.YtcejhnpncodkjaaGreatDoorEngY
import Derived.Test.YtcejhnpncodkjaaGreatDoorProg
import Derived.Test.YtcejhnpncodkjaaGreatDoorGenCommunitySetsP1
set_option linter.unusedVariables false
set_option linter.unusedSimpArgs false
namespace Go.E
open Go.RowKit Go.Proofs
def slices_Index_Ext.l0 (a0 : List (List Int)) (a1 : List Int) : Nat → Int → Option ((Int) ⊕ (Unit))
  | 0, _ => none
  | kk + 1, x11 => (if (decide (x11 < (a0.length : Int))) = true then (if 0 ≤ x11 ∧ x11 < (a0.length : Int) then (if (eqA 8 a1 (rd a0 x11)) = true then some (.inl ((x11 : Int))) else slices_Index_Ext.l0 a0 a1 kk (IntKind.i64.wrap (x11 + (1 : Int)))) else none) else some (.inr (() : Unit)))
def slices_Index_Ext.f (k : Nat) (a0 : List (List Int)) (a1 : List Int) : Option (Int) := (slices_Index_Ext.l0 a0 a1 k (0 : Int)).bind fun s10 => match s10 with | .inl r => some r | .inr s10' => some (((-1 : Int) : Int))
set_option maxRecDepth 100000 in
theorem slices_Index_Ext.walk (w : World) (M : List Nat) (hM : MS M w) (a0 : List (List Int)) (ao1 : Option Addr) (cap1 : Nat) (f1 : RSl (rArr .u8 8) 27 w M ao1 cap1 a0) (a1 : List Int) (k : Nat) (r : Int) (H : slices_Index_Ext.f k a0 a1 = some r) :
    To Tryz.prog 85 [.slice ao1 a0.length cap1, .agg (cA .u8 8 a1).toArray] w fun v w' => v = .int .i64 r ∧ Chg [] w w' ∧ MS (M) w' := by
 unfold slices_Index_Ext.f at H
 refine ent Tryz.func85 rfl [(0, .slice ao1 a0.length cap1), (1, .agg (cA .u8 8 a1).toArray)] rfl (by rfl) fun a ha => ?_
 have hC : Chg [] w w := Chg.refl _ _
 refine wp_seq_k fun K2 hK2 => ?_
 refine wp_region_lit ?_
 refine bx (cs := (cA .u8 8 a1)) ha rfl rfl rfl rfl rfl fun a w3 g4 hN5 ha => ?_
 have hn7 := hN5.notin hM
 have o1 : Ok [] (M) w.heap.size := Ok.nil _ _
 have o2 : Ok (M) (M) w.heap.size := (Ok.refl _ _)
 have f1 := f1.chg hN5.chg o1 o2
 have hM : MS (M) w3 := (hM.chg hN5.chg)
 have hC := hC.trans hN5.chg (Ok.nil _ _)
 have hE6 : ∀ j v, (cA .u8 8 a1)[j]? = some v → w3.cell? ⟨g4, 0 + j, none⟩ = some v := Box.cells (New.box hN5)
 refine seg ha 1 [(0, .slice ao1 a0.length cap1), (3, .pointer (some ⟨g4, 0, none⟩))] (by kernel_rfl) fun a ha => ?_
 refine hK2 _ _ ?_; try clear hK2 K2
 refine wp_seq_k fun K8 hK8 => ?_
 refine wp_seq_k fun K9 hK9 => ?_
 refine wp_region_lit ?_
 refine seg ha 3 [(0, .slice ao1 a0.length cap1), (3, .pointer (some ⟨g4, 0, none⟩)), (7, .int .i64 (a0.length : Int)), (8, .int .i64 (0 : Int))] (by kernel_rfl) fun a ha => ?_
 refine hK9 _ _ ?_; try clear hK9 K9
 refine wp_block ?_
 obtain ⟨s10, H10, H⟩ := bind_some H
 have J10 : ∀ s10' (a : Act) (wx10 : World), s10 = .inr s10' → Has a Tryz.f85.ntmps [] → (Chg [] w wx10) → (MS (M) wx10) → K8 a wx10 := by
  intro s10' a wx10 hs ha hC hM
  subst hs
  refine hK8 _ _ ?_; try clear hK8 K8
  refine wp_seq_k fun K12 hK12 => ?_
  refine wp_region_lit ?_
  refine seg ha 1 [(4, .int .i64 (-1 : Int))] (by kernel_rfl) fun a ha => ?_
  refine hK12 _ _ ?_; try clear hK12 K12
  refine wp_ret ?_
  try simp only [Exit.then, Exit.inBlock]
  obtain rfl := Option.some.inj H
  refine rt1 ha rfl rfl ?_
  exact ⟨rfl, hC, hM⟩
 have Hc10 := H
 have H := H10
 refine wp_loop_ghost (fun kk a w10 => ∃ (x11 : Int), slices_Index_Ext.l0 a0 a1 kk x11 = some s10 ∧ Has a Tryz.f85.ntmps [(0, .slice ao1 a0.length cap1), (3, .pointer (some ⟨g4, 0, none⟩)), (7, .int .i64 (a0.length : Int)), (8, .int .i64 x11)] ∧ (RSl (rArr .u8 8) 27 w10 (M) ao1 cap1 a0) ∧ (∀ j v, (cA .u8 8 a1)[j]? = some v → w10.cell? ⟨g4, 0 + j, none⟩ = some v) ∧ (g4 ∉ (M)) ∧ (Chg [] w w10) ∧ (MS (M) w10)) k ?_ ?_
 ·skip
  exact ⟨(0 : Int), H, (ha.sel (by kernel_rfl)), f1, hE6, hn7, hC, hM⟩
 ·rintro kk a w10 ⟨x11, H, ha, f1, hE6, hn7, hC, hM⟩
  obtain _ | kk := kk
  ·exact nomatch (show none = some _ from H)
  rw [slices_Index_Ext.l0] at H
  refine wp_seq_k fun K13 hK13 => ?_
  refine wp_region_lit ?_
  refine seg ha 1 [(0, .slice ao1 a0.length cap1), (3, .pointer (some ⟨g4, 0, none⟩)), (7, .int .i64 (a0.length : Int)), (8, .int .i64 x11), (9, .bool (decide (x11 < (a0.length : Int))))] (by kernel_rfl) fun a ha => ?_
  refine hK13 _ _ ?_; try clear hK13 K13
  refine wp_seq_k fun K14 hK14 => ?_
  refine cnd ha rfl (fun hc15 => ?_) (fun hc15 => ?_)
  ·have H := ite_t hc15 H
   refine wp_skip ?_
   refine hK14 _ _ ?_; try clear hK14 K14
   refine wp_seq_k fun K16 hK16 => ?_
   refine wp_block ?_
   refine wp_seq_k fun K17 hK17 => ?_
   refine wp_region_lit ?_
   refine seg ha 2 [(0, .slice ao1 a0.length cap1), (3, .pointer (some ⟨g4, 0, none⟩)), (5, .int .i64 x11), (7, .int .i64 (a0.length : Int)), (8, .int .i64 x11)] (by kernel_rfl) fun a ha => ?_
   refine hK17 _ _ ?_; try clear hK17 K17
   refine wp_seq_k fun K18 hK18 => ?_
   refine drq0 (fun w' => Chg [] w10 w') (by kernel_rfl) (by kernel_rfl) (fun _ h => h) ?_
   refine qv (v := .agg (cA .u8 8 a1).toArray) ha rfl rfl rfl (fun w' hs => ldA_run (cs := (cA .u8 8 a1)) ha rfl (by kernel_rfl) (cells_sub (fun j v hv => hs.keep (hE6 j v hv)) (all := (cA .u8 8 a1)) [] [] (by kernel_rfl))) fun a ha => ?_
   refine qp 0 (.slice ao1 a0.length cap1) ha rfl rfl rfl (by kernel_rfl) fun a ha => ?_
   refine qp 0 (.int .i64 x11) ha rfl rfl rfl (by kernel_rfl) fun a ha => ?_
   obtain ⟨⟨hx19, hx19'⟩, H⟩ := ite_some H
   obtain ⟨ge20, oe210, cs22, hx19eq, hn25, hR23, hE24⟩ := RSl.elem f1 (Int.toNat x11) (by omega)
   rw [rd_get] at hR23
   obtain rfl := hR23
   have hE24 : ∀ j v, (cA .u8 8 (rd a0 x11))[j]? = some v → w10.cell? ⟨ge20, (oe210 + (Int.toNat x11) * (rArr .u8 8).sz) + j, none⟩ = some v := hE24
   refine qv (v := .pointer (some ⟨ge20, (oe210 + (Int.toNat x11) * (rArr .u8 8).sz), none⟩)) ha rfl rfl rfl (fun w' hs => ix_run (r := (rArr .u8 8)) (T := 27) ha (by kernel_rfl) (by kernel_rfl) (by rfl) (by rfl) hx19eq hx19 hx19') fun a ha => ?_
   refine qv (v := .agg (cA .u8 8 (rd a0 x11)).toArray) ha rfl rfl rfl (fun w' hs => ldA_run (cs := (cA .u8 8 (rd a0 x11))) ha rfl (by kernel_rfl) (cells_sub (fun j v hv => hs.keep (hE24 j v hv)) (all := (cA .u8 8 (rd a0 x11))) [] [] (by kernel_rfl))) fun a ha => ?_
   refine qv (v := .bool (eqA 8 a1 (rd a0 x11))) ha rfl rfl rfl (fun w' hs => eqs_run (r := (eqA 8 a1 (rd a0 x11))) (m := 9) ha rfl rfl (by kernel_rfl) rfl (by kernel_rfl) w') fun a ha => ?_
   refine wpQuiet_nil ?_
   intro w26 hc27
   have o1 : Ok [] (M) w10.heap.size := Ok.nil _ _
   have o2 : Ok (M) (M) w10.heap.size := (Ok.refl _ _)
   have f1 := f1.chg hc27 o1 o2
   have q_hn7 : g4 ∉ M := fun h => (o2 g4 h).elim hn7 (fun h => absurd (lt_cell (hE6 0 _ rfl)) (Nat.not_lt.2 h))
   have hE6 : ∀ j v, (cA .u8 8 a1)[j]? = some v → w26.cell? ⟨g4, 0 + j, none⟩ = some v := fun j v hv => (cell_keep hc27 o1 hn7 (hE6 j v hv))
   have hn7 := q_hn7
   have q_hn25 : ge20 ∉ M := fun h => (o2 ge20 h).elim hn25 (fun h => absurd (lt_cell (hE24 0 _ rfl)) (Nat.not_lt.2 h))
   have hE24 : ∀ j v, (cA .u8 8 (rd a0 x11))[j]? = some v → w26.cell? ⟨ge20, (oe210 + (Int.toNat x11) * (rArr .u8 8).sz) + j, none⟩ = some v := fun j v hv => (cell_keep hc27 o1 hn25 (hE24 j v hv))
   have hn25 := q_hn25
   have hM : MS (M) w26 := (hM.chg hc27)
   have hC := hC.trans hc27 (Ok.nil _ _)
   refine wpl_end ?_
   refine hK18 _ _ ?_; try clear hK18 K18
   refine cnd ha rfl (fun hc28 => ?_) (fun hc28 => ?_)
   ·have H := ite_t hc28 H
    refine wp_seq_k fun K29 hK29 => ?_
    refine wp_region_lit ?_
    refine seg ha 2 [(4, .int .i64 x11)] (by kernel_rfl) fun a ha => ?_
    refine hK29 _ _ ?_; try clear hK29 K29
    refine wp_ret ?_
    try simp only [Exit.then, Exit.inBlock]
    obtain rfl := Option.some.inj H
    have H := (show some _ = some _ from Hc10)
    obtain rfl := Option.some.inj H
    refine rt1 ha rfl rfl ?_
    exact ⟨rfl, hC, hM⟩
   ·have H := ite_f hc28 H
    refine wp_skip ?_
    refine hK16 _ _ ?_; try clear hK16 K16
    refine wp_region_lit ?_
    refine seg ha 2 [(0, .slice ao1 a0.length cap1), (3, .pointer (some ⟨g4, 0, none⟩)), (7, .int .i64 (a0.length : Int)), (8, .int .i64 (IntKind.i64.wrap (x11 + (1 : Int))))] (by kernel_rfl) fun a ha => ?_
    exact ⟨kk, Nat.lt_succ_self _, ⟨IntKind.i64.wrap (x11 + (1 : Int)), H, (ha.sel (by kernel_rfl)), f1, hE6, hn7, hC, hM⟩⟩
  ·have H := ite_f hc15 H
   refine wp_exit ?_
   simp only [Exit.then, Exit.inBlock, ↓reduceIte, Nat.reduceEqDiff]
   obtain rfl := Option.some.inj H
   exact J10 _ _ _ rfl (ha.sel (by kernel_rfl)) hC hM
def slices_Contains_Ext.f (k : Nat) (a0 : List (List Int)) (a1 : List Int) : Option (Bool) := (slices_Index_Ext.f k a0 a1).bind fun t9 => some ((decide (t9 ≥ (0 : Int)) : Bool))
set_option maxRecDepth 100000 in
theorem slices_Contains_Ext.walk (w : World) (M : List Nat) (hM : MS M w) (a0 : List (List Int)) (ao1 : Option Addr) (cap1 : Nat) (f1 : RSl (rArr .u8 8) 27 w M ao1 cap1 a0) (a1 : List Int) (k : Nat) (r : Bool) (H : slices_Contains_Ext.f k a0 a1 = some r) :
    To Tryz.prog 53 [.slice ao1 a0.length cap1, .agg (cA .u8 8 a1).toArray] w fun v w' => v = .bool r ∧ Chg [] w w' ∧ MS (M) w' := by
 unfold slices_Contains_Ext.f at H
 refine ent Tryz.func53 rfl [(0, .slice ao1 a0.length cap1), (1, .agg (cA .u8 8 a1).toArray)] rfl (by rfl) fun a ha => ?_
 have hC : Chg [] w w := Chg.refl _ _
 refine wp_seq_k fun K2 hK2 => ?_
 refine wp_region_lit ?_
 refine bx (cs := (cA .u8 8 a1)) ha rfl rfl rfl rfl rfl fun a w3 g4 hN5 ha => ?_
 have hn7 := hN5.notin hM
 have o1 : Ok [] (M) w.heap.size := Ok.nil _ _
 have o2 : Ok (M) (M) w.heap.size := (Ok.refl _ _)
 have f1 := f1.chg hN5.chg o1 o2
 have hM : MS (M) w3 := (hM.chg hN5.chg)
 have hC := hC.trans hN5.chg (Ok.nil _ _)
 have hE6 : ∀ j v, (cA .u8 8 a1)[j]? = some v → w3.cell? ⟨g4, 0 + j, none⟩ = some v := Box.cells (New.box hN5)
 refine seg ha 1 [(0, .slice ao1 a0.length cap1), (3, .pointer (some ⟨g4, 0, none⟩))] (by kernel_rfl) fun a ha => ?_
 refine hK2 _ _ ?_; try clear hK2 K2
 refine wp_seq_k fun K8 hK8 => ?_
 refine wp_region_lit ?_
 refine seg ha 1 [(3, .pointer (some ⟨g4, 0, none⟩)), (5, .slice ao1 a0.length cap1)] (by kernel_rfl) fun a ha => ?_
 refine ldA (cs := (cA .u8 8 a1)) ha rfl (by kernel_rfl) rfl rfl rfl (cells_sub hE6 (all := (cA .u8 8 a1)) [] [] (by kernel_rfl)) fun a ha => ?_
 obtain ⟨t9, H9, H⟩ := bind_some H
 refine cl ha (by rfl) (by kernel_rfl) (by rfl) (by rfl) (by rfl) (slices_Index_Ext.walk w3 _ hM a0 ao1 cap1 f1 a1 k _ H9) ?_
 rintro _ w9 ⟨rfl, hc9, hMn⟩ a ha
 have o1 : Ok [] (M) w3.heap.size := Ok.nil _ _
 have o2 : Ok (M) (M) w3.heap.size := (Ok.refl _ _)
 have f1 := f1.chg hc9 o1 o2
 have hM : MS (M) w9 := (hM.chg hc9)
 have hC := hC.trans hc9 (Ok.nil _ _)
 refine seg ha 2 [(4, .bool (decide (t9 ≥ (0 : Int))))] (by kernel_rfl) fun a ha => ?_
 refine hK8 _ _ ?_; try clear hK8 K8
 refine wp_ret ?_
 try simp only [Exit.then, Exit.inBlock]
 obtain rfl := Option.some.inj H
 refine rt1 ha rfl rfl ?_
 exact ⟨rfl, hC, hM⟩
def community_Meet_1.f (k : Nat) (a0 : List Int) (a1 : List (List Int)) : Option (Bool) := ((community_Kind.f a0).bind fun t10 => (if (t10 == (1 : Int)) = true then (slices_Contains_Ext.f k a1 a0).bind fun t12 => some (t12 : Bool) else some (false : Bool))).bind fun s9 => some ((s9 : Bool))
set_option maxRecDepth 100000 in
theorem community_Meet_1.walk (w : World) (M : List Nat) (hM : MS M w) (a0 : List Int) (gp1 : Nat) (a1 : List (List Int)) (ao1 : Option Addr) (cap1 : Nat) (f1 : RSl (rArr .u8 8) 27 w M ao1 cap1 a1) (hBgp1 : Box w gp1 ([.slice ao1 a1.length cap1] : List Value)) (hg_gp1 : gp1 ∈ M) (k : Nat) (r : Bool) (H : community_Meet_1.f k a0 a1 = some r) :
    To Tryz.prog 52 [.agg (cA .u8 8 a0).toArray, .pointer (some ⟨gp1, 0, none⟩)] w fun v w' => v = .bool r ∧ Chg [] w w' ∧ MS (M) w' := by
 unfold community_Meet_1.f at H
 refine ent Tryz.func52 rfl [(0, .agg (cA .u8 8 a0).toArray), (1, .pointer (some ⟨gp1, 0, none⟩))] rfl (by rfl) fun a ha => ?_
 have hC : Chg [] w w := Chg.refl _ _
 refine wp_seq_k fun K2 hK2 => ?_
 refine wp_region_lit ?_
 refine bx (cs := (cA .u8 8 a0)) ha rfl rfl rfl rfl rfl fun a w3 g4 hN5 ha => ?_
 have hn7 := hN5.notin hM
 have o1 : Ok [] (M) w.heap.size := Ok.nil _ _
 have o2 : Ok (M) (M) w.heap.size := (Ok.refl _ _)
 have f1 := f1.chg hN5.chg o1 o2
 have hBgp1 := hBgp1.chg hN5.chg (fun h => nomatch h)
 have hM : MS (M) w3 := (hM.chg hN5.chg)
 have hC := hC.trans hN5.chg (Ok.nil _ _)
 have hE6 : ∀ j v, (cA .u8 8 a0)[j]? = some v → w3.cell? ⟨g4, 0 + j, none⟩ = some v := Box.cells (New.box hN5)
 refine seg ha 1 [(1, .pointer (some ⟨gp1, 0, none⟩)), (2, .pointer (some ⟨g4, 0, none⟩))] (by kernel_rfl) fun a ha => ?_
 refine hK2 _ _ ?_; try clear hK2 K2
 refine wp_seq_k fun K8 hK8 => ?_
 refine wp_region_lit ?_
 obtain ⟨s9, H9, H⟩ := bind_some H
 have J9 : ∀ (a : Act) (w9 : World), Has a Tryz.f52.ntmps [(3, .bool s9)] → (RSl (rArr .u8 8) 27 w9 (M) ao1 cap1 a1) → (Box w9 gp1 ([.slice ao1 a1.length cap1] : List Value)) → (Chg [] w w9) → (MS (M) w9) → K8 a w9 := by
  intro a w9 ha f1 hBgp1 hC hM
  refine hK8 _ _ ?_; try clear hK8 K8
  refine wp_ret ?_
  try simp only [Exit.then, Exit.inBlock]
  obtain rfl := Option.some.inj H
  refine rt1 ha rfl rfl ?_
  exact ⟨rfl, hC, hM⟩
 have H := H9
 refine ldA (cs := (cA .u8 8 a0)) ha rfl (by kernel_rfl) rfl rfl rfl (cells_sub hE6 (all := (cA .u8 8 a0)) [] [] (by kernel_rfl)) fun a ha => ?_
 obtain ⟨t10, H10, H⟩ := bind_some H
 refine cl ha (by rfl) (by kernel_rfl) (by rfl) (by rfl) (by rfl) (community_Kind.walk w3 _ hM a0 _ H10) ?_
 rintro _ w10 ⟨rfl, hc10, hMn⟩ a ha
 have o1 : Ok [] (M) w3.heap.size := Ok.nil _ _
 have o2 : Ok (M) (M) w3.heap.size := (Ok.refl _ _)
 have f1 := f1.chg hc10 o1 o2
 have hBgp1 := hBgp1.chg hc10 (fun h => nomatch h)
 have q_hn7 : g4 ∉ M := fun h => (o2 g4 h).elim hn7 (fun h => absurd (lt_cell (hE6 0 _ rfl)) (Nat.not_lt.2 h))
 have hE6 : ∀ j v, (cA .u8 8 a0)[j]? = some v → w10.cell? ⟨g4, 0 + j, none⟩ = some v := fun j v hv => (cell_keep hc10 o1 hn7 (hE6 j v hv))
 have hn7 := q_hn7
 have hM : MS (M) w10 := (hM.chg hc10)
 have hC := hC.trans hc10 (Ok.nil _ _)
 refine seg ha 2 [(7, .bool (t10 == (1 : Int))), (1, .pointer (some ⟨gp1, 0, none⟩)), (2, .pointer (some ⟨g4, 0, none⟩))] (by kernel_rfl) fun a ha => ?_
 rcases Bool.eq_false_or_eq_true (t10 == (1 : Int)) with hb11 | hb11
 ·have ha := ha.lit hb11
  have H := ite_t hb11 H
  refine ld (v := .slice ao1 a1.length cap1) ha rfl (by kernel_rfl) rfl rfl rfl (hBgp1.cell' (o := 0) rfl (by kernel_rfl)) fun a ha => ?_
  refine ldA (cs := (cA .u8 8 a0)) ha rfl (by kernel_rfl) rfl rfl rfl (cells_sub hE6 (all := (cA .u8 8 a0)) [] [] (by kernel_rfl)) fun a ha => ?_
  obtain ⟨t12, H12, H⟩ := bind_some H
  refine cl ha (by rfl) (by kernel_rfl) (by rfl) (by rfl) (by rfl) (slices_Contains_Ext.walk w10 _ hM a1 ao1 cap1 f1 a0 k _ H12) ?_
  rintro _ w12 ⟨rfl, hc12, hMn⟩ a ha
  have o1 : Ok [] (M) w10.heap.size := Ok.nil _ _
  have o2 : Ok (M) (M) w10.heap.size := (Ok.refl _ _)
  have f1 := f1.chg hc12 o1 o2
  have hBgp1 := hBgp1.chg hc12 (fun h => nomatch h)
  have hM : MS (M) w12 := (hM.chg hc12)
  have hC := hC.trans hc12 (Ok.nil _ _)
  refine sgh ha 2 [3, 0] [(3, .bool t12)] (by kernel_rfl) fun a ha => ?_
  obtain rfl := Option.some.inj H
  exact J9 _ _ (ha.sel (by kernel_rfl)) f1 hBgp1 hC hM
 ·have ha := ha.lit hb11
  have H := ite_f hb11 H
  refine sgh ha 5 [1, 1, 1, 4, 0] [(3, .bool false)] (by kernel_rfl) fun a ha => ?_
  obtain rfl := Option.some.inj H
  exact J9 _ _ (ha.sel (by kernel_rfl)) f1 hBgp1 hC hM
def slices_IndexFunc_Ext_community_Meet_1.l0 (k : Nat) (a0 : List (List Int)) (a2 : List (List Int)) : Nat → Int → Option ((Int) ⊕ (Unit))
  | 0, _ => none
  | kk + 1, x7 => (if (decide (x7 < (a0.length : Int))) = true then (if 0 ≤ x7 ∧ x7 < (a0.length : Int) then (community_Meet_1.f k (rd a0 x7) a2).bind fun t22 => (if t22 = true then some (.inl ((x7 : Int))) else slices_IndexFunc_Ext_community_Meet_1.l0 k a0 a2 kk (IntKind.i64.wrap (x7 + (1 : Int)))) else none) else some (.inr (() : Unit)))
def slices_IndexFunc_Ext_community_Meet_1.f (k : Nat) (a0 : List (List Int)) (a2 : List (List Int)) : Option (Int) := (slices_IndexFunc_Ext_community_Meet_1.l0 k a0 a2 k (0 : Int)).bind fun s6 => match s6 with | .inl r => some r | .inr s6' => some (((-1 : Int) : Int))
set_option maxRecDepth 100000 in
theorem slices_IndexFunc_Ext_community_Meet_1.walk (w : World) (M : List Nat) (hM : MS M w) (a0 : List (List Int)) (ao1 : Option Addr) (cap1 : Nat) (f1 : RSl (rArr .u8 8) 27 w M ao1 cap1 a0) (gp2 : Nat) (a2 : List (List Int)) (ao2 : Option Addr) (cap2 : Nat) (f2 : RSl (rArr .u8 8) 27 w M ao2 cap2 a2) (hBgp2 : Box w gp2 ([.slice ao2 a2.length cap2] : List Value)) (hg_gp2 : gp2 ∈ M) (k : Nat) (r : Int) (H : slices_IndexFunc_Ext_community_Meet_1.f k a0 a2 = some r) :
    To Tryz.prog 84 [.slice ao1 a0.length cap1, .func (.func 52) #[] #[.pointer (some ⟨gp2, 0, none⟩)]] w fun v w' => v = .int .i64 r ∧ Chg [] w w' ∧ MS (M) w' := by
 unfold slices_IndexFunc_Ext_community_Meet_1.f at H
 refine ent Tryz.func84 rfl [(0, .slice ao1 a0.length cap1), (1, .func (.func 52) #[] #[.pointer (some ⟨gp2, 0, none⟩)])] rfl (by rfl) fun a ha => ?_
 have hC : Chg [] w w := Chg.refl _ _
 refine wp_seq_k fun K3 hK3 => ?_
 refine wp_region_lit ?_
 refine seg ha 1 [(0, .slice ao1 a0.length cap1), (1, .func (.func 52) #[] #[.pointer (some ⟨gp2, 0, none⟩)])] (by kernel_rfl) fun a ha => ?_
 refine hK3 _ _ ?_; try clear hK3 K3
 refine wp_seq_k fun K4 hK4 => ?_
 refine wp_seq_k fun K5 hK5 => ?_
 refine wp_region_lit ?_
 refine seg ha 3 [(0, .slice ao1 a0.length cap1), (1, .func (.func 52) #[] #[.pointer (some ⟨gp2, 0, none⟩)]), (7, .int .i64 (a0.length : Int)), (8, .int .i64 (0 : Int))] (by kernel_rfl) fun a ha => ?_
 refine hK5 _ _ ?_; try clear hK5 K5
 refine wp_block ?_
 obtain ⟨s6, H6, H⟩ := bind_some H
 have J6 : ∀ s6' (a : Act) (wx6 : World), s6 = .inr s6' → Has a Tryz.f84.ntmps [] → (RSl (rArr .u8 8) 27 wx6 (M) ao2 cap2 a2) → (Box wx6 gp2 ([.slice ao2 a2.length cap2] : List Value)) → (Chg [] w wx6) → (MS (M) wx6) → K4 a wx6 := by
  intro s6' a wx6 hs ha f2 hBgp2 hC hM
  subst hs
  refine hK4 _ _ ?_; try clear hK4 K4
  refine wp_seq_k fun K8 hK8 => ?_
  refine wp_region_lit ?_
  refine seg ha 1 [(4, .int .i64 (-1 : Int))] (by kernel_rfl) fun a ha => ?_
  refine hK8 _ _ ?_; try clear hK8 K8
  refine wp_ret ?_
  try simp only [Exit.then, Exit.inBlock]
  obtain rfl := Option.some.inj H
  refine rt1 ha rfl rfl ?_
  exact ⟨rfl, hC, hM⟩
 have Hc6 := H
 have H := H6
 refine wp_loop_ghost (fun kk a w6 => ∃ (x7 : Int), slices_IndexFunc_Ext_community_Meet_1.l0 k a0 a2 kk x7 = some s6 ∧ Has a Tryz.f84.ntmps [(0, .slice ao1 a0.length cap1), (1, .func (.func 52) #[] #[.pointer (some ⟨gp2, 0, none⟩)]), (7, .int .i64 (a0.length : Int)), (8, .int .i64 x7)] ∧ (RSl (rArr .u8 8) 27 w6 (M) ao1 cap1 a0) ∧ (RSl (rArr .u8 8) 27 w6 (M) ao2 cap2 a2) ∧ (Box w6 gp2 ([.slice ao2 a2.length cap2] : List Value)) ∧ (Chg [] w w6) ∧ (MS (M) w6)) k ?_ ?_
 ·skip
  exact ⟨(0 : Int), H, (ha.sel (by kernel_rfl)), f1, f2, hBgp2, hC, hM⟩
 ·rintro kk a w6 ⟨x7, H, ha, f1, f2, hBgp2, hC, hM⟩
  obtain _ | kk := kk
  ·exact nomatch (show none = some _ from H)
  rw [slices_IndexFunc_Ext_community_Meet_1.l0] at H
  refine wp_seq_k fun K9 hK9 => ?_
  refine wp_region_lit ?_
  refine seg ha 1 [(0, .slice ao1 a0.length cap1), (1, .func (.func 52) #[] #[.pointer (some ⟨gp2, 0, none⟩)]), (7, .int .i64 (a0.length : Int)), (8, .int .i64 x7), (9, .bool (decide (x7 < (a0.length : Int))))] (by kernel_rfl) fun a ha => ?_
  refine hK9 _ _ ?_; try clear hK9 K9
  refine wp_seq_k fun K10 hK10 => ?_
  refine cnd ha rfl (fun hc11 => ?_) (fun hc11 => ?_)
  ·have H := ite_t hc11 H
   refine wp_skip ?_
   refine hK10 _ _ ?_; try clear hK10 K10
   refine wp_seq_k fun K12 hK12 => ?_
   refine wp_block ?_
   refine wp_seq_k fun K13 hK13 => ?_
   refine wp_region_lit ?_
   refine seg ha 2 [(0, .slice ao1 a0.length cap1), (1, .func (.func 52) #[] #[.pointer (some ⟨gp2, 0, none⟩)]), (5, .int .i64 x7), (7, .int .i64 (a0.length : Int)), (8, .int .i64 x7)] (by kernel_rfl) fun a ha => ?_
   refine hK13 _ _ ?_; try clear hK13 K13
   refine wp_seq_k fun K14 hK14 => ?_
   refine wp_region_lit ?_
   refine seg ha 3 [(0, .slice ao1 a0.length cap1), (1, .func (.func 52) #[] #[.pointer (some ⟨gp2, 0, none⟩)]), (5, .int .i64 x7), (7, .int .i64 (a0.length : Int)), (8, .int .i64 x7), (11, .func (.func 52) #[] #[.pointer (some ⟨gp2, 0, none⟩)]), (12, .slice ao1 a0.length cap1), (13, .int .i64 x7)] (by kernel_rfl) fun a ha => ?_
   obtain ⟨⟨hx15, hx15'⟩, H⟩ := ite_some H
   refine ix (r := (rArr .u8 8)) ha (by kernel_rfl) (by kernel_rfl) rfl rfl rfl rfl rfl f1 hx15 hx15' fun a ge16 oe17 cs18 hn21 hR19 hE20 ha => ?_
   rw [rd_get] at hR19
   obtain rfl := hR19
   have hE20 : ∀ j v, (cA .u8 8 (rd a0 x7))[j]? = some v → w6.cell? ⟨ge16, oe17 + j, none⟩ = some v := hE20
   refine ldA (cs := (cA .u8 8 (rd a0 x7))) ha rfl (by kernel_rfl) rfl rfl rfl (cells_sub hE20 (all := (cA .u8 8 (rd a0 x7))) [] [] (by kernel_rfl)) fun a ha => ?_
   obtain ⟨t22, H22, H⟩ := bind_some H
   refine clc (vals := [.agg (cA .u8 8 (rd a0 x7)).toArray]) (cs := #[.pointer (some ⟨gp2, 0, none⟩)]) ha (by rfl) (by rfl) (by kernel_rfl) (by rfl) (by rfl) (by rfl) (community_Meet_1.walk w6 _ hM (rd a0 x7) gp2 a2 ao2 cap2 f2 hBgp2 (hg_gp2) k _ H22) ?_
   rintro _ w22 ⟨rfl, hc22, hMn⟩ a ha
   have o1 : Ok [] (M) w6.heap.size := Ok.nil _ _
   have o2 : Ok (M) (M) w6.heap.size := (Ok.refl _ _)
   have f1 := f1.chg hc22 o1 o2
   have f2 := f2.chg hc22 o1 o2
   have hBgp2 := hBgp2.chg hc22 (fun h => nomatch h)
   have hM : MS (M) w22 := (hM.chg hc22)
   have hC := hC.trans hc22 (Ok.nil _ _)
   refine hK14 _ _ ?_; try clear hK14 K14
   refine cnd ha rfl (fun hc23 => ?_) (fun hc23 => ?_)
   ·have H := ite_t hc23 H
    refine wp_seq_k fun K24 hK24 => ?_
    refine wp_region_lit ?_
    refine seg ha 2 [(4, .int .i64 x7)] (by kernel_rfl) fun a ha => ?_
    refine hK24 _ _ ?_; try clear hK24 K24
    refine wp_ret ?_
    try simp only [Exit.then, Exit.inBlock]
    obtain rfl := Option.some.inj H
    have H := (show some _ = some _ from Hc6)
    obtain rfl := Option.some.inj H
    refine rt1 ha rfl rfl ?_
    exact ⟨rfl, hC, hM⟩
   ·have H := ite_f hc23 H
    refine wp_skip ?_
    refine hK12 _ _ ?_; try clear hK12 K12
    refine wp_region_lit ?_
    refine seg ha 2 [(0, .slice ao1 a0.length cap1), (1, .func (.func 52) #[] #[.pointer (some ⟨gp2, 0, none⟩)]), (7, .int .i64 (a0.length : Int)), (8, .int .i64 (IntKind.i64.wrap (x7 + (1 : Int))))] (by kernel_rfl) fun a ha => ?_
    exact ⟨kk, Nat.lt_succ_self _, ⟨IntKind.i64.wrap (x7 + (1 : Int)), H, (ha.sel (by kernel_rfl)), f1, f2, hBgp2, hC, hM⟩⟩
  ·have H := ite_f hc11 H
   refine wp_exit ?_
   simp only [Exit.then, Exit.inBlock, ↓reduceIte, Nat.reduceEqDiff]
   obtain rfl := Option.some.inj H
   exact J6 _ _ _ rfl (ha.sel (by kernel_rfl)) f2 hBgp2 hC hM
def slices_ContainsFunc_Ext_community_Meet_1.f (k : Nat) (a0 : List (List Int)) (a2 : List (List Int)) : Option (Bool) := (slices_IndexFunc_Ext_community_Meet_1.f k a0 a2).bind fun t5 => some ((decide (t5 ≥ (0 : Int)) : Bool))
set_option maxRecDepth 100000 in
theorem slices_ContainsFunc_Ext_community_Meet_1.walk (w : World) (M : List Nat) (hM : MS M w) (a0 : List (List Int)) (ao1 : Option Addr) (cap1 : Nat) (f1 : RSl (rArr .u8 8) 27 w M ao1 cap1 a0) (gp2 : Nat) (a2 : List (List Int)) (ao2 : Option Addr) (cap2 : Nat) (f2 : RSl (rArr .u8 8) 27 w M ao2 cap2 a2) (hBgp2 : Box w gp2 ([.slice ao2 a2.length cap2] : List Value)) (hg_gp2 : gp2 ∈ M) (k : Nat) (r : Bool) (H : slices_ContainsFunc_Ext_community_Meet_1.f k a0 a2 = some r) :
    To Tryz.prog 51 [.slice ao1 a0.length cap1, .func (.func 52) #[] #[.pointer (some ⟨gp2, 0, none⟩)]] w fun v w' => v = .bool r ∧ Chg [] w w' ∧ MS (M) w' := by
 unfold slices_ContainsFunc_Ext_community_Meet_1.f at H
 refine ent Tryz.func51 rfl [(0, .slice ao1 a0.length cap1), (1, .func (.func 52) #[] #[.pointer (some ⟨gp2, 0, none⟩)])] rfl (by rfl) fun a ha => ?_
 have hC : Chg [] w w := Chg.refl _ _
 refine wp_seq_k fun K3 hK3 => ?_
 refine wp_region_lit ?_
 refine seg ha 1 [(0, .slice ao1 a0.length cap1), (1, .func (.func 52) #[] #[.pointer (some ⟨gp2, 0, none⟩)])] (by kernel_rfl) fun a ha => ?_
 refine hK3 _ _ ?_; try clear hK3 K3
 refine wp_seq_k fun K4 hK4 => ?_
 refine wp_region_lit ?_
 refine seg ha 2 [(5, .slice ao1 a0.length cap1), (6, .func (.func 52) #[] #[.pointer (some ⟨gp2, 0, none⟩)])] (by kernel_rfl) fun a ha => ?_
 obtain ⟨t5, H5, H⟩ := bind_some H
 refine cl ha (by rfl) (by kernel_rfl) (by rfl) (by rfl) (by rfl) (slices_IndexFunc_Ext_community_Meet_1.walk w _ hM a0 ao1 cap1 f1 gp2 a2 ao2 cap2 f2 hBgp2 (hg_gp2) k _ H5) ?_
 rintro _ w5 ⟨rfl, hc5, hMn⟩ a ha
 have o1 : Ok [] (M) w.heap.size := Ok.nil _ _
 have o2 : Ok (M) (M) w.heap.size := (Ok.refl _ _)
 have f1 := f1.chg hc5 o1 o2
 have f2 := f2.chg hc5 o1 o2
 have hBgp2 := hBgp2.chg hc5 (fun h => nomatch h)
 have hM : MS (M) w5 := (hM.chg hc5)
 have hC := hC.trans hc5 (Ok.nil _ _)
 refine seg ha 2 [(4, .bool (decide (t5 ≥ (0 : Int))))] (by kernel_rfl) fun a ha => ?_
 refine hK4 _ _ ?_; try clear hK4 K4
 refine wp_ret ?_
 try simp only [Exit.then, Exit.inBlock]
 obtain rfl := Option.some.inj H
 refine rt1 ha rfl rfl ?_
 exact ⟨rfl, hC, hM⟩
def community_Meet.f (k : Nat) (a0 : List (List Int)) (a1 : List (List Int)) : Option (Bool) := (slices_ContainsFunc_Ext_community_Meet_1.f k a0 a1).bind fun t9 => some ((t9 : Bool))
set_option maxRecDepth 100000 in
theorem community_Meet.walk (w : World) (M : List Nat) (hM : MS M w) (a0 : List (List Int)) (ao1 : Option Addr) (cap1 : Nat) (f1 : RSl (rArr .u8 8) 27 w M ao1 cap1 a0) (a1 : List (List Int)) (ao2 : Option Addr) (cap2 : Nat) (f2 : RSl (rArr .u8 8) 27 w M ao2 cap2 a1) (k : Nat) (r : Bool) (H : community_Meet.f k a0 a1 = some r) :
    To Tryz.prog 16 [.slice ao1 a0.length cap1, .slice ao2 a1.length cap2] w fun v w' => v = .bool r ∧ Chg [] w w' ∧ MS (M) w' := by
 unfold community_Meet.f at H
 refine ent Tryz.func16 rfl [(0, .slice ao1 a0.length cap1), (1, .slice ao2 a1.length cap2)] rfl (by rfl) fun a ha => ?_
 have hC : Chg [] w w := Chg.refl _ _
 refine wp_seq_k fun K3 hK3 => ?_
 refine wp_region_lit ?_
 refine bx (cs := ([.slice ao2 a1.length cap2] : List Value)) ha rfl rfl rfl rfl rfl fun a w4 g5 hN6 ha => ?_
 have o1 : Ok [] (M) w.heap.size := Ok.nil _ _
 have o2 : Ok ([g5] ++ (M)) (M) w.heap.size := (Ok.app (hN6.ok _) (Ok.refl _ _))
 have f1 := f1.chg hN6.chg o1 o2
 have f2 := f2.chg hN6.chg o1 o2
 have p_i7_M : ∀ x ∈ [g5], x ∉ M := fun x hx hy => absurd (hM x (hy)) (Nat.not_lt.2 ((hN6.ge1) x hx))
 have e_i7 : ∀ x ∈ [g5], w.heap.size ≤ x := fun x hx => Nat.le_trans hC.size ((hN6.ge1) x hx)
 have hM : MS ([g5] ++ (M)) w4 := (MS.app hN6.ms (hM.chg hN6.chg))
 have hC := hC.trans hN6.chg (Ok.nil _ _)
 have hBg5 : Box w4 g5 ([.slice ao2 a1.length cap2] : List Value) := hN6.box
 refine seg ha 1 [(0, .slice ao1 a0.length cap1), (3, .pointer (some ⟨g5, 0, none⟩))] (by kernel_rfl) fun a ha => ?_
 refine hK3 _ _ ?_; try clear hK3 K3
 refine wp_seq_k fun K8 hK8 => ?_
 refine wp_region_lit ?_
 refine seg ha 1 [(3, .pointer (some ⟨g5, 0, none⟩)), (5, .slice ao1 a0.length cap1)] (by kernel_rfl) fun a ha => ?_
 refine opk (v := .func (.func 52) #[] #[.pointer (some ⟨g5, 0, none⟩)]) ha rfl rfl rfl rfl rfl (fun w => by kernel_rfl) fun a ha => ?_
 obtain ⟨t9, H9, H⟩ := bind_some H
 refine cl ha (by rfl) (by kernel_rfl) (by rfl) (by rfl) (by rfl) (slices_ContainsFunc_Ext_community_Meet_1.walk w4 _ hM a0 ao1 cap1 f1 g5 a1 ao2 cap2 f2 hBg5 (ml (List.mem_singleton.2 rfl)) k _ H9) ?_
 rintro _ w9 ⟨rfl, hc9, hMn⟩ a ha
 have o1 : Ok [] ([g5] ++ (M)) w4.heap.size := Ok.nil _ _
 have o2 : Ok ([g5] ++ (M)) ([g5] ++ (M)) w4.heap.size := (Ok.refl _ _)
 have f1 := f1.chg hc9 o1 o2
 have f2 := f2.chg hc9 o1 o2
 have hBg5 := hBg5.chg hc9 (fun h => nomatch h)
 have hM : MS ([g5] ++ (M)) w9 := (hM.chg hc9)
 have hC := hC.trans hc9 (Ok.nil _ _)
 refine seg ha 1 [(4, .bool t9)] (by kernel_rfl) fun a ha => ?_
 refine hK8 _ _ ?_; try clear hK8 K8
 refine wp_ret ?_
 try simp only [Exit.then, Exit.inBlock]
 have o1 : Ok [] ([g5] ++ (M)) w9.heap.size := Ok.nil _ _
 have o2 : Ok (M) ([g5] ++ (M)) w9.heap.size := (fun _ h => .inl (mr (h)))
 have f2 := f2.chg (Chg.refl [] _) o1 o2
 have hM : MS (M) w9 := (fun x h => hM.chg (Chg.refl [] _) x (mr (h)))
 obtain rfl := Option.some.inj H
 refine rt1 ha rfl rfl ?_
 exact ⟨rfl, hC, hM⟩
def vinerylaw04_small.f (k : Nat) : Option (Bool) := (community_Target.f k (0 : Int) (65000 : Int) (77 : Int)).bind fun t3 => (community_Import.f k (⟨(4 : Int), ([(10 : Int), (0 : Int), (0 : Int), (1 : Int), (0 : Int), (0 : Int), (0 : Int), (0 : Int), (0 : Int), (0 : Int), (0 : Int), (0 : Int), (0 : Int), (0 : Int), (0 : Int), (0 : Int)] : List Int)⟩ : S_api_Addr) (3 : Int)).bind fun t11 => (community_Source.f k (65000 : Int)).bind fun t19 => (community_Set.f ([t11.1, t3.1, t11.1] : List (List Int))).bind fun t32 => ((if (t3.2 == (0 : Int)) = true then (community_Text.f k t3.1).bind fun t40 => (if ((bstr t40).toList == (bstr ([114, 116, 58, 48, 58, 54, 53, 48, 48, 48, 58, 55, 55] : List UInt8)).toList) = true then (if (t11.2 == (0 : Int)) = true then (community_Text.f k t11.1).bind fun t44 => (if ((bstr t44).toList == (bstr ([105, 109, 112, 111, 114, 116, 58, 49, 48, 46, 48, 46, 48, 46, 49, 58, 51] : List UInt8)).toList) = true then (if (t19.2 == (0 : Int)) = true then (community_Text.f k t19.1).bind fun t48 => (if ((bstr t48).toList == (bstr ([115, 111, 117, 114, 99, 101, 58, 54, 53, 48, 48, 48] : List UInt8)).toList) = true then (if ((t32.length : Int) == (2 : Int)) = true then (if 0 ≤ (0 : Int) ∧ (0 : Int) < (t32.length : Int) then (if (eqA 8 (rd t32 (0 : Int)) t3.1) = true then (community_Meet.f k t32 ([t3.1] : List (List Int))).bind fun t66 => (if t66 = true then (community_Kind.f ([(0 : Int), (9 : Int), (0 : Int), (0 : Int), (0 : Int), (0 : Int), (0 : Int), (0 : Int)] : List Int)).bind fun t70 => some (t70 == (0 : Int) : Bool) else some (false : Bool)) else some (false : Bool)) else none) else some (false : Bool)) else some (false : Bool)) else some (false : Bool)) else some (false : Bool)) else some (false : Bool)) else some (false : Bool)) else some (false : Bool))).bind fun s37 => some ((s37 : Bool))
set_option maxRecDepth 100000 in
theorem vinerylaw04_small.walk (w : World) (M : List Nat) (hM : MS M w) (hG : GF w M)  (k : Nat) (r : Bool) (H : vinerylaw04_small.f k = some r) :
    To Tryz.prog 8 [] w fun v w' => v = .bool r ∧ Chg [] w w' ∧ MS (M) w' := by
 unfold vinerylaw04_small.f at H
 refine ent Tryz.func8 rfl [] rfl (by rfl) fun a ha => ?_
 have hC : Chg [] w w := Chg.refl _ _
 refine wp_seq_k fun K1 hK1 => ?_
 refine wp_region_lit ?_
 refine seg ha 1 [] (by kernel_rfl) fun a ha => ?_
 refine hK1 _ _ ?_; try clear hK1 K1
 refine wp_seq_k fun K2 hK2 => ?_
 refine wp_region_lit ?_
 obtain ⟨t3, H3, H⟩ := bind_some H
 refine cl ha (by rfl) (by kernel_rfl) (by rfl) (by rfl) (by rfl) (community_Target.walk w _ hM (0 : Int) (65000 : Int) (77 : Int) k _ H3) ?_
 rintro _ w3 ⟨rfl, hc3, hMn⟩ a ha
 have o1 : Ok [] (M) w.heap.size := Ok.nil _ _
 have o2 : Ok (M) (M) w.heap.size := (Ok.refl _ _)
 have hG := hG.chg hc3 o1 o2
 have hM : MS (M) w3 := (hM.chg hc3)
 have hC := hC.trans hc3 (Ok.nil _ _)
 refine seg ha 3 [(10, .agg (cA .u8 8 t3.1).toArray), (11, .int .i64 t3.2)] (by kernel_rfl) fun a ha => ?_
 refine al (cs := (cA .u8 8 (List.replicate 8 (0 : Int)))) (z := .agg (cA .u8 8 (List.replicate 8 (0 : Int))).toArray) ha (fun w => by kernel_rfl) rfl rfl rfl rfl fun a w4 g5 hN6 ha => ?_
 have o1 : Ok [] (M) w3.heap.size := Ok.nil _ _
 have o2 : Ok ([g5] ++ (M)) (M) w3.heap.size := (Ok.app (hN6.ok _) (Ok.refl _ _))
 have hG := hG.chg hN6.chg o1 o2
 have p_i7_M : ∀ x ∈ [g5], x ∉ M := fun x hx hy => absurd (hM x (hy)) (Nat.not_lt.2 ((hN6.ge1) x hx))
 have e_i7 : ∀ x ∈ [g5], w.heap.size ≤ x := fun x hx => Nat.le_trans hC.size ((hN6.ge1) x hx)
 have hM : MS ([g5] ++ (M)) w4 := (MS.app hN6.ms (hM.chg hN6.chg))
 have hC := hC.trans hN6.chg (Ok.nil _ _)
 have hBg5 : Box w4 g5 (cA .u8 8 (List.replicate 8 (0 : Int))) := hN6.box
 refine stA (l := (cA .u8 8 t3.1)) ha rfl rfl rfl (by kernel_rfl) rfl rfl hBg5 rfl fun a w8 ha hb2 hc9 _ => ?_
 have o1 : Ok [g5] ([g5] ++ (M)) w4.heap.size := (fun _ h => .inl (ml h))
 have o2 : Ok ([g5] ++ (M)) ([g5] ++ (M)) w4.heap.size := (Ok.refl _ _)
 have hG := hG.chg hc9 o1 o2
 have hM : MS ([g5] ++ (M)) w8 := (hM.chg hc9)
 have hC := hC.trans hc9 (fun x h => .inr (e_i7 x h))
 have hBg5 : Box w8 g5 (cA .u8 8 t3.1) := hb2
 refine seg ha 1 [(1, .pointer (some ⟨g5, 0, none⟩)), (2, .int .i64 t3.2)] (by kernel_rfl) fun a ha => ?_
 refine hK2 _ _ ?_; try clear hK2 K2
 refine wp_seq_k fun K10 hK10 => ?_
 refine wp_region_lit ?_
 refine opk (v := .agg (cA .u8 16 ([(10 : Int), (0 : Int), (0 : Int), (1 : Int), (0 : Int), (0 : Int), (0 : Int), (0 : Int), (0 : Int), (0 : Int), (0 : Int), (0 : Int), (0 : Int), (0 : Int), (0 : Int), (0 : Int)] : List Int)).toArray) ha rfl rfl rfl rfl rfl (fun w => by kernel_rfl) fun a ha => ?_
 refine opk (v := .agg (cS_api_Addr (⟨(4 : Int), ([(10 : Int), (0 : Int), (0 : Int), (1 : Int), (0 : Int), (0 : Int), (0 : Int), (0 : Int), (0 : Int), (0 : Int), (0 : Int), (0 : Int), (0 : Int), (0 : Int), (0 : Int), (0 : Int)] : List Int)⟩ : S_api_Addr)).toArray) ha rfl rfl rfl rfl rfl (fun w => by kernel_rfl) fun a ha => ?_
 obtain ⟨t11, H11, H⟩ := bind_some H
 refine cl ha (by rfl) (by kernel_rfl) (by rfl) (by rfl) (by rfl) (community_Import.walk w8 _ hM (⟨(4 : Int), ([(10 : Int), (0 : Int), (0 : Int), (1 : Int), (0 : Int), (0 : Int), (0 : Int), (0 : Int), (0 : Int), (0 : Int), (0 : Int), (0 : Int), (0 : Int), (0 : Int), (0 : Int), (0 : Int)] : List Int)⟩ : S_api_Addr) (3 : Int) k _ H11) ?_
 rintro _ w11 ⟨rfl, hc11, hMn⟩ a ha
 have o1 : Ok [] ([g5] ++ (M)) w8.heap.size := Ok.nil _ _
 have o2 : Ok ([g5] ++ (M)) ([g5] ++ (M)) w8.heap.size := (Ok.refl _ _)
 have hG := hG.chg hc11 o1 o2
 have hBg5 := hBg5.chg hc11 (fun h => nomatch h)
 have hM : MS ([g5] ++ (M)) w11 := (hM.chg hc11)
 have hC := hC.trans hc11 (Ok.nil _ _)
 refine seg ha 3 [(1, .pointer (some ⟨g5, 0, none⟩)), (2, .int .i64 t3.2), (16, .agg (cA .u8 8 t11.1).toArray), (17, .int .i64 t11.2)] (by kernel_rfl) fun a ha => ?_
 refine al (cs := (cA .u8 8 (List.replicate 8 (0 : Int)))) (z := .agg (cA .u8 8 (List.replicate 8 (0 : Int))).toArray) ha (fun w => by kernel_rfl) rfl rfl rfl rfl fun a w12 g13 hN14 ha => ?_
 have o1 : Ok [] ([g5] ++ (M)) w11.heap.size := Ok.nil _ _
 have o2 : Ok ([g13] ++ ([g5] ++ (M))) ([g5] ++ (M)) w11.heap.size := (Ok.app (hN14.ok _) (Ok.refl _ _))
 have hG := hG.chg hN14.chg o1 o2
 have hBg5 := hBg5.chg hN14.chg (fun h => nomatch h)
 have p_i15_i7 : ∀ x ∈ [g13], x ∉ ([g5]) := fun x hx hy => absurd (hM x (ml hy)) (Nat.not_lt.2 ((hN14.ge1) x hx))
 have p_i15_M : ∀ x ∈ [g13], x ∉ M := fun x hx hy => absurd (hM x (mr (hy))) (Nat.not_lt.2 ((hN14.ge1) x hx))
 have e_i15 : ∀ x ∈ [g13], w.heap.size ≤ x := fun x hx => Nat.le_trans hC.size ((hN14.ge1) x hx)
 have hM : MS ([g13] ++ ([g5] ++ (M))) w12 := (MS.app hN14.ms (hM.chg hN14.chg))
 have hC := hC.trans hN14.chg (Ok.nil _ _)
 have hBg13 : Box w12 g13 (cA .u8 8 (List.replicate 8 (0 : Int))) := hN14.box
 refine stA (l := (cA .u8 8 t11.1)) ha rfl rfl rfl (by kernel_rfl) rfl rfl hBg13 rfl fun a w16 ha hb2 hc17 _ => ?_
 have o1 : Ok [g13] ([g13] ++ ([g5] ++ (M))) w12.heap.size := (fun _ h => .inl (ml h))
 have o2 : Ok ([g13] ++ ([g5] ++ (M))) ([g13] ++ ([g5] ++ (M))) w12.heap.size := (Ok.refl _ _)
 have hG := hG.chg hc17 o1 o2
 have hBg5 := hBg5.chg hc17 ((fun x (hx : x ∈ [g5]) (hy : x ∈ [g13]) => p_i15_i7 x hy hx) g5 (by simp))
 have hM : MS ([g13] ++ ([g5] ++ (M))) w16 := (hM.chg hc17)
 have hC := hC.trans hc17 (fun x h => .inr (e_i15 x h))
 have hBg13 : Box w16 g13 (cA .u8 8 t11.1) := hb2
 refine seg ha 1 [(1, .pointer (some ⟨g5, 0, none⟩)), (2, .int .i64 t3.2), (3, .pointer (some ⟨g13, 0, none⟩)), (4, .int .i64 t11.2)] (by kernel_rfl) fun a ha => ?_
 refine hK10 _ _ ?_; try clear hK10 K10
 refine wp_seq_k fun K18 hK18 => ?_
 refine wp_region_lit ?_
 obtain ⟨t19, H19, H⟩ := bind_some H
 refine cl ha (by rfl) (by kernel_rfl) (by rfl) (by rfl) (by rfl) (community_Source.walk w16 _ hM (65000 : Int) k _ H19) ?_
 rintro _ w19 ⟨rfl, hc19, hMn⟩ a ha
 have o1 : Ok [] ([g13] ++ ([g5] ++ (M))) w16.heap.size := Ok.nil _ _
 have o2 : Ok ([g13] ++ ([g5] ++ (M))) ([g13] ++ ([g5] ++ (M))) w16.heap.size := (Ok.refl _ _)
 have hG := hG.chg hc19 o1 o2
 have hBg5 := hBg5.chg hc19 (fun h => nomatch h)
 have hBg13 := hBg13.chg hc19 (fun h => nomatch h)
 have hM : MS ([g13] ++ ([g5] ++ (M))) w19 := (hM.chg hc19)
 have hC := hC.trans hc19 (Ok.nil _ _)
 refine seg ha 3 [(1, .pointer (some ⟨g5, 0, none⟩)), (2, .int .i64 t3.2), (3, .pointer (some ⟨g13, 0, none⟩)), (4, .int .i64 t11.2), (20, .agg (cA .u8 8 t19.1).toArray), (21, .int .i64 t19.2)] (by kernel_rfl) fun a ha => ?_
 refine al (cs := (cA .u8 8 (List.replicate 8 (0 : Int)))) (z := .agg (cA .u8 8 (List.replicate 8 (0 : Int))).toArray) ha (fun w => by kernel_rfl) rfl rfl rfl rfl fun a w20 g21 hN22 ha => ?_
 have o1 : Ok [] ([g13] ++ ([g5] ++ (M))) w19.heap.size := Ok.nil _ _
 have o2 : Ok ([g21] ++ ([g13] ++ ([g5] ++ (M)))) ([g13] ++ ([g5] ++ (M))) w19.heap.size := (Ok.app (hN22.ok _) (Ok.refl _ _))
 have hG := hG.chg hN22.chg o1 o2
 have hBg5 := hBg5.chg hN22.chg (fun h => nomatch h)
 have hBg13 := hBg13.chg hN22.chg (fun h => nomatch h)
 have p_i23_i15 : ∀ x ∈ [g21], x ∉ ([g13]) := fun x hx hy => absurd (hM x (ml hy)) (Nat.not_lt.2 ((hN22.ge1) x hx))
 have p_i23_i7 : ∀ x ∈ [g21], x ∉ ([g5]) := fun x hx hy => absurd (hM x (mr (ml hy))) (Nat.not_lt.2 ((hN22.ge1) x hx))
 have p_i23_M : ∀ x ∈ [g21], x ∉ M := fun x hx hy => absurd (hM x (mr (mr (hy)))) (Nat.not_lt.2 ((hN22.ge1) x hx))
 have e_i23 : ∀ x ∈ [g21], w.heap.size ≤ x := fun x hx => Nat.le_trans hC.size ((hN22.ge1) x hx)
 have hM : MS ([g21] ++ ([g13] ++ ([g5] ++ (M)))) w20 := (MS.app hN22.ms (hM.chg hN22.chg))
 have hC := hC.trans hN22.chg (Ok.nil _ _)
 have hBg21 : Box w20 g21 (cA .u8 8 (List.replicate 8 (0 : Int))) := hN22.box
 refine stA (l := (cA .u8 8 t19.1)) ha rfl rfl rfl (by kernel_rfl) rfl rfl hBg21 rfl fun a w24 ha hb2 hc25 _ => ?_
 have o1 : Ok [g21] ([g21] ++ ([g13] ++ ([g5] ++ (M)))) w20.heap.size := (fun _ h => .inl (ml h))
 have o2 : Ok ([g21] ++ ([g13] ++ ([g5] ++ (M)))) ([g21] ++ ([g13] ++ ([g5] ++ (M)))) w20.heap.size := (Ok.refl _ _)
 have hG := hG.chg hc25 o1 o2
 have hBg5 := hBg5.chg hc25 ((fun x (hx : x ∈ [g5]) (hy : x ∈ [g21]) => p_i23_i7 x hy hx) g5 (by simp))
 have hBg13 := hBg13.chg hc25 ((fun x (hx : x ∈ [g13]) (hy : x ∈ [g21]) => p_i23_i15 x hy hx) g13 (by simp))
 have hM : MS ([g21] ++ ([g13] ++ ([g5] ++ (M)))) w24 := (hM.chg hc25)
 have hC := hC.trans hc25 (fun x h => .inr (e_i23 x h))
 have hBg21 : Box w24 g21 (cA .u8 8 t19.1) := hb2
 refine seg ha 1 [(1, .pointer (some ⟨g5, 0, none⟩)), (2, .int .i64 t3.2), (3, .pointer (some ⟨g13, 0, none⟩)), (4, .int .i64 t11.2), (5, .pointer (some ⟨g21, 0, none⟩)), (6, .int .i64 t19.2)] (by kernel_rfl) fun a ha => ?_
 refine hK18 _ _ ?_; try clear hK18 K18
 refine wp_seq_k fun K26 hK26 => ?_
 refine wp_region_lit ?_
 refine ldA (cs := (cA .u8 8 t11.1)) ha rfl (by kernel_rfl) rfl rfl rfl (cells_sub (Box.cells hBg13) (all := (cA .u8 8 t11.1)) [] [] (by kernel_rfl)) fun a ha => ?_
 refine ldA (cs := (cA .u8 8 t3.1)) ha rfl (by kernel_rfl) rfl rfl rfl (cells_sub (Box.cells hBg5) (all := (cA .u8 8 t3.1)) [] [] (by kernel_rfl)) fun a ha => ?_
 refine ldA (cs := (cA .u8 8 t11.1)) ha rfl (by kernel_rfl) rfl rfl rfl (cells_sub (Box.cells hBg13) (all := (cA .u8 8 t11.1)) [] [] (by kernel_rfl)) fun a ha => ?_
 refine bslA (vals := ([.agg (cA .u8 8 t11.1).toArray, .agg (cA .u8 8 t3.1).toArray, .agg (cA .u8 8 t11.1).toArray] : List Value)) (T := 27) (z := .agg (cA .u8 8 (List.replicate 8 (0 : Int))).toArray) ha rfl (by kernel_rfl) rfl (by kernel_rfl) (s := 8) (by kernel_rfl) rfl rfl (fun w => by kernel_rfl) (by kernel_rfl) rfl rfl rfl fun a w27 g28 hN29 ha => ?_
 have hN29 := (show New _ _ _ (.cells (((cA .u8 8 t11.1) ++ ((cA .u8 8 t3.1) ++ ((cA .u8 8 t11.1) ++ ([] : List Value))))).toArray 27 (0, 0)) from hN29)
 have o1 : Ok [] ([g21] ++ ([g13] ++ ([g5] ++ (M)))) w24.heap.size := Ok.nil _ _
 have o2 : Ok ([g28] ++ ([g21] ++ ([g13] ++ ([g5] ++ (M))))) ([g21] ++ ([g13] ++ ([g5] ++ (M)))) w24.heap.size := (Ok.app (hN29.ok _) (Ok.refl _ _))
 have hG := hG.chg hN29.chg o1 o2
 have hBg5 := hBg5.chg hN29.chg (fun h => nomatch h)
 have hBg13 := hBg13.chg hN29.chg (fun h => nomatch h)
 have hBg21 := hBg21.chg hN29.chg (fun h => nomatch h)
 have p_i30_i23 : ∀ x ∈ [g28], x ∉ ([g21]) := fun x hx hy => absurd (hM x (ml hy)) (Nat.not_lt.2 ((hN29.ge1) x hx))
 have p_i30_i15 : ∀ x ∈ [g28], x ∉ ([g13]) := fun x hx hy => absurd (hM x (mr (ml hy))) (Nat.not_lt.2 ((hN29.ge1) x hx))
 have p_i30_i7 : ∀ x ∈ [g28], x ∉ ([g5]) := fun x hx hy => absurd (hM x (mr (mr (ml hy)))) (Nat.not_lt.2 ((hN29.ge1) x hx))
 have p_i30_M : ∀ x ∈ [g28], x ∉ M := fun x hx hy => absurd (hM x (mr (mr (mr (hy))))) (Nat.not_lt.2 ((hN29.ge1) x hx))
 have e_i30 : ∀ x ∈ [g28], w.heap.size ≤ x := fun x hx => Nat.le_trans hC.size ((hN29.ge1) x hx)
 have hM : MS ([g28] ++ ([g21] ++ ([g13] ++ ([g5] ++ (M))))) w27 := (MS.app hN29.ms (hM.chg hN29.chg))
 have hC := hC.trans hN29.chg (Ok.nil _ _)
 have f31 : Own (rArr .u8 8) 27 w27 ([g28] ++ ([g21] ++ ([g13] ++ ([g5] ++ (M))))) (some ⟨g28, 0, none⟩) 3 ([t11.1, t3.1, t11.1] : List (List Int)) := hN29.own ⟨(cA .u8 8 t11.1), _, rfl, rfl, ⟨(cA .u8 8 t3.1), _, rfl, rfl, ⟨(cA .u8 8 t11.1), _, rfl, rfl, rfl⟩⟩⟩ (Nat.le_of_ble_eq_true rfl)
 have hML : MS ([g21] ++ ([g13] ++ ([g5] ++ (M)))) w27 := MS.rest hM (fun _ h => (List.mem_append.1 h).elim (fun h => mr (ml h)) (fun h => (List.mem_append.1 h).elim (fun h => mr (mr (ml h))) (fun h => (List.mem_append.1 h).elim (fun h => mr (mr (mr (ml h)))) (fun h => mr (mr (mr (mr (h))))))))
 have oL : Ok ([g21] ++ ([g13] ++ ([g5] ++ (M)))) ([g28] ++ ([g21] ++ ([g13] ++ ([g5] ++ (M))))) w27.heap.size := (fun _ h => .inl (mr (h)))
 obtain ⟨t32, H32, H⟩ := bind_some H
 refine cl ha (by rfl) (by kernel_rfl) (by rfl) (by rfl) (by rfl) (community_Set.walk w27 _ hML ([t11.1, t3.1, t11.1] : List (List Int)) (some ⟨g28, 0, none⟩) 3 (Own.toRSl (M' := [g21] ++ ([g13] ++ ([g5] ++ (M)))) f31 oL (fun x hx hm => (List.mem_append.1 hm).elim (fun h => p_i30_i23 x hx h) (fun h => (List.mem_append.1 h).elim (fun h => p_i30_i15 x hx h) (fun h => (List.mem_append.1 h).elim (fun h => p_i30_i7 x hx h) (fun h => p_i30_M x hx h))))) _ H32) ?_
 rintro _ w32 ⟨ao33, cap33, rfl, f33, ne_i33, hc32, hMn⟩ a ha
 have o1 : Ok [] ([g28] ++ ([g21] ++ ([g13] ++ ([g5] ++ (M))))) w27.heap.size := Ok.nil _ _
 have o2 : Ok (blkL ao33 ++ ([g28] ++ ([g21] ++ ([g13] ++ ([g5] ++ (M)))))) ([g28] ++ ([g21] ++ ([g13] ++ ([g5] ++ (M))))) w27.heap.size := (Ok.app (fun x h => .inr (ne_i33 x h)) (Ok.refl _ _))
 have hG := hG.chg hc32 o1 o2
 have f31 := f31.chg hc32 o1 o2 (fun _ _ h => nomatch h) (fun _ h => mr (ml h))
 have hBg5 := hBg5.chg hc32 (fun h => nomatch h)
 have hBg13 := hBg13.chg hc32 (fun h => nomatch h)
 have hBg21 := hBg21.chg hc32 (fun h => nomatch h)
 have p_i33_i30 : ∀ x ∈ blkL ao33, x ∉ ([g28]) := fun x hx hy => absurd (hM x (ml hy)) (Nat.not_lt.2 (ne_i33 x hx))
 have p_i33_i23 : ∀ x ∈ blkL ao33, x ∉ ([g21]) := fun x hx hy => absurd (hM x (mr (ml hy))) (Nat.not_lt.2 (ne_i33 x hx))
 have p_i33_i15 : ∀ x ∈ blkL ao33, x ∉ ([g13]) := fun x hx hy => absurd (hM x (mr (mr (ml hy)))) (Nat.not_lt.2 (ne_i33 x hx))
 have p_i33_i7 : ∀ x ∈ blkL ao33, x ∉ ([g5]) := fun x hx hy => absurd (hM x (mr (mr (mr (ml hy))))) (Nat.not_lt.2 (ne_i33 x hx))
 have p_i33_M : ∀ x ∈ blkL ao33, x ∉ M := fun x hx hy => absurd (hM x (mr (mr (mr (mr (hy)))))) (Nat.not_lt.2 (ne_i33 x hx))
 have e_i33 : ∀ x ∈ blkL ao33, w.heap.size ≤ x := fun x hx => Nat.le_trans hC.size (ne_i33 x hx)
 have hM : MS (blkL ao33 ++ ([g28] ++ ([g21] ++ ([g13] ++ ([g5] ++ (M)))))) w32 := (MS.app (fun x h => hMn x (ml h)) (hM.chg hc32))
 have hC := hC.trans hc32 (Ok.nil _ _)
 have f33 := Own.re (M' := blkL ao33 ++ ([g28] ++ ([g21] ++ ([g13] ++ ([g5] ++ (M)))))) (fun _ _ _ _ _ h => h) f33 (fun _ h => ml h)
 refine seg ha 1 [(1, .pointer (some ⟨g5, 0, none⟩)), (2, .int .i64 t3.2), (3, .pointer (some ⟨g13, 0, none⟩)), (4, .int .i64 t11.2), (5, .pointer (some ⟨g21, 0, none⟩)), (6, .int .i64 t19.2), (7, .slice ao33 t32.length cap33)] (by kernel_rfl) fun a ha => ?_
 refine hK26 _ _ ?_; try clear hK26 K26
 refine wp_seq_k fun K34 hK34 => ?_
 have okS : Ok [] (blkL ao33 ++ ([g28] ++ ([g21] ++ ([g13] ++ ([g5] ++ (M)))))) w32.heap.size := Ok.nil _ _
 have z_f33 := (Own.toRSl (M' := []) f33 (Ok.nil _ _) (fun _ _ h => nomatch h))
 have z_hBg5 := hBg5
 have z_hBg13 := hBg13
 have z_hBg21 := hBg21
 refine drw (fun w' => Chg [] w32 w') (by kernel_rfl) fun w35 hc36 _ => ?_
 have hS : Chg [] w32 w35 := (Chg.refl [] _).trans hc36 (Ok.nil _ _)
 have o1 : Ok [] (blkL ao33 ++ ([g28] ++ ([g21] ++ ([g13] ++ ([g5] ++ (M)))))) w32.heap.size := Ok.nil _ _
 have o2 : Ok (blkL ao33 ++ ([g28] ++ ([g21] ++ ([g13] ++ ([g5] ++ (M)))))) (blkL ao33 ++ ([g28] ++ ([g21] ++ ([g13] ++ ([g5] ++ (M)))))) w32.heap.size := (Ok.refl _ _)
 have hG := hG.chg hc36 o1 o2
 have f33 := f33.chg hc36 o1 o2 (fun _ _ h => nomatch h) (fun _ h => ml h)
 have hBg5 := hBg5.chg hc36 (fun h => nomatch h)
 have hBg13 := hBg13.chg hc36 (fun h => nomatch h)
 have hBg21 := hBg21.chg hc36 (fun h => nomatch h)
 have hM : MS (blkL ao33 ++ ([g28] ++ ([g21] ++ ([g13] ++ ([g5] ++ (M)))))) w35 := (hM.chg hc36)
 have hC := hC.trans hc36 (Ok.nil _ _)
 obtain ⟨s37, H37, H⟩ := bind_some H
 have J37 : ∀ (a : Act) (w37 : World), Has a Tryz.f8.ntmps [(0, .bool s37)] → (Box w37 g5 (cA .u8 8 t3.1)) → (Box w37 g13 (cA .u8 8 t11.1)) → (Box w37 g21 (cA .u8 8 t19.1)) → (GF w37 ([g21] ++ ([g13] ++ ([g5] ++ (M))))) → (Chg [] w w37) → (MS ([g21] ++ ([g13] ++ ([g5] ++ (M)))) w37) → K34 a w37 := by
  intro a w37 ha hBg5 hBg13 hBg21 hG hC hM
  refine hK34 _ _ ?_; try clear hK34 K34
  refine wp_ret ?_
  try simp only [Exit.then, Exit.inBlock]
  have o1 : Ok [] ([g21] ++ ([g13] ++ ([g5] ++ (M)))) w37.heap.size := Ok.nil _ _
  have o2 : Ok (M) ([g21] ++ ([g13] ++ ([g5] ++ (M)))) w37.heap.size := (fun _ h => .inl (mr (mr (mr (h)))))
  have hG := hG.chg (Chg.refl [] _) o1 o2
  have hM : MS (M) w37 := (fun x h => hM.chg (Chg.refl [] _) x (mr (mr (mr (h)))))
  obtain rfl := Option.some.inj H
  refine rt1 ha rfl rfl ?_
  exact ⟨rfl, hC, hM⟩
 have H := H37
 refine tkpz 0 0 (.int .i64 t3.2) ha (s := hS) (q := fun a ha => ?_)
 refine tkpz 1 0 (.bool (t3.2 == (0 : Int))) ha (s := hS) (q := fun a ha => ?_)
 refine tkpz 2 0 (.bool (t3.2 == (0 : Int))) ha (s := hS) (q := fun a ha => ?_)
 have ha := ha.sel (env' := [(29, .bool (t3.2 == (0 : Int))), (1, .pointer (some ⟨g5, 0, none⟩)), (3, .pointer (some ⟨g13, 0, none⟩)), (4, .int .i64 t11.2), (5, .pointer (some ⟨g21, 0, none⟩)), (6, .int .i64 t19.2), (7, .slice ao33 t32.length cap33)]) (by kernel_rfl)
 rcases Bool.eq_false_or_eq_true (t3.2 == (0 : Int)) with hb38 | hb38
 ·have ha := ha.lit hb38
  have H := ite_t hb38 H
  refine tkz 3 ha (v := .agg (cA .u8 8 t3.1).toArray) (y := fun w' hs => ldA_run (cs := (cA .u8 8 t3.1)) ha rfl (by kernel_rfl) (cells_sub (Box.cells (Box.chg z_hBg5 hs (fun h => nomatch h))) (all := (cA .u8 8 t3.1)) [] [] (by kernel_rfl))) (s := hS) (q := fun a ha => ?_)
  refine ac 4 (by kernel_rfl) (by rfl) fun K39 hK39 => ?_
  obtain ⟨t40, H40, H⟩ := bind_some H
  refine cl ha (by rfl) (by kernel_rfl) (by rfl) (by rfl) (by rfl) (community_Text.walk w35 _ hM hG t3.1 k _ H40) ?_
  rintro _ w40 ⟨rfl, hc40, hMn⟩ a ha
  have o1 : Ok [] (blkL ao33 ++ ([g28] ++ ([g21] ++ ([g13] ++ ([g5] ++ (M)))))) w35.heap.size := Ok.nil _ _
  have o2 : Ok (blkL ao33 ++ ([g28] ++ ([g21] ++ ([g13] ++ ([g5] ++ (M)))))) (blkL ao33 ++ ([g28] ++ ([g21] ++ ([g13] ++ ([g5] ++ (M)))))) w35.heap.size := (Ok.refl _ _)
  have hG := hG.chg hc40 o1 o2
  have f33 := f33.chg hc40 o1 o2 (fun _ _ h => nomatch h) (fun _ h => ml h)
  have hBg5 := hBg5.chg hc40 (fun h => nomatch h)
  have hBg13 := hBg13.chg hc40 (fun h => nomatch h)
  have hBg21 := hBg21.chg hc40 (fun h => nomatch h)
  have hM : MS (blkL ao33 ++ ([g28] ++ ([g21] ++ ([g13] ++ ([g5] ++ (M)))))) w40 := (hM.chg hc40)
  have hC := hC.trans hc40 (Ok.nil _ _)
  have hS := hS.trans hc40 (Ok.nil _ _)
  refine ae hK39 hS ?_; clear hK39 K39
  refine tkpz 5 0 (.bool ((bstr t40).toList == (bstr ([114, 116, 58, 48, 58, 54, 53, 48, 48, 48, 58, 55, 55] : List UInt8)).toList)) ha (s := hS) (q := fun a ha => ?_)
  refine tkpz 6 3 (.bool ((bstr t40).toList == (bstr ([114, 116, 58, 48, 58, 54, 53, 48, 48, 48, 58, 55, 55] : List UInt8)).toList)) ha (s := hS) (q := fun a ha => ?_)
  refine tkpz 7 0 (.bool ((bstr t40).toList == (bstr ([114, 116, 58, 48, 58, 54, 53, 48, 48, 48, 58, 55, 55] : List UInt8)).toList)) ha (s := hS) (q := fun a ha => ?_)
  have ha := ha.sel (env' := [(34, .bool ((bstr t40).toList == (bstr ([114, 116, 58, 48, 58, 54, 53, 48, 48, 48, 58, 55, 55] : List UInt8)).toList)), (1, .pointer (some ⟨g5, 0, none⟩)), (3, .pointer (some ⟨g13, 0, none⟩)), (4, .int .i64 t11.2), (5, .pointer (some ⟨g21, 0, none⟩)), (6, .int .i64 t19.2), (7, .slice ao33 t32.length cap33)]) (by kernel_rfl)
  rcases Bool.eq_false_or_eq_true ((bstr t40).toList == (bstr ([114, 116, 58, 48, 58, 54, 53, 48, 48, 48, 58, 55, 55] : List UInt8)).toList) with hb41 | hb41
  ·have ha := ha.lit hb41
   have H := ite_t hb41 H
   refine tkpz 8 0 (.int .i64 t11.2) ha (s := hS) (q := fun a ha => ?_)
   refine tkpz 9 0 (.bool (t11.2 == (0 : Int))) ha (s := hS) (q := fun a ha => ?_)
   refine tkpz 10 3 (.bool (t11.2 == (0 : Int))) ha (s := hS) (q := fun a ha => ?_)
   refine tkpz 11 0 (.bool (t11.2 == (0 : Int))) ha (s := hS) (q := fun a ha => ?_)
   have ha := ha.sel (env' := [(38, .bool (t11.2 == (0 : Int))), (1, .pointer (some ⟨g5, 0, none⟩)), (3, .pointer (some ⟨g13, 0, none⟩)), (5, .pointer (some ⟨g21, 0, none⟩)), (6, .int .i64 t19.2), (7, .slice ao33 t32.length cap33)]) (by kernel_rfl)
   rcases Bool.eq_false_or_eq_true (t11.2 == (0 : Int)) with hb42 | hb42
   ·have ha := ha.lit hb42
    have H := ite_t hb42 H
    refine tkz 12 ha (v := .agg (cA .u8 8 t11.1).toArray) (y := fun w' hs => ldA_run (cs := (cA .u8 8 t11.1)) ha rfl (by kernel_rfl) (cells_sub (Box.cells (Box.chg z_hBg13 hs (fun h => nomatch h))) (all := (cA .u8 8 t11.1)) [] [] (by kernel_rfl))) (s := hS) (q := fun a ha => ?_)
    refine ac 13 (by kernel_rfl) (by rfl) fun K43 hK43 => ?_
    obtain ⟨t44, H44, H⟩ := bind_some H
    refine cl ha (by rfl) (by kernel_rfl) (by rfl) (by rfl) (by rfl) (community_Text.walk w40 _ hM hG t11.1 k _ H44) ?_
    rintro _ w44 ⟨rfl, hc44, hMn⟩ a ha
    have o1 : Ok [] (blkL ao33 ++ ([g28] ++ ([g21] ++ ([g13] ++ ([g5] ++ (M)))))) w40.heap.size := Ok.nil _ _
    have o2 : Ok (blkL ao33 ++ ([g28] ++ ([g21] ++ ([g13] ++ ([g5] ++ (M)))))) (blkL ao33 ++ ([g28] ++ ([g21] ++ ([g13] ++ ([g5] ++ (M)))))) w40.heap.size := (Ok.refl _ _)
    have hG := hG.chg hc44 o1 o2
    have f33 := f33.chg hc44 o1 o2 (fun _ _ h => nomatch h) (fun _ h => ml h)
    have hBg5 := hBg5.chg hc44 (fun h => nomatch h)
    have hBg13 := hBg13.chg hc44 (fun h => nomatch h)
    have hBg21 := hBg21.chg hc44 (fun h => nomatch h)
    have hM : MS (blkL ao33 ++ ([g28] ++ ([g21] ++ ([g13] ++ ([g5] ++ (M)))))) w44 := (hM.chg hc44)
    have hC := hC.trans hc44 (Ok.nil _ _)
    have hS := hS.trans hc44 (Ok.nil _ _)
    refine ae hK43 hS ?_; clear hK43 K43
    refine tkpz 14 0 (.bool ((bstr t44).toList == (bstr ([105, 109, 112, 111, 114, 116, 58, 49, 48, 46, 48, 46, 48, 46, 49, 58, 51] : List UInt8)).toList)) ha (s := hS) (q := fun a ha => ?_)
    refine tkpz 15 3 (.bool ((bstr t44).toList == (bstr ([105, 109, 112, 111, 114, 116, 58, 49, 48, 46, 48, 46, 48, 46, 49, 58, 51] : List UInt8)).toList)) ha (s := hS) (q := fun a ha => ?_)
    refine tkpz 16 0 (.bool ((bstr t44).toList == (bstr ([105, 109, 112, 111, 114, 116, 58, 49, 48, 46, 48, 46, 48, 46, 49, 58, 51] : List UInt8)).toList)) ha (s := hS) (q := fun a ha => ?_)
    have ha := ha.sel (env' := [(43, .bool ((bstr t44).toList == (bstr ([105, 109, 112, 111, 114, 116, 58, 49, 48, 46, 48, 46, 48, 46, 49, 58, 51] : List UInt8)).toList)), (1, .pointer (some ⟨g5, 0, none⟩)), (5, .pointer (some ⟨g21, 0, none⟩)), (6, .int .i64 t19.2), (7, .slice ao33 t32.length cap33)]) (by kernel_rfl)
    rcases Bool.eq_false_or_eq_true ((bstr t44).toList == (bstr ([105, 109, 112, 111, 114, 116, 58, 49, 48, 46, 48, 46, 48, 46, 49, 58, 51] : List UInt8)).toList) with hb45 | hb45
    ·have ha := ha.lit hb45
     have H := ite_t hb45 H
     refine tkpz 17 0 (.int .i64 t19.2) ha (s := hS) (q := fun a ha => ?_)
     refine tkpz 18 0 (.bool (t19.2 == (0 : Int))) ha (s := hS) (q := fun a ha => ?_)
     refine tkpz 19 3 (.bool (t19.2 == (0 : Int))) ha (s := hS) (q := fun a ha => ?_)
     refine tkpz 20 0 (.bool (t19.2 == (0 : Int))) ha (s := hS) (q := fun a ha => ?_)
     have ha := ha.sel (env' := [(47, .bool (t19.2 == (0 : Int))), (1, .pointer (some ⟨g5, 0, none⟩)), (5, .pointer (some ⟨g21, 0, none⟩)), (7, .slice ao33 t32.length cap33)]) (by kernel_rfl)
     rcases Bool.eq_false_or_eq_true (t19.2 == (0 : Int)) with hb46 | hb46
     ·have ha := ha.lit hb46
      have H := ite_t hb46 H
      refine tkz 21 ha (v := .agg (cA .u8 8 t19.1).toArray) (y := fun w' hs => ldA_run (cs := (cA .u8 8 t19.1)) ha rfl (by kernel_rfl) (cells_sub (Box.cells (Box.chg z_hBg21 hs (fun h => nomatch h))) (all := (cA .u8 8 t19.1)) [] [] (by kernel_rfl))) (s := hS) (q := fun a ha => ?_)
      refine ac 22 (by kernel_rfl) (by rfl) fun K47 hK47 => ?_
      obtain ⟨t48, H48, H⟩ := bind_some H
      refine cl ha (by rfl) (by kernel_rfl) (by rfl) (by rfl) (by rfl) (community_Text.walk w44 _ hM hG t19.1 k _ H48) ?_
      rintro _ w48 ⟨rfl, hc48, hMn⟩ a ha
      have o1 : Ok [] (blkL ao33 ++ ([g28] ++ ([g21] ++ ([g13] ++ ([g5] ++ (M)))))) w44.heap.size := Ok.nil _ _
      have o2 : Ok (blkL ao33 ++ ([g28] ++ ([g21] ++ ([g13] ++ ([g5] ++ (M)))))) (blkL ao33 ++ ([g28] ++ ([g21] ++ ([g13] ++ ([g5] ++ (M)))))) w44.heap.size := (Ok.refl _ _)
      have hG := hG.chg hc48 o1 o2
      have f33 := f33.chg hc48 o1 o2 (fun _ _ h => nomatch h) (fun _ h => ml h)
      have hBg5 := hBg5.chg hc48 (fun h => nomatch h)
      have hBg13 := hBg13.chg hc48 (fun h => nomatch h)
      have hBg21 := hBg21.chg hc48 (fun h => nomatch h)
      have hM : MS (blkL ao33 ++ ([g28] ++ ([g21] ++ ([g13] ++ ([g5] ++ (M)))))) w48 := (hM.chg hc48)
      have hC := hC.trans hc48 (Ok.nil _ _)
      have hS := hS.trans hc48 (Ok.nil _ _)
      refine ae hK47 hS ?_; clear hK47 K47
      refine tkpz 23 0 (.bool ((bstr t48).toList == (bstr ([115, 111, 117, 114, 99, 101, 58, 54, 53, 48, 48, 48] : List UInt8)).toList)) ha (s := hS) (q := fun a ha => ?_)
      refine tkpz 24 3 (.bool ((bstr t48).toList == (bstr ([115, 111, 117, 114, 99, 101, 58, 54, 53, 48, 48, 48] : List UInt8)).toList)) ha (s := hS) (q := fun a ha => ?_)
      refine tkpz 25 0 (.bool ((bstr t48).toList == (bstr ([115, 111, 117, 114, 99, 101, 58, 54, 53, 48, 48, 48] : List UInt8)).toList)) ha (s := hS) (q := fun a ha => ?_)
      have ha := ha.sel (env' := [(52, .bool ((bstr t48).toList == (bstr ([115, 111, 117, 114, 99, 101, 58, 54, 53, 48, 48, 48] : List UInt8)).toList)), (1, .pointer (some ⟨g5, 0, none⟩)), (7, .slice ao33 t32.length cap33)]) (by kernel_rfl)
      rcases Bool.eq_false_or_eq_true ((bstr t48).toList == (bstr ([115, 111, 117, 114, 99, 101, 58, 54, 53, 48, 48, 48] : List UInt8)).toList) with hb49 | hb49
      ·have ha := ha.lit hb49
       have H := ite_t hb49 H
       refine tkpz 26 0 (.slice ao33 t32.length cap33) ha (s := hS) (q := fun a ha => ?_)
       refine tkpz 27 0 (.int .i64 (t32.length : Int)) ha (s := hS) (q := fun a ha => ?_)
       refine tkpz 28 0 (.bool ((t32.length : Int) == (2 : Int))) ha (s := hS) (q := fun a ha => ?_)
       refine tkpz 29 3 (.bool ((t32.length : Int) == (2 : Int))) ha (s := hS) (q := fun a ha => ?_)
       refine tkpz 30 0 (.bool ((t32.length : Int) == (2 : Int))) ha (s := hS) (q := fun a ha => ?_)
       have ha := ha.sel (env' := [(57, .bool ((t32.length : Int) == (2 : Int))), (1, .pointer (some ⟨g5, 0, none⟩)), (7, .slice ao33 t32.length cap33)]) (by kernel_rfl)
       rcases Bool.eq_false_or_eq_true ((t32.length : Int) == (2 : Int)) with hb50 | hb50
       ·have ha := ha.lit hb50
        have H := ite_t hb50 H
        refine tkpz 31 0 (.slice ao33 t32.length cap33) ha (s := hS) (q := fun a ha => ?_)
        obtain ⟨⟨hx51, hx51'⟩, H⟩ := ite_some H
        obtain ⟨ge52, oe530, cs54, hx51eq, hn57, hR55, hE56⟩ := RSl.elem z_f33 (Int.toNat (0 : Int)) (by omega)
        rw [rd_get] at hR55
        obtain rfl := hR55
        have hE56 : ∀ j v, (cA .u8 8 (rd t32 (0 : Int)))[j]? = some v → w32.cell? ⟨ge52, (oe530 + (Int.toNat (0 : Int)) * (rArr .u8 8).sz) + j, none⟩ = some v := hE56
        refine tkz 32 ha (v := .pointer (some ⟨ge52, (oe530 + (Int.toNat (0 : Int)) * (rArr .u8 8).sz), none⟩)) (y := fun w' _ => ix_run (r := (rArr .u8 8)) (T := 27) ha (by kernel_rfl) (by kernel_rfl) (by rfl) (by rfl) hx51eq hx51 hx51') (s := hS) (q := fun a ha => ?_)
        refine tkz 33 ha (v := .agg (cA .u8 8 (rd t32 (0 : Int))).toArray) (y := fun w' hs => ldA_run (cs := (cA .u8 8 (rd t32 (0 : Int)))) ha rfl (by kernel_rfl) (cells_sub (fun j v hv => cell_keep hs (Ok.nil _ _) hn57 (hE56 j v hv)) (all := (cA .u8 8 (rd t32 (0 : Int)))) [] [] (by kernel_rfl))) (s := hS) (q := fun a ha => ?_)
        refine tkz 34 ha (v := .agg (cA .u8 8 t3.1).toArray) (y := fun w' hs => ldA_run (cs := (cA .u8 8 t3.1)) ha rfl (by kernel_rfl) (cells_sub (Box.cells (Box.chg z_hBg5 hs (fun h => nomatch h))) (all := (cA .u8 8 t3.1)) [] [] (by kernel_rfl))) (s := hS) (q := fun a ha => ?_)
        refine tkz 35 ha (v := .bool (eqA 8 (rd t32 (0 : Int)) t3.1)) (y := fun w' hs => eqs_run (r := (eqA 8 (rd t32 (0 : Int)) t3.1)) (m := 9) ha rfl rfl (by kernel_rfl) rfl (by kernel_rfl) w') (s := hS) (q := fun a ha => ?_)
        refine tkpz 36 3 (.bool (eqA 8 (rd t32 (0 : Int)) t3.1)) ha (s := hS) (q := fun a ha => ?_)
        refine tkpz 37 0 (.bool (eqA 8 (rd t32 (0 : Int)) t3.1)) ha (s := hS) (q := fun a ha => ?_)
        have ha := ha.sel (env' := [(64, .bool (eqA 8 (rd t32 (0 : Int)) t3.1)), (1, .pointer (some ⟨g5, 0, none⟩)), (7, .slice ao33 t32.length cap33)]) (by kernel_rfl)
        rcases Bool.eq_false_or_eq_true ((eqA 8 (rd t32 (0 : Int)) t3.1)) with hb58 | hb58
        ·have ha := ha.lit hb58
         have H := ite_t hb58 H
         refine tkpz 38 0 (.slice ao33 t32.length cap33) ha (s := hS) (q := fun a ha => ?_)
         refine tkz 39 ha (v := .agg (cA .u8 8 t3.1).toArray) (y := fun w' hs => ldA_run (cs := (cA .u8 8 t3.1)) ha rfl (by kernel_rfl) (cells_sub (Box.cells (Box.chg z_hBg5 hs (fun h => nomatch h))) (all := (cA .u8 8 t3.1)) [] [] (by kernel_rfl))) (s := hS) (q := fun a ha => ?_)
         refine ac 40 (by kernel_rfl) (by rfl) fun K59 hK59 => ?_
         refine bslA (vals := ([.agg (cA .u8 8 t3.1).toArray] : List Value)) (T := 27) (z := .agg (cA .u8 8 (List.replicate 8 (0 : Int))).toArray) ha rfl (by kernel_rfl) rfl (by kernel_rfl) (s := 8) (by kernel_rfl) rfl rfl (fun w => by kernel_rfl) (by kernel_rfl) rfl rfl rfl fun a w60 g61 hN62 ha => ?_
         have hN62 := (show New _ _ _ (.cells (((cA .u8 8 t3.1) ++ ([] : List Value))).toArray 27 (0, 0)) from hN62)
         have o1 : Ok [] (blkL ao33 ++ ([g28] ++ ([g21] ++ ([g13] ++ ([g5] ++ (M)))))) w48.heap.size := Ok.nil _ _
         have o2 : Ok ([g61] ++ (blkL ao33 ++ ([g28] ++ ([g21] ++ ([g13] ++ ([g5] ++ (M))))))) (blkL ao33 ++ ([g28] ++ ([g21] ++ ([g13] ++ ([g5] ++ (M)))))) w48.heap.size := (Ok.app (hN62.ok _) (Ok.refl _ _))
         have hG := hG.chg hN62.chg o1 o2
         have f33 := f33.chg hN62.chg o1 o2 (fun _ _ h => nomatch h) (fun _ h => mr (ml h))
         have hBg5 := hBg5.chg hN62.chg (fun h => nomatch h)
         have hBg13 := hBg13.chg hN62.chg (fun h => nomatch h)
         have hBg21 := hBg21.chg hN62.chg (fun h => nomatch h)
         have p_iD000063_i33 : ∀ x ∈ [g61], x ∉ (blkL ao33) := fun x hx hy => absurd (hM x (ml hy)) (Nat.not_lt.2 ((hN62.ge1) x hx))
         have p_iD000063_i30 : ∀ x ∈ [g61], x ∉ ([g28]) := fun x hx hy => absurd (hM x (mr (ml hy))) (Nat.not_lt.2 ((hN62.ge1) x hx))
         have p_iD000063_i23 : ∀ x ∈ [g61], x ∉ ([g21]) := fun x hx hy => absurd (hM x (mr (mr (ml hy)))) (Nat.not_lt.2 ((hN62.ge1) x hx))
         have p_iD000063_i15 : ∀ x ∈ [g61], x ∉ ([g13]) := fun x hx hy => absurd (hM x (mr (mr (mr (ml hy))))) (Nat.not_lt.2 ((hN62.ge1) x hx))
         have p_iD000063_i7 : ∀ x ∈ [g61], x ∉ ([g5]) := fun x hx hy => absurd (hM x (mr (mr (mr (mr (ml hy)))))) (Nat.not_lt.2 ((hN62.ge1) x hx))
         have p_iD000063_M : ∀ x ∈ [g61], x ∉ M := fun x hx hy => absurd (hM x (mr (mr (mr (mr (mr (hy))))))) (Nat.not_lt.2 ((hN62.ge1) x hx))
         have e_iD000063 : ∀ x ∈ [g61], w.heap.size ≤ x := fun x hx => Nat.le_trans hC.size ((hN62.ge1) x hx)
         have hM : MS ([g61] ++ (blkL ao33 ++ ([g28] ++ ([g21] ++ ([g13] ++ ([g5] ++ (M))))))) w60 := (MS.app hN62.ms (hM.chg hN62.chg))
         have hC := hC.trans hN62.chg (Ok.nil _ _)
         have d_iD000063 : Ok ([g61]) [] w32.heap.size := fun x hx => .inr (Nat.le_trans hS.size ((hN62.ge1) x hx))
         have hS := hS.trans hN62.chg (Ok.nil _ _)
         have f64 : Own (rArr .u8 8) 27 w60 ([g61] ++ (blkL ao33 ++ ([g28] ++ ([g21] ++ ([g13] ++ ([g5] ++ (M))))))) (some ⟨g61, 0, none⟩) 1 ([t3.1] : List (List Int)) := hN62.own ⟨(cA .u8 8 t3.1), _, rfl, rfl, rfl⟩ (Nat.le_of_ble_eq_true rfl)
         refine ae hK59 hS ?_; clear hK59 K59
         refine ac 41 (by kernel_rfl) (by rfl) fun K65 hK65 => ?_
         have fz := f33.toRSl (M' := [g61] ++ ([g28] ++ ([g21] ++ ([g13] ++ ([g5] ++ (M)))))) (Ok.app (fun _ h => .inl (ml h)) (fun _ h => .inl (mr (mr (h))))) (fun x hx hm => (List.mem_append.1 hm).elim (fun h => (fun x hx hy => p_iD000063_i33 x hy hx) x hx h) (fun h => (List.mem_append.1 h).elim (fun h => p_i33_i30 x hx h) (fun h => (List.mem_append.1 h).elim (fun h => p_i33_i23 x hx h) (fun h => (List.mem_append.1 h).elim (fun h => p_i33_i15 x hx h) (fun h => (List.mem_append.1 h).elim (fun h => p_i33_i7 x hx h) (fun h => p_i33_M x hx h))))))
         have o1 : Ok [] ([g61] ++ (blkL ao33 ++ ([g28] ++ ([g21] ++ ([g13] ++ ([g5] ++ (M))))))) w60.heap.size := Ok.nil _ _
         have o2 : Ok ([g61] ++ ([g28] ++ ([g21] ++ ([g13] ++ ([g5] ++ (M)))))) ([g61] ++ (blkL ao33 ++ ([g28] ++ ([g21] ++ ([g13] ++ ([g5] ++ (M))))))) w60.heap.size := (Ok.app (fun _ h => .inl (ml h)) (fun _ h => .inl (mr (mr (h)))))
         have hG := hG.chg (Chg.refl [] _) o1 o2
         have f64 := f64.chg (Chg.refl [] _) o1 o2 (fun _ _ h => nomatch h) (fun _ h => ml h)
         have hM : MS ([g61] ++ ([g28] ++ ([g21] ++ ([g13] ++ ([g5] ++ (M)))))) w60 := (MS.app (fun x h => hM.chg (Chg.refl [] _) x (ml h)) (fun x h => hM.chg (Chg.refl [] _) x (mr (mr (h)))))
         have f33 := fz
         have fz := f64.toRSl (M' := [g28] ++ ([g21] ++ ([g13] ++ ([g5] ++ (M))))) (fun _ h => .inl (mr (h))) (fun x hx hm => (List.mem_append.1 hm).elim (fun h => p_iD000063_i30 x hx h) (fun h => (List.mem_append.1 h).elim (fun h => p_iD000063_i23 x hx h) (fun h => (List.mem_append.1 h).elim (fun h => p_iD000063_i15 x hx h) (fun h => (List.mem_append.1 h).elim (fun h => p_iD000063_i7 x hx h) (fun h => p_iD000063_M x hx h)))))
         have o1 : Ok [] ([g61] ++ ([g28] ++ ([g21] ++ ([g13] ++ ([g5] ++ (M)))))) w60.heap.size := Ok.nil _ _
         have o2 : Ok ([g28] ++ ([g21] ++ ([g13] ++ ([g5] ++ (M))))) ([g61] ++ ([g28] ++ ([g21] ++ ([g13] ++ ([g5] ++ (M)))))) w60.heap.size := (fun _ h => .inl (mr (h)))
         have hG := hG.chg (Chg.refl [] _) o1 o2
         have f33 := f33.chg (Chg.refl [] _) o1 o2
         have hM : MS ([g28] ++ ([g21] ++ ([g13] ++ ([g5] ++ (M))))) w60 := (fun x h => hM.chg (Chg.refl [] _) x (mr (h)))
         have f64 := fz
         obtain ⟨t66, H66, H⟩ := bind_some H
         refine cl ha (by rfl) (by kernel_rfl) (by rfl) (by rfl) (by rfl) (community_Meet.walk w60 _ hM t32 ao33 cap33 f33 ([t3.1] : List (List Int)) (some ⟨g61, 0, none⟩) 1 f64 k _ H66) ?_
         rintro _ w66 ⟨rfl, hc66, hMn⟩ a ha
         have o1 : Ok [] ([g28] ++ ([g21] ++ ([g13] ++ ([g5] ++ (M))))) w60.heap.size := Ok.nil _ _
         have o2 : Ok ([g28] ++ ([g21] ++ ([g13] ++ ([g5] ++ (M))))) ([g28] ++ ([g21] ++ ([g13] ++ ([g5] ++ (M))))) w60.heap.size := (Ok.refl _ _)
         have hG := hG.chg hc66 o1 o2
         have f33 := f33.chg hc66 o1 o2
         have f64 := f64.chg hc66 o1 o2
         have hBg5 := hBg5.chg hc66 (fun h => nomatch h)
         have hBg13 := hBg13.chg hc66 (fun h => nomatch h)
         have hBg21 := hBg21.chg hc66 (fun h => nomatch h)
         have hM : MS ([g28] ++ ([g21] ++ ([g13] ++ ([g5] ++ (M))))) w66 := (hM.chg hc66)
         have hC := hC.trans hc66 (Ok.nil _ _)
         have hS := hS.trans hc66 (Ok.nil _ _)
         refine ae hK65 hS ?_; clear hK65 K65
         refine tkpz 42 3 (.bool t66) ha (s := hS) (q := fun a ha => ?_)
         refine tkpz 43 0 (.bool t66) ha (s := hS) (q := fun a ha => ?_)
         have ha := ha.sel (env' := [(70, .bool t66)]) (by kernel_rfl)
         rcases Bool.eq_false_or_eq_true (t66) with hb67 | hb67
         ·have ha := ha.lit hb67
          have H := ite_t hb67 H
          refine ac 44 (by kernel_rfl) (by rfl) fun K68 hK68 => ?_
          refine opk (v := .agg (cA .u8 8 ([(0 : Int), (9 : Int), (0 : Int), (0 : Int), (0 : Int), (0 : Int), (0 : Int), (0 : Int)] : List Int)).toArray) ha rfl rfl rfl rfl rfl (fun w => by kernel_rfl) fun a ha => ?_
          refine ae hK68 hS ?_; clear hK68 K68
          refine ac 45 (by kernel_rfl) (by rfl) fun K69 hK69 => ?_
          obtain ⟨t70, H70, H⟩ := bind_some H
          refine cl ha (by rfl) (by kernel_rfl) (by rfl) (by rfl) (by rfl) (community_Kind.walk w66 _ hM ([(0 : Int), (9 : Int), (0 : Int), (0 : Int), (0 : Int), (0 : Int), (0 : Int), (0 : Int)] : List Int) _ H70) ?_
          rintro _ w70 ⟨rfl, hc70, hMn⟩ a ha
          have o1 : Ok [] ([g28] ++ ([g21] ++ ([g13] ++ ([g5] ++ (M))))) w66.heap.size := Ok.nil _ _
          have o2 : Ok ([g28] ++ ([g21] ++ ([g13] ++ ([g5] ++ (M))))) ([g28] ++ ([g21] ++ ([g13] ++ ([g5] ++ (M))))) w66.heap.size := (Ok.refl _ _)
          have hG := hG.chg hc70 o1 o2
          have hBg5 := hBg5.chg hc70 (fun h => nomatch h)
          have hBg13 := hBg13.chg hc70 (fun h => nomatch h)
          have hBg21 := hBg21.chg hc70 (fun h => nomatch h)
          have hM : MS ([g28] ++ ([g21] ++ ([g13] ++ ([g5] ++ (M))))) w70 := (hM.chg hc70)
          have hC := hC.trans hc70 (Ok.nil _ _)
          have hS := hS.trans hc70 (Ok.nil _ _)
          refine ae hK69 hS ?_; clear hK69 K69
          refine tkpz 46 0 (.bool (t70 == (0 : Int))) ha (s := hS) (q := fun a ha => ?_)
          refine tkpz 47 3 (.bool (t70 == (0 : Int))) ha (s := hS) (q := fun a ha => ?_)
          refine tkpz 48 0 (.bool (t70 == (0 : Int))) ha (s := hS) (q := fun a ha => ?_)
          refine dn (by kernel_rfl) ?_
          obtain rfl := Option.some.inj H
          have o1 : Ok [] ([g28] ++ ([g21] ++ ([g13] ++ ([g5] ++ (M))))) w70.heap.size := Ok.nil _ _
          have o2 : Ok ([g21] ++ ([g13] ++ ([g5] ++ (M)))) ([g28] ++ ([g21] ++ ([g13] ++ ([g5] ++ (M))))) w70.heap.size := (fun _ h => .inl (mr (h)))
          have hG := hG.chg (Chg.refl [] _) o1 o2
          have hM : MS ([g21] ++ ([g13] ++ ([g5] ++ (M)))) w70 := (fun x h => hM.chg (Chg.refl [] _) x (mr (h)))
          exact J37 _ _ (ha.sel (by kernel_rfl)) hBg5 hBg13 hBg21 hG hC hM
         ·have ha := ha.lit hb67
          have H := ite_f hb67 H
          refine tkoz 44 ha (s := hS) (q := fun a ha => ?_)
          refine tkoz 45 ha (s := hS) (q := fun a ha => ?_)
          refine tkoz 46 ha (s := hS) (q := fun a ha => ?_)
          refine tkpz 47 4 (.bool false) ha (s := hS) (q := fun a ha => ?_)
          refine tkpz 48 0 (.bool false) ha (s := hS) (q := fun a ha => ?_)
          refine dn (by kernel_rfl) ?_
          obtain rfl := Option.some.inj H
          have o1 : Ok [] ([g28] ++ ([g21] ++ ([g13] ++ ([g5] ++ (M))))) w66.heap.size := Ok.nil _ _
          have o2 : Ok ([g21] ++ ([g13] ++ ([g5] ++ (M)))) ([g28] ++ ([g21] ++ ([g13] ++ ([g5] ++ (M))))) w66.heap.size := (fun _ h => .inl (mr (h)))
          have hG := hG.chg (Chg.refl [] _) o1 o2
          have hM : MS ([g21] ++ ([g13] ++ ([g5] ++ (M)))) w66 := (fun x h => hM.chg (Chg.refl [] _) x (mr (h)))
          exact J37 _ _ (ha.sel (by kernel_rfl)) hBg5 hBg13 hBg21 hG hC hM
        ·have ha := ha.lit hb58
         have H := ite_f hb58 H
         refine tkoz 38 ha (s := hS) (q := fun a ha => ?_)
         refine tkoz 39 ha (s := hS) (q := fun a ha => ?_)
         refine tkoz 40 ha (s := hS) (q := fun a ha => ?_)
         refine tkoz 41 ha (s := hS) (q := fun a ha => ?_)
         refine tkpz 42 4 (.bool false) ha (s := hS) (q := fun a ha => ?_)
         refine tkpz 43 0 (.bool false) ha (s := hS) (q := fun a ha => ?_)
         refine tkoz 44 ha (s := hS) (q := fun a ha => ?_)
         refine tkoz 45 ha (s := hS) (q := fun a ha => ?_)
         refine tkoz 46 ha (s := hS) (q := fun a ha => ?_)
         refine tkpz 47 4 (.bool false) ha (s := hS) (q := fun a ha => ?_)
         refine tkpz 48 0 (.bool false) ha (s := hS) (q := fun a ha => ?_)
         refine dn (by kernel_rfl) ?_
         obtain rfl := Option.some.inj H
         have o1 : Ok [] (blkL ao33 ++ ([g28] ++ ([g21] ++ ([g13] ++ ([g5] ++ (M)))))) w48.heap.size := Ok.nil _ _
         have o2 : Ok ([g21] ++ ([g13] ++ ([g5] ++ (M)))) (blkL ao33 ++ ([g28] ++ ([g21] ++ ([g13] ++ ([g5] ++ (M)))))) w48.heap.size := (fun _ h => .inl (mr (mr (h))))
         have hG := hG.chg (Chg.refl [] _) o1 o2
         have hM : MS ([g21] ++ ([g13] ++ ([g5] ++ (M)))) w48 := (fun x h => hM.chg (Chg.refl [] _) x (mr (mr (h))))
         exact J37 _ _ (ha.sel (by kernel_rfl)) hBg5 hBg13 hBg21 hG hC hM
       ·have ha := ha.lit hb50
        have H := ite_f hb50 H
        refine tkoz 31 ha (s := hS) (q := fun a ha => ?_)
        refine tkoz 32 ha (s := hS) (q := fun a ha => ?_)
        refine tkoz 33 ha (s := hS) (q := fun a ha => ?_)
        refine tkoz 34 ha (s := hS) (q := fun a ha => ?_)
        refine tkoz 35 ha (s := hS) (q := fun a ha => ?_)
        refine tkpz 36 4 (.bool false) ha (s := hS) (q := fun a ha => ?_)
        refine tkpz 37 0 (.bool false) ha (s := hS) (q := fun a ha => ?_)
        refine tkoz 38 ha (s := hS) (q := fun a ha => ?_)
        refine tkoz 39 ha (s := hS) (q := fun a ha => ?_)
        refine tkoz 40 ha (s := hS) (q := fun a ha => ?_)
        refine tkoz 41 ha (s := hS) (q := fun a ha => ?_)
        refine tkpz 42 4 (.bool false) ha (s := hS) (q := fun a ha => ?_)
        refine tkpz 43 0 (.bool false) ha (s := hS) (q := fun a ha => ?_)
        refine tkoz 44 ha (s := hS) (q := fun a ha => ?_)
        refine tkoz 45 ha (s := hS) (q := fun a ha => ?_)
        refine tkoz 46 ha (s := hS) (q := fun a ha => ?_)
        refine tkpz 47 4 (.bool false) ha (s := hS) (q := fun a ha => ?_)
        refine tkpz 48 0 (.bool false) ha (s := hS) (q := fun a ha => ?_)
        refine dn (by kernel_rfl) ?_
        obtain rfl := Option.some.inj H
        have o1 : Ok [] (blkL ao33 ++ ([g28] ++ ([g21] ++ ([g13] ++ ([g5] ++ (M)))))) w48.heap.size := Ok.nil _ _
        have o2 : Ok ([g21] ++ ([g13] ++ ([g5] ++ (M)))) (blkL ao33 ++ ([g28] ++ ([g21] ++ ([g13] ++ ([g5] ++ (M)))))) w48.heap.size := (fun _ h => .inl (mr (mr (h))))
        have hG := hG.chg (Chg.refl [] _) o1 o2
        have hM : MS ([g21] ++ ([g13] ++ ([g5] ++ (M)))) w48 := (fun x h => hM.chg (Chg.refl [] _) x (mr (mr (h))))
        exact J37 _ _ (ha.sel (by kernel_rfl)) hBg5 hBg13 hBg21 hG hC hM
      ·have ha := ha.lit hb49
       have H := ite_f hb49 H
       refine tkoz 26 ha (s := hS) (q := fun a ha => ?_)
       refine tkoz 27 ha (s := hS) (q := fun a ha => ?_)
       refine tkoz 28 ha (s := hS) (q := fun a ha => ?_)
       refine tkpz 29 4 (.bool false) ha (s := hS) (q := fun a ha => ?_)
       refine tkpz 30 0 (.bool false) ha (s := hS) (q := fun a ha => ?_)
       refine tkoz 31 ha (s := hS) (q := fun a ha => ?_)
       refine tkoz 32 ha (s := hS) (q := fun a ha => ?_)
       refine tkoz 33 ha (s := hS) (q := fun a ha => ?_)
       refine tkoz 34 ha (s := hS) (q := fun a ha => ?_)
       refine tkoz 35 ha (s := hS) (q := fun a ha => ?_)
       refine tkpz 36 4 (.bool false) ha (s := hS) (q := fun a ha => ?_)
       refine tkpz 37 0 (.bool false) ha (s := hS) (q := fun a ha => ?_)
       refine tkoz 38 ha (s := hS) (q := fun a ha => ?_)
       refine tkoz 39 ha (s := hS) (q := fun a ha => ?_)
       refine tkoz 40 ha (s := hS) (q := fun a ha => ?_)
       refine tkoz 41 ha (s := hS) (q := fun a ha => ?_)
       refine tkpz 42 4 (.bool false) ha (s := hS) (q := fun a ha => ?_)
       refine tkpz 43 0 (.bool false) ha (s := hS) (q := fun a ha => ?_)
       refine tkoz 44 ha (s := hS) (q := fun a ha => ?_)
       refine tkoz 45 ha (s := hS) (q := fun a ha => ?_)
       refine tkoz 46 ha (s := hS) (q := fun a ha => ?_)
       refine tkpz 47 4 (.bool false) ha (s := hS) (q := fun a ha => ?_)
       refine tkpz 48 0 (.bool false) ha (s := hS) (q := fun a ha => ?_)
       refine dn (by kernel_rfl) ?_
       obtain rfl := Option.some.inj H
       have o1 : Ok [] (blkL ao33 ++ ([g28] ++ ([g21] ++ ([g13] ++ ([g5] ++ (M)))))) w48.heap.size := Ok.nil _ _
       have o2 : Ok ([g21] ++ ([g13] ++ ([g5] ++ (M)))) (blkL ao33 ++ ([g28] ++ ([g21] ++ ([g13] ++ ([g5] ++ (M)))))) w48.heap.size := (fun _ h => .inl (mr (mr (h))))
       have hG := hG.chg (Chg.refl [] _) o1 o2
       have hM : MS ([g21] ++ ([g13] ++ ([g5] ++ (M)))) w48 := (fun x h => hM.chg (Chg.refl [] _) x (mr (mr (h))))
       exact J37 _ _ (ha.sel (by kernel_rfl)) hBg5 hBg13 hBg21 hG hC hM
     ·have ha := ha.lit hb46
      have H := ite_f hb46 H
      refine tkoz 21 ha (s := hS) (q := fun a ha => ?_)
      refine tkoz 22 ha (s := hS) (q := fun a ha => ?_)
      refine tkoz 23 ha (s := hS) (q := fun a ha => ?_)
      refine tkpz 24 4 (.bool false) ha (s := hS) (q := fun a ha => ?_)
      refine tkpz 25 0 (.bool false) ha (s := hS) (q := fun a ha => ?_)
      refine tkoz 26 ha (s := hS) (q := fun a ha => ?_)
      refine tkoz 27 ha (s := hS) (q := fun a ha => ?_)
      refine tkoz 28 ha (s := hS) (q := fun a ha => ?_)
      refine tkpz 29 4 (.bool false) ha (s := hS) (q := fun a ha => ?_)
      refine tkpz 30 0 (.bool false) ha (s := hS) (q := fun a ha => ?_)
      refine tkoz 31 ha (s := hS) (q := fun a ha => ?_)
      refine tkoz 32 ha (s := hS) (q := fun a ha => ?_)
      refine tkoz 33 ha (s := hS) (q := fun a ha => ?_)
      refine tkoz 34 ha (s := hS) (q := fun a ha => ?_)
      refine tkoz 35 ha (s := hS) (q := fun a ha => ?_)
      refine tkpz 36 4 (.bool false) ha (s := hS) (q := fun a ha => ?_)
      refine tkpz 37 0 (.bool false) ha (s := hS) (q := fun a ha => ?_)
      refine tkoz 38 ha (s := hS) (q := fun a ha => ?_)
      refine tkoz 39 ha (s := hS) (q := fun a ha => ?_)
      refine tkoz 40 ha (s := hS) (q := fun a ha => ?_)
      refine tkoz 41 ha (s := hS) (q := fun a ha => ?_)
      refine tkpz 42 4 (.bool false) ha (s := hS) (q := fun a ha => ?_)
      refine tkpz 43 0 (.bool false) ha (s := hS) (q := fun a ha => ?_)
      refine tkoz 44 ha (s := hS) (q := fun a ha => ?_)
      refine tkoz 45 ha (s := hS) (q := fun a ha => ?_)
      refine tkoz 46 ha (s := hS) (q := fun a ha => ?_)
      refine tkpz 47 4 (.bool false) ha (s := hS) (q := fun a ha => ?_)
      refine tkpz 48 0 (.bool false) ha (s := hS) (q := fun a ha => ?_)
      refine dn (by kernel_rfl) ?_
      obtain rfl := Option.some.inj H
      have o1 : Ok [] (blkL ao33 ++ ([g28] ++ ([g21] ++ ([g13] ++ ([g5] ++ (M)))))) w44.heap.size := Ok.nil _ _
      have o2 : Ok ([g21] ++ ([g13] ++ ([g5] ++ (M)))) (blkL ao33 ++ ([g28] ++ ([g21] ++ ([g13] ++ ([g5] ++ (M)))))) w44.heap.size := (fun _ h => .inl (mr (mr (h))))
      have hG := hG.chg (Chg.refl [] _) o1 o2
      have hM : MS ([g21] ++ ([g13] ++ ([g5] ++ (M)))) w44 := (fun x h => hM.chg (Chg.refl [] _) x (mr (mr (h))))
      exact J37 _ _ (ha.sel (by kernel_rfl)) hBg5 hBg13 hBg21 hG hC hM
    ·have ha := ha.lit hb45
     have H := ite_f hb45 H
     refine tkoz 17 ha (s := hS) (q := fun a ha => ?_)
     refine tkoz 18 ha (s := hS) (q := fun a ha => ?_)
     refine tkpz 19 4 (.bool false) ha (s := hS) (q := fun a ha => ?_)
     refine tkpz 20 0 (.bool false) ha (s := hS) (q := fun a ha => ?_)
     refine tkoz 21 ha (s := hS) (q := fun a ha => ?_)
     refine tkoz 22 ha (s := hS) (q := fun a ha => ?_)
     refine tkoz 23 ha (s := hS) (q := fun a ha => ?_)
     refine tkpz 24 4 (.bool false) ha (s := hS) (q := fun a ha => ?_)
     refine tkpz 25 0 (.bool false) ha (s := hS) (q := fun a ha => ?_)
     refine tkoz 26 ha (s := hS) (q := fun a ha => ?_)
     refine tkoz 27 ha (s := hS) (q := fun a ha => ?_)
     refine tkoz 28 ha (s := hS) (q := fun a ha => ?_)
     refine tkpz 29 4 (.bool false) ha (s := hS) (q := fun a ha => ?_)
     refine tkpz 30 0 (.bool false) ha (s := hS) (q := fun a ha => ?_)
     refine tkoz 31 ha (s := hS) (q := fun a ha => ?_)
     refine tkoz 32 ha (s := hS) (q := fun a ha => ?_)
     refine tkoz 33 ha (s := hS) (q := fun a ha => ?_)
     refine tkoz 34 ha (s := hS) (q := fun a ha => ?_)
     refine tkoz 35 ha (s := hS) (q := fun a ha => ?_)
     refine tkpz 36 4 (.bool false) ha (s := hS) (q := fun a ha => ?_)
     refine tkpz 37 0 (.bool false) ha (s := hS) (q := fun a ha => ?_)
     refine tkoz 38 ha (s := hS) (q := fun a ha => ?_)
     refine tkoz 39 ha (s := hS) (q := fun a ha => ?_)
     refine tkoz 40 ha (s := hS) (q := fun a ha => ?_)
     refine tkoz 41 ha (s := hS) (q := fun a ha => ?_)
     refine tkpz 42 4 (.bool false) ha (s := hS) (q := fun a ha => ?_)
     refine tkpz 43 0 (.bool false) ha (s := hS) (q := fun a ha => ?_)
     refine tkoz 44 ha (s := hS) (q := fun a ha => ?_)
     refine tkoz 45 ha (s := hS) (q := fun a ha => ?_)
     refine tkoz 46 ha (s := hS) (q := fun a ha => ?_)
     refine tkpz 47 4 (.bool false) ha (s := hS) (q := fun a ha => ?_)
     refine tkpz 48 0 (.bool false) ha (s := hS) (q := fun a ha => ?_)
     refine dn (by kernel_rfl) ?_
     obtain rfl := Option.some.inj H
     have o1 : Ok [] (blkL ao33 ++ ([g28] ++ ([g21] ++ ([g13] ++ ([g5] ++ (M)))))) w44.heap.size := Ok.nil _ _
     have o2 : Ok ([g21] ++ ([g13] ++ ([g5] ++ (M)))) (blkL ao33 ++ ([g28] ++ ([g21] ++ ([g13] ++ ([g5] ++ (M)))))) w44.heap.size := (fun _ h => .inl (mr (mr (h))))
     have hG := hG.chg (Chg.refl [] _) o1 o2
     have hM : MS ([g21] ++ ([g13] ++ ([g5] ++ (M)))) w44 := (fun x h => hM.chg (Chg.refl [] _) x (mr (mr (h))))
     exact J37 _ _ (ha.sel (by kernel_rfl)) hBg5 hBg13 hBg21 hG hC hM
   ·have ha := ha.lit hb42
    have H := ite_f hb42 H
    refine tkoz 12 ha (s := hS) (q := fun a ha => ?_)
    refine tkoz 13 ha (s := hS) (q := fun a ha => ?_)
    refine tkoz 14 ha (s := hS) (q := fun a ha => ?_)
    refine tkpz 15 4 (.bool false) ha (s := hS) (q := fun a ha => ?_)
    refine tkpz 16 0 (.bool false) ha (s := hS) (q := fun a ha => ?_)
    refine tkoz 17 ha (s := hS) (q := fun a ha => ?_)
    refine tkoz 18 ha (s := hS) (q := fun a ha => ?_)
    refine tkpz 19 4 (.bool false) ha (s := hS) (q := fun a ha => ?_)
    refine tkpz 20 0 (.bool false) ha (s := hS) (q := fun a ha => ?_)
    refine tkoz 21 ha (s := hS) (q := fun a ha => ?_)
    refine tkoz 22 ha (s := hS) (q := fun a ha => ?_)
    refine tkoz 23 ha (s := hS) (q := fun a ha => ?_)
    refine tkpz 24 4 (.bool false) ha (s := hS) (q := fun a ha => ?_)
    refine tkpz 25 0 (.bool false) ha (s := hS) (q := fun a ha => ?_)
    refine tkoz 26 ha (s := hS) (q := fun a ha => ?_)
    refine tkoz 27 ha (s := hS) (q := fun a ha => ?_)
    refine tkoz 28 ha (s := hS) (q := fun a ha => ?_)
    refine tkpz 29 4 (.bool false) ha (s := hS) (q := fun a ha => ?_)
    refine tkpz 30 0 (.bool false) ha (s := hS) (q := fun a ha => ?_)
    refine tkoz 31 ha (s := hS) (q := fun a ha => ?_)
    refine tkoz 32 ha (s := hS) (q := fun a ha => ?_)
    refine tkoz 33 ha (s := hS) (q := fun a ha => ?_)
    refine tkoz 34 ha (s := hS) (q := fun a ha => ?_)
    refine tkoz 35 ha (s := hS) (q := fun a ha => ?_)
    refine tkpz 36 4 (.bool false) ha (s := hS) (q := fun a ha => ?_)
    refine tkpz 37 0 (.bool false) ha (s := hS) (q := fun a ha => ?_)
    refine tkoz 38 ha (s := hS) (q := fun a ha => ?_)
    refine tkoz 39 ha (s := hS) (q := fun a ha => ?_)
    refine tkoz 40 ha (s := hS) (q := fun a ha => ?_)
    refine tkoz 41 ha (s := hS) (q := fun a ha => ?_)
    refine tkpz 42 4 (.bool false) ha (s := hS) (q := fun a ha => ?_)
    refine tkpz 43 0 (.bool false) ha (s := hS) (q := fun a ha => ?_)
    refine tkoz 44 ha (s := hS) (q := fun a ha => ?_)
    refine tkoz 45 ha (s := hS) (q := fun a ha => ?_)
    refine tkoz 46 ha (s := hS) (q := fun a ha => ?_)
    refine tkpz 47 4 (.bool false) ha (s := hS) (q := fun a ha => ?_)
    refine tkpz 48 0 (.bool false) ha (s := hS) (q := fun a ha => ?_)
    refine dn (by kernel_rfl) ?_
    obtain rfl := Option.some.inj H
    have o1 : Ok [] (blkL ao33 ++ ([g28] ++ ([g21] ++ ([g13] ++ ([g5] ++ (M)))))) w40.heap.size := Ok.nil _ _
    have o2 : Ok ([g21] ++ ([g13] ++ ([g5] ++ (M)))) (blkL ao33 ++ ([g28] ++ ([g21] ++ ([g13] ++ ([g5] ++ (M)))))) w40.heap.size := (fun _ h => .inl (mr (mr (h))))
    have hG := hG.chg (Chg.refl [] _) o1 o2
    have hM : MS ([g21] ++ ([g13] ++ ([g5] ++ (M)))) w40 := (fun x h => hM.chg (Chg.refl [] _) x (mr (mr (h))))
    exact J37 _ _ (ha.sel (by kernel_rfl)) hBg5 hBg13 hBg21 hG hC hM
  ·have ha := ha.lit hb41
   have H := ite_f hb41 H
   refine tkoz 8 ha (s := hS) (q := fun a ha => ?_)
   refine tkoz 9 ha (s := hS) (q := fun a ha => ?_)
   refine tkpz 10 4 (.bool false) ha (s := hS) (q := fun a ha => ?_)
   refine tkpz 11 0 (.bool false) ha (s := hS) (q := fun a ha => ?_)
   refine tkoz 12 ha (s := hS) (q := fun a ha => ?_)
   refine tkoz 13 ha (s := hS) (q := fun a ha => ?_)
   refine tkoz 14 ha (s := hS) (q := fun a ha => ?_)
   refine tkpz 15 4 (.bool false) ha (s := hS) (q := fun a ha => ?_)
   refine tkpz 16 0 (.bool false) ha (s := hS) (q := fun a ha => ?_)
   refine tkoz 17 ha (s := hS) (q := fun a ha => ?_)
   refine tkoz 18 ha (s := hS) (q := fun a ha => ?_)
   refine tkpz 19 4 (.bool false) ha (s := hS) (q := fun a ha => ?_)
   refine tkpz 20 0 (.bool false) ha (s := hS) (q := fun a ha => ?_)
   refine tkoz 21 ha (s := hS) (q := fun a ha => ?_)
   refine tkoz 22 ha (s := hS) (q := fun a ha => ?_)
   refine tkoz 23 ha (s := hS) (q := fun a ha => ?_)
   refine tkpz 24 4 (.bool false) ha (s := hS) (q := fun a ha => ?_)
   refine tkpz 25 0 (.bool false) ha (s := hS) (q := fun a ha => ?_)
   refine tkoz 26 ha (s := hS) (q := fun a ha => ?_)
   refine tkoz 27 ha (s := hS) (q := fun a ha => ?_)
   refine tkoz 28 ha (s := hS) (q := fun a ha => ?_)
   refine tkpz 29 4 (.bool false) ha (s := hS) (q := fun a ha => ?_)
   refine tkpz 30 0 (.bool false) ha (s := hS) (q := fun a ha => ?_)
   refine tkoz 31 ha (s := hS) (q := fun a ha => ?_)
   refine tkoz 32 ha (s := hS) (q := fun a ha => ?_)
   refine tkoz 33 ha (s := hS) (q := fun a ha => ?_)
   refine tkoz 34 ha (s := hS) (q := fun a ha => ?_)
   refine tkoz 35 ha (s := hS) (q := fun a ha => ?_)
   refine tkpz 36 4 (.bool false) ha (s := hS) (q := fun a ha => ?_)
   refine tkpz 37 0 (.bool false) ha (s := hS) (q := fun a ha => ?_)
   refine tkoz 38 ha (s := hS) (q := fun a ha => ?_)
   refine tkoz 39 ha (s := hS) (q := fun a ha => ?_)
   refine tkoz 40 ha (s := hS) (q := fun a ha => ?_)
   refine tkoz 41 ha (s := hS) (q := fun a ha => ?_)
   refine tkpz 42 4 (.bool false) ha (s := hS) (q := fun a ha => ?_)
   refine tkpz 43 0 (.bool false) ha (s := hS) (q := fun a ha => ?_)
   refine tkoz 44 ha (s := hS) (q := fun a ha => ?_)
   refine tkoz 45 ha (s := hS) (q := fun a ha => ?_)
   refine tkoz 46 ha (s := hS) (q := fun a ha => ?_)
   refine tkpz 47 4 (.bool false) ha (s := hS) (q := fun a ha => ?_)
   refine tkpz 48 0 (.bool false) ha (s := hS) (q := fun a ha => ?_)
   refine dn (by kernel_rfl) ?_
   obtain rfl := Option.some.inj H
   have o1 : Ok [] (blkL ao33 ++ ([g28] ++ ([g21] ++ ([g13] ++ ([g5] ++ (M)))))) w40.heap.size := Ok.nil _ _
   have o2 : Ok ([g21] ++ ([g13] ++ ([g5] ++ (M)))) (blkL ao33 ++ ([g28] ++ ([g21] ++ ([g13] ++ ([g5] ++ (M)))))) w40.heap.size := (fun _ h => .inl (mr (mr (h))))
   have hG := hG.chg (Chg.refl [] _) o1 o2
   have hM : MS ([g21] ++ ([g13] ++ ([g5] ++ (M)))) w40 := (fun x h => hM.chg (Chg.refl [] _) x (mr (mr (h))))
   exact J37 _ _ (ha.sel (by kernel_rfl)) hBg5 hBg13 hBg21 hG hC hM
 ·have ha := ha.lit hb38
  have H := ite_f hb38 H
  refine tkoz 3 ha (s := hS) (q := fun a ha => ?_)
  refine tkoz 4 ha (s := hS) (q := fun a ha => ?_)
  refine tkoz 5 ha (s := hS) (q := fun a ha => ?_)
  refine tkpz 6 4 (.bool false) ha (s := hS) (q := fun a ha => ?_)
  refine tkpz 7 0 (.bool false) ha (s := hS) (q := fun a ha => ?_)
  refine tkoz 8 ha (s := hS) (q := fun a ha => ?_)
  refine tkoz 9 ha (s := hS) (q := fun a ha => ?_)
  refine tkpz 10 4 (.bool false) ha (s := hS) (q := fun a ha => ?_)
  refine tkpz 11 0 (.bool false) ha (s := hS) (q := fun a ha => ?_)
  refine tkoz 12 ha (s := hS) (q := fun a ha => ?_)
  refine tkoz 13 ha (s := hS) (q := fun a ha => ?_)
  refine tkoz 14 ha (s := hS) (q := fun a ha => ?_)
  refine tkpz 15 4 (.bool false) ha (s := hS) (q := fun a ha => ?_)
  refine tkpz 16 0 (.bool false) ha (s := hS) (q := fun a ha => ?_)
  refine tkoz 17 ha (s := hS) (q := fun a ha => ?_)
  refine tkoz 18 ha (s := hS) (q := fun a ha => ?_)
  refine tkpz 19 4 (.bool false) ha (s := hS) (q := fun a ha => ?_)
  refine tkpz 20 0 (.bool false) ha (s := hS) (q := fun a ha => ?_)
  refine tkoz 21 ha (s := hS) (q := fun a ha => ?_)
  refine tkoz 22 ha (s := hS) (q := fun a ha => ?_)
  refine tkoz 23 ha (s := hS) (q := fun a ha => ?_)
  refine tkpz 24 4 (.bool false) ha (s := hS) (q := fun a ha => ?_)
  refine tkpz 25 0 (.bool false) ha (s := hS) (q := fun a ha => ?_)
  refine tkoz 26 ha (s := hS) (q := fun a ha => ?_)
  refine tkoz 27 ha (s := hS) (q := fun a ha => ?_)
  refine tkoz 28 ha (s := hS) (q := fun a ha => ?_)
  refine tkpz 29 4 (.bool false) ha (s := hS) (q := fun a ha => ?_)
  refine tkpz 30 0 (.bool false) ha (s := hS) (q := fun a ha => ?_)
  refine tkoz 31 ha (s := hS) (q := fun a ha => ?_)
  refine tkoz 32 ha (s := hS) (q := fun a ha => ?_)
  refine tkoz 33 ha (s := hS) (q := fun a ha => ?_)
  refine tkoz 34 ha (s := hS) (q := fun a ha => ?_)
  refine tkoz 35 ha (s := hS) (q := fun a ha => ?_)
  refine tkpz 36 4 (.bool false) ha (s := hS) (q := fun a ha => ?_)
  refine tkpz 37 0 (.bool false) ha (s := hS) (q := fun a ha => ?_)
  refine tkoz 38 ha (s := hS) (q := fun a ha => ?_)
  refine tkoz 39 ha (s := hS) (q := fun a ha => ?_)
  refine tkoz 40 ha (s := hS) (q := fun a ha => ?_)
  refine tkoz 41 ha (s := hS) (q := fun a ha => ?_)
  refine tkpz 42 4 (.bool false) ha (s := hS) (q := fun a ha => ?_)
  refine tkpz 43 0 (.bool false) ha (s := hS) (q := fun a ha => ?_)
  refine tkoz 44 ha (s := hS) (q := fun a ha => ?_)
  refine tkoz 45 ha (s := hS) (q := fun a ha => ?_)
  refine tkoz 46 ha (s := hS) (q := fun a ha => ?_)
  refine tkpz 47 4 (.bool false) ha (s := hS) (q := fun a ha => ?_)
  refine tkpz 48 0 (.bool false) ha (s := hS) (q := fun a ha => ?_)
  refine dn (by kernel_rfl) ?_
  obtain rfl := Option.some.inj H
  have o1 : Ok [] (blkL ao33 ++ ([g28] ++ ([g21] ++ ([g13] ++ ([g5] ++ (M)))))) w35.heap.size := Ok.nil _ _
  have o2 : Ok ([g21] ++ ([g13] ++ ([g5] ++ (M)))) (blkL ao33 ++ ([g28] ++ ([g21] ++ ([g13] ++ ([g5] ++ (M)))))) w35.heap.size := (fun _ h => .inl (mr (mr (h))))
  have hG := hG.chg (Chg.refl [] _) o1 o2
  have hM : MS ([g21] ++ ([g13] ++ ([g5] ++ (M)))) w35 := (fun x h => hM.chg (Chg.refl [] _) x (mr (mr (h))))
  exact J37 _ _ (ha.sel (by kernel_rfl)) hBg5 hBg13 hBg21 hG hC hM
def vineryref04_Same.l0 (a0 : List (List Int)) (a1 : List (List Int)) : Nat → Int → Option ((Bool) ⊕ (Unit))
  | 0, _ => none
  | kk + 1, x11 => (if (decide (x11 < (a0.length : Int))) = true then (if 0 ≤ x11 ∧ x11 < (a0.length : Int) then (if 0 ≤ x11 ∧ x11 < (a1.length : Int) then (if (!(eqA 8 (rd a0 x11) (rd a1 x11))) = true then some (.inl ((false : Bool))) else vineryref04_Same.l0 a0 a1 kk (IntKind.i64.wrap (x11 + (1 : Int)))) else none) else none) else some (.inr (() : Unit)))
def vineryref04_Same.f (k : Nat) (a0 : List (List Int)) (a1 : List (List Int)) : Option (Bool) := (if ((a0.length : Int) != (a1.length : Int)) = true then some ((false : Bool)) else (vineryref04_Same.l0 a0 a1 k (0 : Int)).bind fun s10 => match s10 with | .inl r => some r | .inr s10' => some ((true : Bool)))
set_option maxRecDepth 100000 in
theorem vineryref04_Same.walk (w : World) (M : List Nat) (hM : MS M w) (a0 : List (List Int)) (ao1 : Option Addr) (cap1 : Nat) (f1 : RSl (rArr .u8 8) 27 w M ao1 cap1 a0) (a1 : List (List Int)) (ao2 : Option Addr) (cap2 : Nat) (f2 : RSl (rArr .u8 8) 27 w M ao2 cap2 a1) (k : Nat) (r : Bool) (H : vineryref04_Same.f k a0 a1 = some r) :
    To Tryz.prog 17 [.slice ao1 a0.length cap1, .slice ao2 a1.length cap2] w fun v w' => v = .bool r ∧ Chg [] w w' ∧ MS (M) w' := by
 unfold vineryref04_Same.f at H
 refine ent Tryz.func17 rfl [(0, .slice ao1 a0.length cap1), (1, .slice ao2 a1.length cap2)] rfl (by rfl) fun a ha => ?_
 have hC : Chg [] w w := Chg.refl _ _
 refine wp_seq_k fun K3 hK3 => ?_
 refine wp_region_lit ?_
 refine seg ha 1 [(0, .slice ao1 a0.length cap1), (1, .slice ao2 a1.length cap2)] (by kernel_rfl) fun a ha => ?_
 refine hK3 _ _ ?_; try clear hK3 K3
 refine wp_seq_k fun K4 hK4 => ?_
 refine wp_seq_k fun K5 hK5 => ?_
 refine wp_region_lit ?_
 refine seg ha 5 [(0, .slice ao1 a0.length cap1), (1, .slice ao2 a1.length cap2), (10, .bool ((a0.length : Int) != (a1.length : Int)))] (by kernel_rfl) fun a ha => ?_
 refine hK5 _ _ ?_; try clear hK5 K5
 refine cnd ha rfl (fun hc6 => ?_) (fun hc6 => ?_)
 ·have H := ite_t hc6 H
  refine wp_seq_k fun K7 hK7 => ?_
  refine wp_region_lit ?_
  refine seg ha 1 [(4, .bool false)] (by kernel_rfl) fun a ha => ?_
  refine hK7 _ _ ?_; try clear hK7 K7
  refine wp_ret ?_
  try simp only [Exit.then, Exit.inBlock]
  obtain rfl := Option.some.inj H
  refine rt1 ha rfl rfl ?_
  exact ⟨rfl, hC, hM⟩
 ·have H := ite_f hc6 H
  refine wp_skip ?_
  refine hK4 _ _ ?_; try clear hK4 K4
  refine wp_seq_k fun K8 hK8 => ?_
  refine wp_seq_k fun K9 hK9 => ?_
  refine wp_region_lit ?_
  refine seg ha 1 [(0, .slice ao1 a0.length cap1), (1, .slice ao2 a1.length cap2), (5, .int .i64 (0 : Int))] (by kernel_rfl) fun a ha => ?_
  refine hK9 _ _ ?_; try clear hK9 K9
  refine wp_block ?_
  obtain ⟨s10, H10, H⟩ := bind_some H
  have J10 : ∀ s10' (a : Act) (wx10 : World), s10 = .inr s10' → Has a Tryz.f17.ntmps [] → (Chg [] w wx10) → (MS (M) wx10) → K8 a wx10 := by
   intro s10' a wx10 hs ha hC hM
   subst hs
   refine hK8 _ _ ?_; try clear hK8 K8
   refine wp_seq_k fun K12 hK12 => ?_
   refine wp_region_lit ?_
   refine seg ha 1 [(4, .bool true)] (by kernel_rfl) fun a ha => ?_
   refine hK12 _ _ ?_; try clear hK12 K12
   refine wp_ret ?_
   try simp only [Exit.then, Exit.inBlock]
   obtain rfl := Option.some.inj H
   refine rt1 ha rfl rfl ?_
   exact ⟨rfl, hC, hM⟩
  have Hc10 := H
  have H := H10
  refine wp_loop_ghost (fun kk a w10 => ∃ (x11 : Int), vineryref04_Same.l0 a0 a1 kk x11 = some s10 ∧ Has a Tryz.f17.ntmps [(0, .slice ao1 a0.length cap1), (1, .slice ao2 a1.length cap2), (5, .int .i64 x11)] ∧ (RSl (rArr .u8 8) 27 w10 (M) ao1 cap1 a0) ∧ (RSl (rArr .u8 8) 27 w10 (M) ao2 cap2 a1) ∧ (Chg [] w w10) ∧ (MS (M) w10)) k ?_ ?_
  ·skip
   exact ⟨(0 : Int), H, (ha.sel (by kernel_rfl)), f1, f2, hC, hM⟩
  ·rintro kk a w10 ⟨x11, H, ha, f1, f2, hC, hM⟩
   obtain _ | kk := kk
   ·exact nomatch (show none = some _ from H)
   rw [vineryref04_Same.l0] at H
   refine wp_seq_k fun K13 hK13 => ?_
   refine wp_seq_k fun K14 hK14 => ?_
   refine wp_region_lit ?_
   refine seg ha 4 [(0, .slice ao1 a0.length cap1), (1, .slice ao2 a1.length cap2), (5, .int .i64 x11), (14, .bool (decide (x11 < (a0.length : Int))))] (by kernel_rfl) fun a ha => ?_
   refine hK14 _ _ ?_; try clear hK14 K14
   refine cnd ha rfl (fun hc15 => ?_) (fun hc15 => ?_)
   ·have H := ite_t hc15 H
    refine wp_skip ?_
    refine hK13 _ _ ?_; try clear hK13 K13
    refine wp_seq_k fun K16 hK16 => ?_
    refine wp_block ?_
    refine wp_seq_k fun K17 hK17 => ?_
    refine drq0 (fun w' => Chg [] w10 w') (by kernel_rfl) (by kernel_rfl) (fun _ h => h) ?_
    refine qp 0 (.slice ao1 a0.length cap1) ha rfl rfl rfl (by kernel_rfl) fun a ha => ?_
    refine qp 0 (.int .i64 x11) ha rfl rfl rfl (by kernel_rfl) fun a ha => ?_
    obtain ⟨⟨hx18, hx18'⟩, H⟩ := ite_some H
    obtain ⟨ge19, oe200, cs21, hx18eq, hn24, hR22, hE23⟩ := RSl.elem f1 (Int.toNat x11) (by omega)
    rw [rd_get] at hR22
    obtain rfl := hR22
    have hE23 : ∀ j v, (cA .u8 8 (rd a0 x11))[j]? = some v → w10.cell? ⟨ge19, (oe200 + (Int.toNat x11) * (rArr .u8 8).sz) + j, none⟩ = some v := hE23
    refine qv (v := .pointer (some ⟨ge19, (oe200 + (Int.toNat x11) * (rArr .u8 8).sz), none⟩)) ha rfl rfl rfl (fun w' hs => ix_run (r := (rArr .u8 8)) (T := 27) ha (by kernel_rfl) (by kernel_rfl) (by rfl) (by rfl) hx18eq hx18 hx18') fun a ha => ?_
    refine qv (v := .agg (cA .u8 8 (rd a0 x11)).toArray) ha rfl rfl rfl (fun w' hs => ldA_run (cs := (cA .u8 8 (rd a0 x11))) ha rfl (by kernel_rfl) (cells_sub (fun j v hv => hs.keep (hE23 j v hv)) (all := (cA .u8 8 (rd a0 x11))) [] [] (by kernel_rfl))) fun a ha => ?_
    refine qp 0 (.slice ao2 a1.length cap2) ha rfl rfl rfl (by kernel_rfl) fun a ha => ?_
    refine qp 0 (.int .i64 x11) ha rfl rfl rfl (by kernel_rfl) fun a ha => ?_
    obtain ⟨⟨hx25, hx25'⟩, H⟩ := ite_some H
    obtain ⟨ge26, oe270, cs28, hx25eq, hn31, hR29, hE30⟩ := RSl.elem f2 (Int.toNat x11) (by omega)
    rw [rd_get] at hR29
    obtain rfl := hR29
    have hE30 : ∀ j v, (cA .u8 8 (rd a1 x11))[j]? = some v → w10.cell? ⟨ge26, (oe270 + (Int.toNat x11) * (rArr .u8 8).sz) + j, none⟩ = some v := hE30
    refine qv (v := .pointer (some ⟨ge26, (oe270 + (Int.toNat x11) * (rArr .u8 8).sz), none⟩)) ha rfl rfl rfl (fun w' hs => ix_run (r := (rArr .u8 8)) (T := 27) ha (by kernel_rfl) (by kernel_rfl) (by rfl) (by rfl) hx25eq hx25 hx25') fun a ha => ?_
    refine qv (v := .agg (cA .u8 8 (rd a1 x11)).toArray) ha rfl rfl rfl (fun w' hs => ldA_run (cs := (cA .u8 8 (rd a1 x11))) ha rfl (by kernel_rfl) (cells_sub (fun j v hv => hs.keep (hE30 j v hv)) (all := (cA .u8 8 (rd a1 x11))) [] [] (by kernel_rfl))) fun a ha => ?_
    refine qv (v := .bool (!(eqA 8 (rd a0 x11) (rd a1 x11)))) ha rfl rfl rfl (fun w' hs => nes_run (r := (eqA 8 (rd a0 x11) (rd a1 x11))) (m := 9) ha rfl rfl (by kernel_rfl) rfl (by kernel_rfl) w') fun a ha => ?_
    refine wpQuiet_nil ?_
    intro w32 hc33
    have o1 : Ok [] (M) w10.heap.size := Ok.nil _ _
    have o2 : Ok (M) (M) w10.heap.size := (Ok.refl _ _)
    have f1 := f1.chg hc33 o1 o2
    have f2 := f2.chg hc33 o1 o2
    have q_hn24 : ge19 ∉ M := fun h => (o2 ge19 h).elim hn24 (fun h => absurd (lt_cell (hE23 0 _ rfl)) (Nat.not_lt.2 h))
    have hE23 : ∀ j v, (cA .u8 8 (rd a0 x11))[j]? = some v → w32.cell? ⟨ge19, (oe200 + (Int.toNat x11) * (rArr .u8 8).sz) + j, none⟩ = some v := fun j v hv => (cell_keep hc33 o1 hn24 (hE23 j v hv))
    have hn24 := q_hn24
    have q_hn31 : ge26 ∉ M := fun h => (o2 ge26 h).elim hn31 (fun h => absurd (lt_cell (hE30 0 _ rfl)) (Nat.not_lt.2 h))
    have hE30 : ∀ j v, (cA .u8 8 (rd a1 x11))[j]? = some v → w32.cell? ⟨ge26, (oe270 + (Int.toNat x11) * (rArr .u8 8).sz) + j, none⟩ = some v := fun j v hv => (cell_keep hc33 o1 hn31 (hE30 j v hv))
    have hn31 := q_hn31
    have hM : MS (M) w32 := (hM.chg hc33)
    have hC := hC.trans hc33 (Ok.nil _ _)
    refine wpl_end ?_
    refine hK17 _ _ ?_; try clear hK17 K17
    refine cnd ha rfl (fun hc34 => ?_) (fun hc34 => ?_)
    ·have H := ite_t hc34 H
     refine wp_seq_k fun K35 hK35 => ?_
     refine wp_region_lit ?_
     refine seg ha 1 [(4, .bool false)] (by kernel_rfl) fun a ha => ?_
     refine hK35 _ _ ?_; try clear hK35 K35
     refine wp_ret ?_
     try simp only [Exit.then, Exit.inBlock]
     obtain rfl := Option.some.inj H
     have H := (show some _ = some _ from Hc10)
     obtain rfl := Option.some.inj H
     refine rt1 ha rfl rfl ?_
     exact ⟨rfl, hC, hM⟩
    ·have H := ite_f hc34 H
     refine wp_skip ?_
     refine hK16 _ _ ?_; try clear hK16 K16
     refine wp_region_lit ?_
     refine seg ha 3 [(0, .slice ao1 a0.length cap1), (1, .slice ao2 a1.length cap2), (5, .int .i64 (IntKind.i64.wrap (x11 + (1 : Int))))] (by kernel_rfl) fun a ha => ?_
     exact ⟨kk, Nat.lt_succ_self _, ⟨IntKind.i64.wrap (x11 + (1 : Int)), H, (ha.sel (by kernel_rfl)), f1, f2, hC, hM⟩⟩
   ·have H := ite_f hc15 H
    refine wp_exit ?_
    simp only [Exit.then, Exit.inBlock, ↓reduceIte, Nat.reduceEqDiff]
    obtain rfl := Option.some.inj H
    exact J10 _ _ _ rfl (ha.sel (by kernel_rfl)) hC hM
def vinerylaw04_CommunitySets.l0 (t22 : List (List Int)) : Nat → Int → Option ((Bool) ⊕ (Unit))
  | 0, _ => none
  | kk + 1, x44 => (if (decide (x44 < (t22.length : Int))) = true then (if 0 ≤ (IntKind.i64.wrap (x44 - (1 : Int))) ∧ (IntKind.i64.wrap (x44 - (1 : Int))) < (t22.length : Int) then (if 0 ≤ x44 ∧ x44 < (t22.length : Int) then (if (!Op.bytesLess (bstr (b2s (arL 8 (rd t22 (IntKind.i64.wrap (x44 - (1 : Int))))))).toList (bstr (b2s (arL 8 (rd t22 x44)))).toList) = true then some (.inl ((false : Bool))) else vinerylaw04_CommunitySets.l0 t22 kk (IntKind.i64.wrap (x44 + (1 : Int)))) else none) else none) else some (.inr (() : Unit)))
def vinerylaw04_CommunitySets.f (k : Nat) (a0 : List (List Int)) (a1 : List (List Int)) : Option (Bool) := (vinerylaw04_small.f k ).bind fun t5 => (if (if (decide ((a0.length : Int) > (60 : Int))) = true then true else (decide ((a1.length : Int) > (60 : Int)))) = true then some ((t5 : Bool)) else (if (([] : List (List Int)).length + a0.length) * 8 ≤ 140737488355328 then (if ((([] : List (List Int)) ++ a0).length + a1.length) * 8 ≤ 140737488355328 then (community_Set.f ((([] : List (List Int)) ++ a0) ++ a1)).bind fun t22 => (if (([] : List (List Int)).length + a1.length) * 8 ≤ 140737488355328 then (if ((([] : List (List Int)) ++ a1).length + a0.length) * 8 ≤ 140737488355328 then (if (((([] : List (List Int)) ++ a1) ++ a0).length + a1.length) * 8 ≤ 140737488355328 then (community_Set.f (((([] : List (List Int)) ++ a1) ++ a0) ++ a1)).bind fun t39 => (vinerylaw04_CommunitySets.l0 t22 k (1 : Int)).bind fun s43 => match s43 with | .inl r => some r | .inr s43' => (community_Meet.f k a0 a1).bind fun t46 => ((if t5 = true then (vineryref04_Same.f k t22 t39).bind fun t50 => (if t50 = true then (community_Meet.f k a1 a0).bind fun t52 => (if (t52 == t46) = true then (community_Set.f a0).bind fun t54 => (community_Set.f a1).bind fun t56 => (community_Meet.f k t54 t56).bind fun t58 => (if (t58 == t46) = true then some (decide ((t22.length : Int) ≤ (IntKind.i64.wrap ((a0.length : Int) + (a1.length : Int)))) : Bool) else some (false : Bool)) else some (false : Bool)) else some (false : Bool)) else some (false : Bool))).bind fun s48 => some ((s48 : Bool)) else none) else none) else none) else none) else none))
set_option maxRecDepth 100000 in
theorem vinerylaw04_CommunitySets.walk (w : World) (M : List Nat) (hM : MS M w) (hG : GF w M) (a0 : List (List Int)) (ao1 : Option Addr) (cap1 : Nat) (f1 : RSl (rArr .u8 8) 27 w M ao1 cap1 a0) (a1 : List (List Int)) (ao2 : Option Addr) (cap2 : Nat) (f2 : RSl (rArr .u8 8) 27 w M ao2 cap2 a1) (k : Nat) (r : Bool) (H : vinerylaw04_CommunitySets.f k a0 a1 = some r) :
    To Tryz.prog 4 [.slice ao1 a0.length cap1, .slice ao2 a1.length cap2] w fun v w' => v = .bool r ∧ Chg [] w w' ∧ MS (M) w' := by
 unfold vinerylaw04_CommunitySets.f at H
 refine ent Tryz.func4 rfl [(0, .slice ao1 a0.length cap1), (1, .slice ao2 a1.length cap2)] rfl (by rfl) fun a ha => ?_
 have hC : Chg [] w w := Chg.refl _ _
 refine wp_seq_k fun K3 hK3 => ?_
 refine wp_region_lit ?_
 refine seg ha 1 [(0, .slice ao1 a0.length cap1), (1, .slice ao2 a1.length cap2)] (by kernel_rfl) fun a ha => ?_
 refine hK3 _ _ ?_; try clear hK3 K3
 refine wp_seq_k fun K4 hK4 => ?_
 refine wp_region_lit ?_
 obtain ⟨t5, H5, H⟩ := bind_some H
 refine cl ha (by rfl) (by kernel_rfl) (by rfl) (by rfl) (by rfl) (vinerylaw04_small.walk w _ hM hG  k _ H5) ?_
 rintro _ w5 ⟨rfl, hc5, hMn⟩ a ha
 have o1 : Ok [] (M) w.heap.size := Ok.nil _ _
 have o2 : Ok (M) (M) w.heap.size := (Ok.refl _ _)
 have hG := hG.chg hc5 o1 o2
 have f1 := f1.chg hc5 o1 o2
 have f2 := f2.chg hc5 o1 o2
 have hM : MS (M) w5 := (hM.chg hc5)
 have hC := hC.trans hc5 (Ok.nil _ _)
 refine seg ha 1 [(0, .slice ao1 a0.length cap1), (1, .slice ao2 a1.length cap2), (5, .bool t5)] (by kernel_rfl) fun a ha => ?_
 refine hK4 _ _ ?_; try clear hK4 K4
 refine wp_seq_k fun K6 hK6 => ?_
 refine wp_seq_k fun K7 hK7 => ?_
 refine wp_region_lit ?_
 refine seg ha 8 [(0, .slice ao1 a0.length cap1), (1, .slice ao2 a1.length cap2), (5, .bool t5), (18, .bool (if (decide ((a0.length : Int) > (60 : Int))) = true then true else (decide ((a1.length : Int) > (60 : Int)))))] (by kernel_rfl) fun a ha => ?_
 refine hK7 _ _ ?_; try clear hK7 K7
 refine cnd ha rfl (fun hc8 => ?_) (fun hc8 => ?_)
 ·have H := ite_t hc8 H
  refine wp_seq_k fun K9 hK9 => ?_
  refine wp_region_lit ?_
  refine seg ha 2 [(4, .bool t5)] (by kernel_rfl) fun a ha => ?_
  refine hK9 _ _ ?_; try clear hK9 K9
  refine wp_ret ?_
  try simp only [Exit.then, Exit.inBlock]
  obtain rfl := Option.some.inj H
  refine rt1 ha rfl rfl ?_
  exact ⟨rfl, hC, hM⟩
 ·have H := ite_f hc8 H
  refine wp_skip ?_
  refine hK6 _ _ ?_; try clear hK6 K6
  refine wp_seq_k fun K10 hK10 => ?_
  refine wp_region_lit ?_
  refine bsl (vals := ([] : List Value)) (T := 27) ha rfl ([] : List Value) (fun w => by kernel_rfl) rfl rfl rfl fun a w11 g12 hN13 ha => ?_
  have o1 : Ok [] (M) w5.heap.size := Ok.nil _ _
  have o2 : Ok ([g12] ++ (M)) (M) w5.heap.size := (Ok.app (hN13.ok _) (Ok.refl _ _))
  have hG := hG.chg hN13.chg o1 o2
  have f1 := f1.chg hN13.chg o1 o2
  have f2 := f2.chg hN13.chg o1 o2
  have p_i14_M : ∀ x ∈ [g12], x ∉ M := fun x hx hy => absurd (hM x (hy)) (Nat.not_lt.2 ((hN13.ge1) x hx))
  have e_i14 : ∀ x ∈ [g12], w.heap.size ≤ x := fun x hx => Nat.le_trans hC.size ((hN13.ge1) x hx)
  have hM : MS ([g12] ++ (M)) w11 := (MS.app hN13.ms (hM.chg hN13.chg))
  have hC := hC.trans hN13.chg (Ok.nil _ _)
  have f15 : Own (rArr .u8 8) 27 w11 ([g12] ++ (M)) (some ⟨g12, 0, none⟩) 0 ([] : List (List Int)) := hN13.own rfl (Nat.le_of_ble_eq_true rfl)
  refine seg ha 1 [(0, .slice ao1 a0.length cap1), (1, .slice ao2 a1.length cap2), (5, .bool t5), (20, .slice (some ⟨g12, 0, none⟩) ([] : List (List Int)).length 0), (21, .slice ao1 a0.length cap1)] (by kernel_rfl) fun a ha => ?_
  obtain ⟨hx16, H⟩ := ite_some H
  refine app (r := (rArr .u8 8)) (xs := ([] : List (List Int))) (ys := a0) ha (ElemT.mk' (bytes := 8) (by kernel_rfl)) rfl rfl rfl rfl rfl f15 f1.src hx16 (by decide) fun a w17 ao18 cap18 hO18 hc18 hk18 hl18 ha => ?_
  have o1 : Ok [g12] ([g12] ++ (M)) w11.heap.size := (fun _ h => .inl (ml h))
  have o2 : Ok (blkL ao18 ++ (M)) ([g12] ++ (M)) w11.heap.size := (Ok.app (Ok.to hk18 (fun _ h => ml h)) (fun _ h => .inl (mr (h))))
  have hG := hG.chg hc18 o1 o2
  have f1 := f1.chg hc18 o1 o2
  have f2 := f2.chg hc18 o1 o2
  have p_i18_M : ∀ x ∈ blkL ao18, x ∉ M := fun x hx hy => (hk18 x hx).elim (fun h => p_i14_M x h hy) (fun h => absurd (hM x (mr (hy))) (Nat.not_lt.2 h))
  have e_i18 : ∀ x ∈ blkL ao18, w.heap.size ≤ x := fun x hx => (hk18 x hx).elim (e_i14 x) (Nat.le_trans hC.size)
  have hM : MS (blkL ao18 ++ (M)) w17 := (MS.app hl18 (fun x h => hM.chg hc18 x (mr (h))))
  have hC := hC.trans hc18 (fun x h => .inr (e_i14 x h))
  have f18 := hO18.chg (M' := blkL ao18 ++ (M)) (Chg.refl [] _) (Ok.nil _ _) (Ok.app (fun _ h => .inl (ml h)) (Ok.to (fun _ h => .inl (mr (h))) (fun _ h => mr h))) (fun _ _ h => nomatch h) (fun _ h => ml h)
  refine seg ha 1 [(0, .slice ao1 a0.length cap1), (1, .slice ao2 a1.length cap2), (5, .bool t5), (22, .slice ao18 (([] : List (List Int)) ++ a0).length cap18), (23, .slice ao2 a1.length cap2)] (by kernel_rfl) fun a ha => ?_
  obtain ⟨hx19, H⟩ := ite_some H
  refine app (r := (rArr .u8 8)) (xs := (([] : List (List Int)) ++ a0)) (ys := a1) ha (ElemT.mk' (bytes := 8) (by kernel_rfl)) rfl rfl rfl rfl rfl f18 f2.src hx19 (by decide) fun a w20 ao21 cap21 hO21 hc21 hk21 hl21 ha => ?_
  have o1 : Ok (blkL ao18) (blkL ao18 ++ (M)) w17.heap.size := (fun _ h => .inl (ml h))
  have o2 : Ok (blkL ao21 ++ (M)) (blkL ao18 ++ (M)) w17.heap.size := (Ok.app (Ok.to hk21 (fun _ h => ml h)) (fun _ h => .inl (mr (h))))
  have hG := hG.chg hc21 o1 o2
  have f1 := f1.chg hc21 o1 o2
  have f2 := f2.chg hc21 o1 o2
  have p_i21_M : ∀ x ∈ blkL ao21, x ∉ M := fun x hx hy => (hk21 x hx).elim (fun h => p_i18_M x h hy) (fun h => absurd (hM x (mr (hy))) (Nat.not_lt.2 h))
  have e_i21 : ∀ x ∈ blkL ao21, w.heap.size ≤ x := fun x hx => (hk21 x hx).elim (e_i18 x) (Nat.le_trans hC.size)
  have hM : MS (blkL ao21 ++ (M)) w20 := (MS.app hl21 (fun x h => hM.chg hc21 x (mr (h))))
  have hC := hC.trans hc21 (fun x h => .inr (e_i18 x h))
  have f21 := hO21.chg (M' := blkL ao21 ++ (M)) (Chg.refl [] _) (Ok.nil _ _) (Ok.app (fun _ h => .inl (ml h)) (Ok.to (fun _ h => .inl (mr (h))) (fun _ h => mr h))) (fun _ _ h => nomatch h) (fun _ h => ml h)
  have hML : MS (M) w20 := MS.rest hM (fun _ h => mr (h))
  have oL : Ok (M) (blkL ao21 ++ (M)) w20.heap.size := (fun _ h => .inl (mr (h)))
  obtain ⟨t22, H22, H⟩ := bind_some H
  refine cl ha (by rfl) (by kernel_rfl) (by rfl) (by rfl) (by rfl) (community_Set.walk w20 _ hML ((([] : List (List Int)) ++ a0) ++ a1) ao21 cap21 (Own.toRSl (M' := M) f21 oL (fun x hx hm => p_i21_M x hx hm)) _ H22) ?_
  rintro _ w22 ⟨ao23, cap23, rfl, f23, ne_i23, hc22, hMn⟩ a ha
  have o1 : Ok [] (blkL ao21 ++ (M)) w20.heap.size := Ok.nil _ _
  have o2 : Ok (blkL ao23 ++ (blkL ao21 ++ (M))) (blkL ao21 ++ (M)) w20.heap.size := (Ok.app (fun x h => .inr (ne_i23 x h)) (Ok.refl _ _))
  have hG := hG.chg hc22 o1 o2
  have f1 := f1.chg hc22 o1 o2
  have f2 := f2.chg hc22 o1 o2
  have f21 := f21.chg hc22 o1 o2 (fun _ _ h => nomatch h) (fun _ h => mr (ml h))
  have p_i23_i21 : ∀ x ∈ blkL ao23, x ∉ (blkL ao21) := fun x hx hy => absurd (hM x (ml hy)) (Nat.not_lt.2 (ne_i23 x hx))
  have p_i23_M : ∀ x ∈ blkL ao23, x ∉ M := fun x hx hy => absurd (hM x (mr (hy))) (Nat.not_lt.2 (ne_i23 x hx))
  have e_i23 : ∀ x ∈ blkL ao23, w.heap.size ≤ x := fun x hx => Nat.le_trans hC.size (ne_i23 x hx)
  have hM : MS (blkL ao23 ++ (blkL ao21 ++ (M))) w22 := (MS.app (fun x h => hMn x (ml h)) (hM.chg hc22))
  have hC := hC.trans hc22 (Ok.nil _ _)
  have f23 := Own.re (M' := blkL ao23 ++ (blkL ao21 ++ (M))) (fun _ _ _ _ _ h => h) f23 (fun _ h => ml h)
  refine seg ha 1 [(0, .slice ao1 a0.length cap1), (1, .slice ao2 a1.length cap2), (5, .bool t5), (6, .slice ao23 t22.length cap23)] (by kernel_rfl) fun a ha => ?_
  refine hK10 _ _ ?_; try clear hK10 K10
  refine wp_seq_k fun K24 hK24 => ?_
  refine wp_region_lit ?_
  refine bsl (vals := ([] : List Value)) (T := 27) ha rfl ([] : List Value) (fun w => by kernel_rfl) rfl rfl rfl fun a w25 g26 hN27 ha => ?_
  have o1 : Ok [] (blkL ao23 ++ (blkL ao21 ++ (M))) w22.heap.size := Ok.nil _ _
  have o2 : Ok ([g26] ++ (blkL ao23 ++ (blkL ao21 ++ (M)))) (blkL ao23 ++ (blkL ao21 ++ (M))) w22.heap.size := (Ok.app (hN27.ok _) (Ok.refl _ _))
  have hG := hG.chg hN27.chg o1 o2
  have f1 := f1.chg hN27.chg o1 o2
  have f2 := f2.chg hN27.chg o1 o2
  have f23 := f23.chg hN27.chg o1 o2 (fun _ _ h => nomatch h) (fun _ h => mr (ml h))
  have p_i28_i23 : ∀ x ∈ [g26], x ∉ (blkL ao23) := fun x hx hy => absurd (hM x (ml hy)) (Nat.not_lt.2 ((hN27.ge1) x hx))
  have p_i28_i21 : ∀ x ∈ [g26], x ∉ (blkL ao21) := fun x hx hy => absurd (hM x (mr (ml hy))) (Nat.not_lt.2 ((hN27.ge1) x hx))
  have p_i28_M : ∀ x ∈ [g26], x ∉ M := fun x hx hy => absurd (hM x (mr (mr (hy)))) (Nat.not_lt.2 ((hN27.ge1) x hx))
  have e_i28 : ∀ x ∈ [g26], w.heap.size ≤ x := fun x hx => Nat.le_trans hC.size ((hN27.ge1) x hx)
  have hM : MS ([g26] ++ (blkL ao23 ++ (blkL ao21 ++ (M)))) w25 := (MS.app hN27.ms (hM.chg hN27.chg))
  have hC := hC.trans hN27.chg (Ok.nil _ _)
  have f29 : Own (rArr .u8 8) 27 w25 ([g26] ++ (blkL ao23 ++ (blkL ao21 ++ (M)))) (some ⟨g26, 0, none⟩) 0 ([] : List (List Int)) := hN27.own rfl (Nat.le_of_ble_eq_true rfl)
  refine seg ha 1 [(0, .slice ao1 a0.length cap1), (1, .slice ao2 a1.length cap2), (5, .bool t5), (6, .slice ao23 t22.length cap23), (26, .slice (some ⟨g26, 0, none⟩) ([] : List (List Int)).length 0), (27, .slice ao2 a1.length cap2)] (by kernel_rfl) fun a ha => ?_
  obtain ⟨hx30, H⟩ := ite_some H
  refine app (r := (rArr .u8 8)) (xs := ([] : List (List Int))) (ys := a1) ha (ElemT.mk' (bytes := 8) (by kernel_rfl)) rfl rfl rfl rfl rfl f29 f2.src hx30 (by decide) fun a w31 ao32 cap32 hO32 hc32 hk32 hl32 ha => ?_
  have o1 : Ok [g26] ([g26] ++ (blkL ao23 ++ (blkL ao21 ++ (M)))) w25.heap.size := (fun _ h => .inl (ml h))
  have o2 : Ok (blkL ao32 ++ (blkL ao23 ++ (blkL ao21 ++ (M)))) ([g26] ++ (blkL ao23 ++ (blkL ao21 ++ (M)))) w25.heap.size := (Ok.app (Ok.to hk32 (fun _ h => ml h)) (fun _ h => .inl (mr (h))))
  have hG := hG.chg hc32 o1 o2
  have f1 := f1.chg hc32 o1 o2
  have f2 := f2.chg hc32 o1 o2
  have f23 := f23.chg hc32 o1 o2 (fun x (hx : x ∈ blkL ao23) (hy : x ∈ [g26]) => p_i28_i23 x hy hx) (fun _ h => mr (ml h))
  have p_i32_i23 : ∀ x ∈ blkL ao32, x ∉ (blkL ao23) := fun x hx hy => (hk32 x hx).elim (fun h => p_i28_i23 x h hy) (fun h => absurd (hM x (mr (ml hy))) (Nat.not_lt.2 h))
  have p_i32_i21 : ∀ x ∈ blkL ao32, x ∉ (blkL ao21) := fun x hx hy => (hk32 x hx).elim (fun h => p_i28_i21 x h hy) (fun h => absurd (hM x (mr (mr (ml hy)))) (Nat.not_lt.2 h))
  have p_i32_M : ∀ x ∈ blkL ao32, x ∉ M := fun x hx hy => (hk32 x hx).elim (fun h => p_i28_M x h hy) (fun h => absurd (hM x (mr (mr (mr (hy))))) (Nat.not_lt.2 h))
  have e_i32 : ∀ x ∈ blkL ao32, w.heap.size ≤ x := fun x hx => (hk32 x hx).elim (e_i28 x) (Nat.le_trans hC.size)
  have hM : MS (blkL ao32 ++ (blkL ao23 ++ (blkL ao21 ++ (M)))) w31 := (MS.app hl32 (fun x h => hM.chg hc32 x (mr (h))))
  have hC := hC.trans hc32 (fun x h => .inr (e_i28 x h))
  have f32 := hO32.chg (M' := blkL ao32 ++ (blkL ao23 ++ (blkL ao21 ++ (M)))) (Chg.refl [] _) (Ok.nil _ _) (Ok.app (fun _ h => .inl (ml h)) (Ok.to (fun _ h => .inl (mr (h))) (fun _ h => mr h))) (fun _ _ h => nomatch h) (fun _ h => ml h)
  refine seg ha 1 [(0, .slice ao1 a0.length cap1), (1, .slice ao2 a1.length cap2), (5, .bool t5), (6, .slice ao23 t22.length cap23), (28, .slice ao32 (([] : List (List Int)) ++ a1).length cap32), (29, .slice ao1 a0.length cap1)] (by kernel_rfl) fun a ha => ?_
  obtain ⟨hx33, H⟩ := ite_some H
  refine app (r := (rArr .u8 8)) (xs := (([] : List (List Int)) ++ a1)) (ys := a0) ha (ElemT.mk' (bytes := 8) (by kernel_rfl)) rfl rfl rfl rfl rfl f32 f1.src hx33 (by decide) fun a w34 ao35 cap35 hO35 hc35 hk35 hl35 ha => ?_
  have o1 : Ok (blkL ao32) (blkL ao32 ++ (blkL ao23 ++ (blkL ao21 ++ (M)))) w31.heap.size := (fun _ h => .inl (ml h))
  have o2 : Ok (blkL ao35 ++ (blkL ao23 ++ (blkL ao21 ++ (M)))) (blkL ao32 ++ (blkL ao23 ++ (blkL ao21 ++ (M)))) w31.heap.size := (Ok.app (Ok.to hk35 (fun _ h => ml h)) (fun _ h => .inl (mr (h))))
  have hG := hG.chg hc35 o1 o2
  have f1 := f1.chg hc35 o1 o2
  have f2 := f2.chg hc35 o1 o2
  have f23 := f23.chg hc35 o1 o2 (fun x (hx : x ∈ blkL ao23) (hy : x ∈ blkL ao32) => p_i32_i23 x hy hx) (fun _ h => mr (ml h))
  have p_i35_i23 : ∀ x ∈ blkL ao35, x ∉ (blkL ao23) := fun x hx hy => (hk35 x hx).elim (fun h => p_i32_i23 x h hy) (fun h => absurd (hM x (mr (ml hy))) (Nat.not_lt.2 h))
  have p_i35_i21 : ∀ x ∈ blkL ao35, x ∉ (blkL ao21) := fun x hx hy => (hk35 x hx).elim (fun h => p_i32_i21 x h hy) (fun h => absurd (hM x (mr (mr (ml hy)))) (Nat.not_lt.2 h))
  have p_i35_M : ∀ x ∈ blkL ao35, x ∉ M := fun x hx hy => (hk35 x hx).elim (fun h => p_i32_M x h hy) (fun h => absurd (hM x (mr (mr (mr (hy))))) (Nat.not_lt.2 h))
  have e_i35 : ∀ x ∈ blkL ao35, w.heap.size ≤ x := fun x hx => (hk35 x hx).elim (e_i32 x) (Nat.le_trans hC.size)
  have hM : MS (blkL ao35 ++ (blkL ao23 ++ (blkL ao21 ++ (M)))) w34 := (MS.app hl35 (fun x h => hM.chg hc35 x (mr (h))))
  have hC := hC.trans hc35 (fun x h => .inr (e_i32 x h))
  have f35 := hO35.chg (M' := blkL ao35 ++ (blkL ao23 ++ (blkL ao21 ++ (M)))) (Chg.refl [] _) (Ok.nil _ _) (Ok.app (fun _ h => .inl (ml h)) (Ok.to (fun _ h => .inl (mr (h))) (fun _ h => mr h))) (fun _ _ h => nomatch h) (fun _ h => ml h)
  refine seg ha 1 [(0, .slice ao1 a0.length cap1), (1, .slice ao2 a1.length cap2), (5, .bool t5), (6, .slice ao23 t22.length cap23), (30, .slice ao35 ((([] : List (List Int)) ++ a1) ++ a0).length cap35), (31, .slice ao2 a1.length cap2)] (by kernel_rfl) fun a ha => ?_
  obtain ⟨hx36, H⟩ := ite_some H
  refine app (r := (rArr .u8 8)) (xs := ((([] : List (List Int)) ++ a1) ++ a0)) (ys := a1) ha (ElemT.mk' (bytes := 8) (by kernel_rfl)) rfl rfl rfl rfl rfl f35 f2.src hx36 (by decide) fun a w37 ao38 cap38 hO38 hc38 hk38 hl38 ha => ?_
  have o1 : Ok (blkL ao35) (blkL ao35 ++ (blkL ao23 ++ (blkL ao21 ++ (M)))) w34.heap.size := (fun _ h => .inl (ml h))
  have o2 : Ok (blkL ao38 ++ (blkL ao23 ++ (blkL ao21 ++ (M)))) (blkL ao35 ++ (blkL ao23 ++ (blkL ao21 ++ (M)))) w34.heap.size := (Ok.app (Ok.to hk38 (fun _ h => ml h)) (fun _ h => .inl (mr (h))))
  have hG := hG.chg hc38 o1 o2
  have f1 := f1.chg hc38 o1 o2
  have f2 := f2.chg hc38 o1 o2
  have f23 := f23.chg hc38 o1 o2 (fun x (hx : x ∈ blkL ao23) (hy : x ∈ blkL ao35) => p_i35_i23 x hy hx) (fun _ h => mr (ml h))
  have p_i38_i23 : ∀ x ∈ blkL ao38, x ∉ (blkL ao23) := fun x hx hy => (hk38 x hx).elim (fun h => p_i35_i23 x h hy) (fun h => absurd (hM x (mr (ml hy))) (Nat.not_lt.2 h))
  have p_i38_i21 : ∀ x ∈ blkL ao38, x ∉ (blkL ao21) := fun x hx hy => (hk38 x hx).elim (fun h => p_i35_i21 x h hy) (fun h => absurd (hM x (mr (mr (ml hy)))) (Nat.not_lt.2 h))
  have p_i38_M : ∀ x ∈ blkL ao38, x ∉ M := fun x hx hy => (hk38 x hx).elim (fun h => p_i35_M x h hy) (fun h => absurd (hM x (mr (mr (mr (hy))))) (Nat.not_lt.2 h))
  have e_i38 : ∀ x ∈ blkL ao38, w.heap.size ≤ x := fun x hx => (hk38 x hx).elim (e_i35 x) (Nat.le_trans hC.size)
  have hM : MS (blkL ao38 ++ (blkL ao23 ++ (blkL ao21 ++ (M)))) w37 := (MS.app hl38 (fun x h => hM.chg hc38 x (mr (h))))
  have hC := hC.trans hc38 (fun x h => .inr (e_i35 x h))
  have f38 := hO38.chg (M' := blkL ao38 ++ (blkL ao23 ++ (blkL ao21 ++ (M)))) (Chg.refl [] _) (Ok.nil _ _) (Ok.app (fun _ h => .inl (ml h)) (Ok.to (fun _ h => .inl (mr (h))) (fun _ h => mr h))) (fun _ _ h => nomatch h) (fun _ h => ml h)
  have hML : MS (blkL ao23 ++ (blkL ao21 ++ (M))) w37 := MS.rest hM (fun _ h => (List.mem_append.1 h).elim (fun h => mr (ml h)) (fun h => (List.mem_append.1 h).elim (fun h => mr (mr (ml h))) (fun h => mr (mr (mr (h))))))
  have oL : Ok (blkL ao23 ++ (blkL ao21 ++ (M))) (blkL ao38 ++ (blkL ao23 ++ (blkL ao21 ++ (M)))) w37.heap.size := (fun _ h => .inl (mr (h)))
  obtain ⟨t39, H39, H⟩ := bind_some H
  refine cl ha (by rfl) (by kernel_rfl) (by rfl) (by rfl) (by rfl) (community_Set.walk w37 _ hML (((([] : List (List Int)) ++ a1) ++ a0) ++ a1) ao38 cap38 (Own.toRSl (M' := blkL ao23 ++ (blkL ao21 ++ (M))) f38 oL (fun x hx hm => (List.mem_append.1 hm).elim (fun h => p_i38_i23 x hx h) (fun h => (List.mem_append.1 h).elim (fun h => p_i38_i21 x hx h) (fun h => p_i38_M x hx h)))) _ H39) ?_
  rintro _ w39 ⟨ao40, cap40, rfl, f40, ne_i40, hc39, hMn⟩ a ha
  have o1 : Ok [] (blkL ao38 ++ (blkL ao23 ++ (blkL ao21 ++ (M)))) w37.heap.size := Ok.nil _ _
  have o2 : Ok (blkL ao40 ++ (blkL ao38 ++ (blkL ao23 ++ (blkL ao21 ++ (M))))) (blkL ao38 ++ (blkL ao23 ++ (blkL ao21 ++ (M)))) w37.heap.size := (Ok.app (fun x h => .inr (ne_i40 x h)) (Ok.refl _ _))
  have hG := hG.chg hc39 o1 o2
  have f1 := f1.chg hc39 o1 o2
  have f2 := f2.chg hc39 o1 o2
  have f23 := f23.chg hc39 o1 o2 (fun _ _ h => nomatch h) (fun _ h => mr (mr (ml h)))
  have f38 := f38.chg hc39 o1 o2 (fun _ _ h => nomatch h) (fun _ h => mr (ml h))
  have p_i40_i38 : ∀ x ∈ blkL ao40, x ∉ (blkL ao38) := fun x hx hy => absurd (hM x (ml hy)) (Nat.not_lt.2 (ne_i40 x hx))
  have p_i40_i23 : ∀ x ∈ blkL ao40, x ∉ (blkL ao23) := fun x hx hy => absurd (hM x (mr (ml hy))) (Nat.not_lt.2 (ne_i40 x hx))
  have p_i40_i21 : ∀ x ∈ blkL ao40, x ∉ (blkL ao21) := fun x hx hy => absurd (hM x (mr (mr (ml hy)))) (Nat.not_lt.2 (ne_i40 x hx))
  have p_i40_M : ∀ x ∈ blkL ao40, x ∉ M := fun x hx hy => absurd (hM x (mr (mr (mr (hy))))) (Nat.not_lt.2 (ne_i40 x hx))
  have e_i40 : ∀ x ∈ blkL ao40, w.heap.size ≤ x := fun x hx => Nat.le_trans hC.size (ne_i40 x hx)
  have hM : MS (blkL ao40 ++ (blkL ao38 ++ (blkL ao23 ++ (blkL ao21 ++ (M))))) w39 := (MS.app (fun x h => hMn x (ml h)) (hM.chg hc39))
  have hC := hC.trans hc39 (Ok.nil _ _)
  have f40 := Own.re (M' := blkL ao40 ++ (blkL ao38 ++ (blkL ao23 ++ (blkL ao21 ++ (M))))) (fun _ _ _ _ _ h => h) f40 (fun _ h => ml h)
  refine seg ha 1 [(0, .slice ao1 a0.length cap1), (1, .slice ao2 a1.length cap2), (5, .bool t5), (6, .slice ao23 t22.length cap23), (7, .slice ao40 t39.length cap40)] (by kernel_rfl) fun a ha => ?_
  refine hK24 _ _ ?_; try clear hK24 K24
  refine wp_seq_k fun K41 hK41 => ?_
  refine wp_seq_k fun K42 hK42 => ?_
  refine wp_region_lit ?_
  refine seg ha 1 [(0, .slice ao1 a0.length cap1), (1, .slice ao2 a1.length cap2), (5, .bool t5), (6, .slice ao23 t22.length cap23), (7, .slice ao40 t39.length cap40), (8, .int .i64 (1 : Int))] (by kernel_rfl) fun a ha => ?_
  refine hK42 _ _ ?_; try clear hK42 K42
  refine wp_block ?_
  obtain ⟨s43, H43, H⟩ := bind_some H
  have J43 : ∀ s43' (a : Act) (wx43 : World), s43 = .inr s43' → Has a Tryz.f4.ntmps [(0, .slice ao1 a0.length cap1), (1, .slice ao2 a1.length cap2), (5, .bool t5), (6, .slice ao23 t22.length cap23), (7, .slice ao40 t39.length cap40)] → (RSl (rArr .u8 8) 27 wx43 (blkL ao40 ++ (blkL ao23 ++ (M))) ao1 cap1 a0) → (RSl (rArr .u8 8) 27 wx43 (blkL ao40 ++ (blkL ao23 ++ (M))) ao2 cap2 a1) → (Own (rArr .u8 8) 27 wx43 (blkL ao40 ++ (blkL ao23 ++ (M))) ao23 cap23 t22) → (Own (rArr .u8 8) 27 wx43 (blkL ao40 ++ (blkL ao23 ++ (M))) ao40 cap40 t39) → (GF wx43 (blkL ao40 ++ (blkL ao23 ++ (M)))) → (Chg [] w wx43) → (MS (blkL ao40 ++ (blkL ao23 ++ (M))) wx43) → K41 a wx43 := by
   intro s43' a wx43 hs ha f1 f2 f23 f40 hG hC hM
   subst hs
   refine hK41 _ _ ?_; try clear hK41 K41
   refine wp_seq_k fun K45 hK45 => ?_
   refine wp_region_lit ?_
   refine seg ha 2 [(0, .slice ao1 a0.length cap1), (1, .slice ao2 a1.length cap2), (5, .bool t5), (6, .slice ao23 t22.length cap23), (7, .slice ao40 t39.length cap40), (52, .slice ao1 a0.length cap1), (53, .slice ao2 a1.length cap2)] (by kernel_rfl) fun a ha => ?_
   obtain ⟨t46, H46, H⟩ := bind_some H
   refine cl ha (by rfl) (by kernel_rfl) (by rfl) (by rfl) (by rfl) (community_Meet.walk wx43 _ hM a0 ao1 cap1 f1 a1 ao2 cap2 f2 k _ H46) ?_
   rintro _ w46 ⟨rfl, hc46, hMn⟩ a ha
   have o1 : Ok [] (blkL ao40 ++ (blkL ao23 ++ (M))) wx43.heap.size := Ok.nil _ _
   have o2 : Ok (blkL ao40 ++ (blkL ao23 ++ (M))) (blkL ao40 ++ (blkL ao23 ++ (M))) wx43.heap.size := (Ok.refl _ _)
   have hG := hG.chg hc46 o1 o2
   have f1 := f1.chg hc46 o1 o2
   have f2 := f2.chg hc46 o1 o2
   have f23 := f23.chg hc46 o1 o2 (fun _ _ h => nomatch h) (fun _ h => mr (ml h))
   have f40 := f40.chg hc46 o1 o2 (fun _ _ h => nomatch h) (fun _ h => ml h)
   have hM : MS (blkL ao40 ++ (blkL ao23 ++ (M))) w46 := (hM.chg hc46)
   have hC := hC.trans hc46 (Ok.nil _ _)
   refine seg ha 1 [(0, .slice ao1 a0.length cap1), (1, .slice ao2 a1.length cap2), (5, .bool t5), (6, .slice ao23 t22.length cap23), (7, .slice ao40 t39.length cap40), (9, .bool t46)] (by kernel_rfl) fun a ha => ?_
   refine hK45 _ _ ?_; try clear hK45 K45
   refine wp_seq_k fun K47 hK47 => ?_
   refine wp_region_lit ?_
   obtain ⟨s48, H48, H⟩ := bind_some H
   have J48 : ∀ (a : Act) (w48 : World), Has a Tryz.f4.ntmps [(4, .bool s48)] → (GF w48 (M)) → (Chg [] w w48) → (MS (M) w48) → K47 a w48 := by
    intro a w48 ha hG hC hM
    refine hK47 _ _ ?_; try clear hK47 K47
    refine wp_ret ?_
    try simp only [Exit.then, Exit.inBlock]
    obtain rfl := Option.some.inj H
    refine rt1 ha rfl rfl ?_
    exact ⟨rfl, hC, hM⟩
   have H := H48
   refine seg ha 2 [(56, .bool t5), (0, .slice ao1 a0.length cap1), (1, .slice ao2 a1.length cap2), (6, .slice ao23 t22.length cap23), (7, .slice ao40 t39.length cap40), (9, .bool t46)] (by kernel_rfl) fun a ha => ?_
   rcases Bool.eq_false_or_eq_true (t5) with hb49 | hb49
   ·have ha := ha.lit hb49
    have H := ite_t hb49 H
    refine sgh ha 2 [2, 2] [(0, .slice ao1 a0.length cap1), (1, .slice ao2 a1.length cap2), (6, .slice ao23 t22.length cap23), (9, .bool t46), (56, .bool true), (57, .slice ao23 t22.length cap23), (58, .slice ao40 t39.length cap40)] (by kernel_rfl) fun a ha => ?_
    have hML : MS (M) w46 := MS.rest hM (fun _ h => mr (mr (h)))
    have oL : Ok (M) (blkL ao40 ++ (blkL ao23 ++ (M))) w46.heap.size := (fun _ h => .inl (mr (mr (h))))
    obtain ⟨t50, H50, H⟩ := bind_some H
    refine cl ha (by rfl) (by kernel_rfl) (by rfl) (by rfl) (by rfl) (vineryref04_Same.walk w46 _ hML t22 ao23 cap23 (Own.toRSl (M' := M) f23 oL (fun x hx hm => p_i23_M x hx hm)) t39 ao40 cap40 (Own.toRSl (M' := M) f40 oL (fun x hx hm => p_i40_M x hx hm)) k _ H50) ?_
    rintro _ w50 ⟨rfl, hc50, hMn⟩ a ha
    have o1 : Ok [] (blkL ao40 ++ (blkL ao23 ++ (M))) w46.heap.size := Ok.nil _ _
    have o2 : Ok (blkL ao40 ++ (blkL ao23 ++ (M))) (blkL ao40 ++ (blkL ao23 ++ (M))) w46.heap.size := (Ok.refl _ _)
    have hG := hG.chg hc50 o1 o2
    have f1 := f1.chg hc50 o1 o2
    have f2 := f2.chg hc50 o1 o2
    have f23 := f23.chg hc50 o1 o2 (fun _ _ h => nomatch h) (fun _ h => mr (ml h))
    have f40 := f40.chg hc50 o1 o2 (fun _ _ h => nomatch h) (fun _ h => ml h)
    have hM : MS (blkL ao40 ++ (blkL ao23 ++ (M))) w50 := (hM.chg hc50)
    have hC := hC.trans hc50 (Ok.nil _ _)
    refine sgh ha 2 [3, 0] [(61, .bool t50), (0, .slice ao1 a0.length cap1), (1, .slice ao2 a1.length cap2), (6, .slice ao23 t22.length cap23), (9, .bool t46)] (by kernel_rfl) fun a ha => ?_
    rcases Bool.eq_false_or_eq_true (t50) with hb51 | hb51
    ·have ha := ha.lit hb51
     have H := ite_t hb51 H
     refine sgh ha 2 [2, 2] [(0, .slice ao1 a0.length cap1), (1, .slice ao2 a1.length cap2), (6, .slice ao23 t22.length cap23), (9, .bool t46), (61, .bool true), (62, .slice ao2 a1.length cap2), (63, .slice ao1 a0.length cap1)] (by kernel_rfl) fun a ha => ?_
     obtain ⟨t52, H52, H⟩ := bind_some H
     refine cl ha (by rfl) (by kernel_rfl) (by rfl) (by rfl) (by rfl) (community_Meet.walk w50 _ hM a1 ao2 cap2 f2 a0 ao1 cap1 f1 k _ H52) ?_
     rintro _ w52 ⟨rfl, hc52, hMn⟩ a ha
     have o1 : Ok [] (blkL ao40 ++ (blkL ao23 ++ (M))) w50.heap.size := Ok.nil _ _
     have o2 : Ok (blkL ao40 ++ (blkL ao23 ++ (M))) (blkL ao40 ++ (blkL ao23 ++ (M))) w50.heap.size := (Ok.refl _ _)
     have hG := hG.chg hc52 o1 o2
     have f1 := f1.chg hc52 o1 o2
     have f2 := f2.chg hc52 o1 o2
     have f23 := f23.chg hc52 o1 o2 (fun _ _ h => nomatch h) (fun _ h => mr (ml h))
     have hM : MS (blkL ao40 ++ (blkL ao23 ++ (M))) w52 := (hM.chg hc52)
     have hC := hC.trans hc52 (Ok.nil _ _)
     refine sgh ha 4 [2, 2, 3, 0] [(68, .bool (t52 == t46)), (0, .slice ao1 a0.length cap1), (1, .slice ao2 a1.length cap2), (6, .slice ao23 t22.length cap23), (9, .bool t46)] (by kernel_rfl) fun a ha => ?_
     rcases Bool.eq_false_or_eq_true (t52 == t46) with hb53 | hb53
     ·have ha := ha.lit hb53
      have H := ite_t hb53 H
      refine sgh ha 1 [2] [(0, .slice ao1 a0.length cap1), (1, .slice ao2 a1.length cap2), (6, .slice ao23 t22.length cap23), (9, .bool t46), (68, .bool true), (69, .slice ao1 a0.length cap1)] (by kernel_rfl) fun a ha => ?_
      obtain ⟨t54, H54, H⟩ := bind_some H
      refine cl ha (by rfl) (by kernel_rfl) (by rfl) (by rfl) (by rfl) (community_Set.walk w52 _ hM a0 ao1 cap1 f1 _ H54) ?_
      rintro _ w54 ⟨ao55, cap55, rfl, f55, ne_i55, hc54, hMn⟩ a ha
      have o1 : Ok [] (blkL ao40 ++ (blkL ao23 ++ (M))) w52.heap.size := Ok.nil _ _
      have o2 : Ok (blkL ao55 ++ (blkL ao40 ++ (blkL ao23 ++ (M)))) (blkL ao40 ++ (blkL ao23 ++ (M))) w52.heap.size := (Ok.app (fun x h => .inr (ne_i55 x h)) (Ok.refl _ _))
      have hG := hG.chg hc54 o1 o2
      have f1 := f1.chg hc54 o1 o2
      have f2 := f2.chg hc54 o1 o2
      have f23 := f23.chg hc54 o1 o2 (fun _ _ h => nomatch h) (fun _ h => mr (mr (ml h)))
      have p_i55_i40 : ∀ x ∈ blkL ao55, x ∉ (blkL ao40) := fun x hx hy => absurd (hM x (ml hy)) (Nat.not_lt.2 (ne_i55 x hx))
      have p_i55_i23 : ∀ x ∈ blkL ao55, x ∉ (blkL ao23) := fun x hx hy => absurd (hM x (mr (ml hy))) (Nat.not_lt.2 (ne_i55 x hx))
      have p_i55_M : ∀ x ∈ blkL ao55, x ∉ M := fun x hx hy => absurd (hM x (mr (mr (hy)))) (Nat.not_lt.2 (ne_i55 x hx))
      have e_i55 : ∀ x ∈ blkL ao55, w.heap.size ≤ x := fun x hx => Nat.le_trans hC.size (ne_i55 x hx)
      have hM : MS (blkL ao55 ++ (blkL ao40 ++ (blkL ao23 ++ (M)))) w54 := (MS.app (fun x h => hMn x (ml h)) (hM.chg hc54))
      have hC := hC.trans hc54 (Ok.nil _ _)
      refine sgh ha 1 [2] [(0, .slice ao1 a0.length cap1), (1, .slice ao2 a1.length cap2), (6, .slice ao23 t22.length cap23), (9, .bool t46), (68, .bool true), (70, .slice ao55 t54.length cap55), (71, .slice ao2 a1.length cap2)] (by kernel_rfl) fun a ha => ?_
      obtain ⟨t56, H56, H⟩ := bind_some H
      refine cl ha (by rfl) (by kernel_rfl) (by rfl) (by rfl) (by rfl) (community_Set.walk w54 _ hM a1 ao2 cap2 f2 _ H56) ?_
      rintro _ w56 ⟨ao57, cap57, rfl, f57, ne_i57, hc56, hMn⟩ a ha
      have o1 : Ok [] (blkL ao55 ++ (blkL ao40 ++ (blkL ao23 ++ (M)))) w54.heap.size := Ok.nil _ _
      have o2 : Ok (blkL ao57 ++ (blkL ao55 ++ (blkL ao40 ++ (blkL ao23 ++ (M))))) (blkL ao55 ++ (blkL ao40 ++ (blkL ao23 ++ (M)))) w54.heap.size := (Ok.app (fun x h => .inr (ne_i57 x h)) (Ok.refl _ _))
      have hG := hG.chg hc56 o1 o2
      have f1 := f1.chg hc56 o1 o2
      have f2 := f2.chg hc56 o1 o2
      have f23 := f23.chg hc56 o1 o2 (fun _ _ h => nomatch h) (fun _ h => mr (mr (mr (ml h))))
      have f55 := f55.chg hc56 o1 o2 (fun _ _ h => nomatch h) (fun _ h => mr (ml h))
      have p_i57_i55 : ∀ x ∈ blkL ao57, x ∉ (blkL ao55) := fun x hx hy => absurd (hM x (ml hy)) (Nat.not_lt.2 (ne_i57 x hx))
      have p_i57_i40 : ∀ x ∈ blkL ao57, x ∉ (blkL ao40) := fun x hx hy => absurd (hM x (mr (ml hy))) (Nat.not_lt.2 (ne_i57 x hx))
      have p_i57_i23 : ∀ x ∈ blkL ao57, x ∉ (blkL ao23) := fun x hx hy => absurd (hM x (mr (mr (ml hy)))) (Nat.not_lt.2 (ne_i57 x hx))
      have p_i57_M : ∀ x ∈ blkL ao57, x ∉ M := fun x hx hy => absurd (hM x (mr (mr (mr (hy))))) (Nat.not_lt.2 (ne_i57 x hx))
      have e_i57 : ∀ x ∈ blkL ao57, w.heap.size ≤ x := fun x hx => Nat.le_trans hC.size (ne_i57 x hx)
      have hM : MS (blkL ao57 ++ (blkL ao55 ++ (blkL ao40 ++ (blkL ao23 ++ (M))))) w56 := (MS.app (fun x h => hMn x (ml h)) (hM.chg hc56))
      have hC := hC.trans hc56 (Ok.nil _ _)
      have hML : MS (blkL ao40 ++ (blkL ao23 ++ (M))) w56 := MS.rest hM (fun _ h => (List.mem_append.1 h).elim (fun h => mr (mr (ml h))) (fun h => (List.mem_append.1 h).elim (fun h => mr (mr (mr (ml h)))) (fun h => mr (mr (mr (mr (h)))))))
      have oL : Ok (blkL ao40 ++ (blkL ao23 ++ (M))) (blkL ao57 ++ (blkL ao55 ++ (blkL ao40 ++ (blkL ao23 ++ (M))))) w56.heap.size := (fun _ h => .inl (mr (mr (h))))
      obtain ⟨t58, H58, H⟩ := bind_some H
      refine cl ha (by rfl) (by kernel_rfl) (by rfl) (by rfl) (by rfl) (community_Meet.walk w56 _ hML t54 ao55 cap55 (Own.toRSl (M' := blkL ao40 ++ (blkL ao23 ++ (M))) f55 oL (fun x hx hm => (List.mem_append.1 hm).elim (fun h => p_i55_i40 x hx h) (fun h => (List.mem_append.1 h).elim (fun h => p_i55_i23 x hx h) (fun h => p_i55_M x hx h)))) t56 ao57 cap57 (Own.toRSl (M' := blkL ao40 ++ (blkL ao23 ++ (M))) f57 oL (fun x hx hm => (List.mem_append.1 hm).elim (fun h => p_i57_i40 x hx h) (fun h => (List.mem_append.1 h).elim (fun h => p_i57_i23 x hx h) (fun h => p_i57_M x hx h)))) k _ H58) ?_
      rintro _ w58 ⟨rfl, hc58, hMn⟩ a ha
      have o1 : Ok [] (blkL ao57 ++ (blkL ao55 ++ (blkL ao40 ++ (blkL ao23 ++ (M))))) w56.heap.size := Ok.nil _ _
      have o2 : Ok (blkL ao57 ++ (blkL ao55 ++ (blkL ao40 ++ (blkL ao23 ++ (M))))) (blkL ao57 ++ (blkL ao55 ++ (blkL ao40 ++ (blkL ao23 ++ (M))))) w56.heap.size := (Ok.refl _ _)
      have hG := hG.chg hc58 o1 o2
      have f1 := f1.chg hc58 o1 o2
      have f2 := f2.chg hc58 o1 o2
      have f23 := f23.chg hc58 o1 o2 (fun _ _ h => nomatch h) (fun _ h => mr (mr (mr (ml h))))
      have f55 := f55.chg hc58 o1 o2 (fun _ _ h => nomatch h) (fun _ h => mr (ml h))
      have f57 := f57.chg hc58 o1 o2 (fun _ _ h => nomatch h) (fun _ h => ml h)
      have hM : MS (blkL ao57 ++ (blkL ao55 ++ (blkL ao40 ++ (blkL ao23 ++ (M))))) w58 := (hM.chg hc58)
      have hC := hC.trans hc58 (Ok.nil _ _)
      refine sgh ha 4 [2, 2, 3, 0] [(77, .bool (t58 == t46)), (0, .slice ao1 a0.length cap1), (1, .slice ao2 a1.length cap2), (6, .slice ao23 t22.length cap23)] (by kernel_rfl) fun a ha => ?_
      rcases Bool.eq_false_or_eq_true (t58 == t46) with hb59 | hb59
      ·have ha := ha.lit hb59
       have H := ite_t hb59 H
       refine sgh ha 10 [2, 2, 2, 2, 2, 2, 2, 2, 3, 0] [(4, .bool (decide ((t22.length : Int) ≤ (IntKind.i64.wrap ((a0.length : Int) + (a1.length : Int))))))] (by kernel_rfl) fun a ha => ?_
       obtain rfl := Option.some.inj H
       have o1 : Ok [] (blkL ao57 ++ (blkL ao55 ++ (blkL ao40 ++ (blkL ao23 ++ (M))))) w58.heap.size := Ok.nil _ _
       have o2 : Ok (M) (blkL ao57 ++ (blkL ao55 ++ (blkL ao40 ++ (blkL ao23 ++ (M))))) w58.heap.size := (fun _ h => .inl (mr (mr (mr (mr (h))))))
       have hG := hG.chg (Chg.refl [] _) o1 o2
       have hM : MS (M) w58 := (fun x h => hM.chg (Chg.refl [] _) x (mr (mr (mr (mr (h))))))
       exact J48 _ _ (ha.sel (by kernel_rfl)) hG hC hM
      ·have ha := ha.lit hb59
       have H := ite_f hb59 H
       refine sgh ha 10 [1, 1, 1, 1, 1, 1, 1, 1, 4, 0] [(4, .bool false)] (by kernel_rfl) fun a ha => ?_
       obtain rfl := Option.some.inj H
       have o1 : Ok [] (blkL ao57 ++ (blkL ao55 ++ (blkL ao40 ++ (blkL ao23 ++ (M))))) w58.heap.size := Ok.nil _ _
       have o2 : Ok (M) (blkL ao57 ++ (blkL ao55 ++ (blkL ao40 ++ (blkL ao23 ++ (M))))) w58.heap.size := (fun _ h => .inl (mr (mr (mr (mr (h))))))
       have hG := hG.chg (Chg.refl [] _) o1 o2
       have hM : MS (M) w58 := (fun x h => hM.chg (Chg.refl [] _) x (mr (mr (mr (mr (h))))))
       exact J48 _ _ (ha.sel (by kernel_rfl)) hG hC hM
     ·have ha := ha.lit hb53
      have H := ite_f hb53 H
      refine sgh ha 19 [1, 1, 1, 1, 1, 1, 1, 4, 0, 1, 1, 1, 1, 1, 1, 1, 1, 4, 0] [(4, .bool false)] (by kernel_rfl) fun a ha => ?_
      obtain rfl := Option.some.inj H
      have o1 : Ok [] (blkL ao40 ++ (blkL ao23 ++ (M))) w52.heap.size := Ok.nil _ _
      have o2 : Ok (M) (blkL ao40 ++ (blkL ao23 ++ (M))) w52.heap.size := (fun _ h => .inl (mr (mr (h))))
      have hG := hG.chg (Chg.refl [] _) o1 o2
      have hM : MS (M) w52 := (fun x h => hM.chg (Chg.refl [] _) x (mr (mr (h))))
      exact J48 _ _ (ha.sel (by kernel_rfl)) hG hC hM
    ·have ha := ha.lit hb51
     have H := ite_f hb51 H
     refine sgh ha 26 [1, 1, 1, 1, 1, 4, 0, 1, 1, 1, 1, 1, 1, 1, 4, 0, 1, 1, 1, 1, 1, 1, 1, 1, 4, 0] [(4, .bool false)] (by kernel_rfl) fun a ha => ?_
     obtain rfl := Option.some.inj H
     have o1 : Ok [] (blkL ao40 ++ (blkL ao23 ++ (M))) w50.heap.size := Ok.nil _ _
     have o2 : Ok (M) (blkL ao40 ++ (blkL ao23 ++ (M))) w50.heap.size := (fun _ h => .inl (mr (mr (h))))
     have hG := hG.chg (Chg.refl [] _) o1 o2
     have hM : MS (M) w50 := (fun x h => hM.chg (Chg.refl [] _) x (mr (mr (h))))
     exact J48 _ _ (ha.sel (by kernel_rfl)) hG hC hM
   ·have ha := ha.lit hb49
    have H := ite_f hb49 H
    refine sgh ha 31 [1, 1, 1, 4, 0, 1, 1, 1, 1, 1, 4, 0, 1, 1, 1, 1, 1, 1, 1, 4, 0, 1, 1, 1, 1, 1, 1, 1, 1, 4, 0] [(4, .bool false)] (by kernel_rfl) fun a ha => ?_
    obtain rfl := Option.some.inj H
    have o1 : Ok [] (blkL ao40 ++ (blkL ao23 ++ (M))) w46.heap.size := Ok.nil _ _
    have o2 : Ok (M) (blkL ao40 ++ (blkL ao23 ++ (M))) w46.heap.size := (fun _ h => .inl (mr (mr (h))))
    have hG := hG.chg (Chg.refl [] _) o1 o2
    have hM : MS (M) w46 := (fun x h => hM.chg (Chg.refl [] _) x (mr (mr (h))))
    exact J48 _ _ (ha.sel (by kernel_rfl)) hG hC hM
  have Hc43 := H
  have H := H43
  refine wp_loop_ghost (fun kk a w43 => ∃ (x44 : Int), vinerylaw04_CommunitySets.l0 t22 kk x44 = some s43 ∧ Has a Tryz.f4.ntmps [(0, .slice ao1 a0.length cap1), (1, .slice ao2 a1.length cap2), (5, .bool t5), (6, .slice ao23 t22.length cap23), (7, .slice ao40 t39.length cap40), (8, .int .i64 x44)] ∧ (RSl (rArr .u8 8) 27 w43 (blkL ao40 ++ (blkL ao23 ++ (M))) ao1 cap1 a0) ∧ (RSl (rArr .u8 8) 27 w43 (blkL ao40 ++ (blkL ao23 ++ (M))) ao2 cap2 a1) ∧ (Own (rArr .u8 8) 27 w43 (blkL ao40 ++ (blkL ao23 ++ (M))) ao23 cap23 t22) ∧ (Own (rArr .u8 8) 27 w43 (blkL ao40 ++ (blkL ao23 ++ (M))) ao40 cap40 t39) ∧ (GF w43 (blkL ao40 ++ (blkL ao23 ++ (M)))) ∧ (Chg [] w w43) ∧ (MS (blkL ao40 ++ (blkL ao23 ++ (M))) w43)) k ?_ ?_
  ·skip
   have o1 : Ok [] (blkL ao40 ++ (blkL ao38 ++ (blkL ao23 ++ (blkL ao21 ++ (M))))) w39.heap.size := Ok.nil _ _
   have o2 : Ok (blkL ao40 ++ (blkL ao23 ++ (M))) (blkL ao40 ++ (blkL ao38 ++ (blkL ao23 ++ (blkL ao21 ++ (M))))) w39.heap.size := (Ok.app (fun _ h => .inl (ml h)) (Ok.app (fun _ h => .inl (mr (mr (ml h)))) (fun _ h => .inl (mr (mr (mr (mr (h))))))))
   have hG := hG.chg (Chg.refl [] _) o1 o2
   have f1 := f1.chg (Chg.refl [] _) o1 o2
   have f2 := f2.chg (Chg.refl [] _) o1 o2
   have f23 := f23.chg (Chg.refl [] _) o1 o2 (fun _ _ h => nomatch h) (fun _ h => mr (ml h))
   have f40 := f40.chg (Chg.refl [] _) o1 o2 (fun _ _ h => nomatch h) (fun _ h => ml h)
   have hM : MS (blkL ao40 ++ (blkL ao23 ++ (M))) w39 := (MS.app (fun x h => hM.chg (Chg.refl [] _) x (ml h)) (MS.app (fun x h => hM.chg (Chg.refl [] _) x (mr (mr (ml h)))) (fun x h => hM.chg (Chg.refl [] _) x (mr (mr (mr (mr (h))))))))
   exact ⟨(1 : Int), H, (ha.sel (by kernel_rfl)), f1, f2, f23, f40, hG, hC, hM⟩
  ·rintro kk a w43 ⟨x44, H, ha, f1, f2, f23, f40, hG, hC, hM⟩
   obtain _ | kk := kk
   ·exact nomatch (show none = some _ from H)
   rw [vinerylaw04_CommunitySets.l0] at H
   refine wp_seq_k fun K60 hK60 => ?_
   refine wp_seq_k fun K61 hK61 => ?_
   refine wp_region_lit ?_
   refine seg ha 4 [(0, .slice ao1 a0.length cap1), (1, .slice ao2 a1.length cap2), (5, .bool t5), (6, .slice ao23 t22.length cap23), (7, .slice ao40 t39.length cap40), (8, .int .i64 x44), (37, .bool (decide (x44 < (t22.length : Int))))] (by kernel_rfl) fun a ha => ?_
   refine hK61 _ _ ?_; try clear hK61 K61
   refine cnd ha rfl (fun hc62 => ?_) (fun hc62 => ?_)
   ·have H := ite_t hc62 H
    refine wp_skip ?_
    refine hK60 _ _ ?_; try clear hK60 K60
    refine wp_seq_k fun K63 hK63 => ?_
    refine wp_block ?_
    refine wp_seq_k fun K64 hK64 => ?_
    refine drq0 (fun w' => Chg [] w43 w') (by kernel_rfl) (by kernel_rfl) (fun _ h => h) ?_
    refine qp 0 (.slice ao23 t22.length cap23) ha rfl rfl rfl (by kernel_rfl) fun a ha => ?_
    refine qp 0 (.int .i64 x44) ha rfl rfl rfl (by kernel_rfl) fun a ha => ?_
    refine qp 0 (.int .i64 (IntKind.i64.wrap (x44 - (1 : Int)))) ha rfl rfl rfl (by kernel_rfl) fun a ha => ?_
    obtain ⟨⟨hx65, hx65'⟩, H⟩ := ite_some H
    obtain ⟨ge66, oe670, cs68, hx65eq, hn71, hR69, hE70⟩ := RSl.elem (Own.toRSl (M' := []) f23 (Ok.nil _ _) (fun _ _ h => nomatch h)) (Int.toNat (IntKind.i64.wrap (x44 - (1 : Int)))) (by omega)
    rw [rd_get] at hR69
    obtain rfl := hR69
    have hE70 : ∀ j v, (cA .u8 8 (rd t22 (IntKind.i64.wrap (x44 - (1 : Int)))))[j]? = some v → w43.cell? ⟨ge66, (oe670 + (Int.toNat (IntKind.i64.wrap (x44 - (1 : Int)))) * (rArr .u8 8).sz) + j, none⟩ = some v := hE70
    refine qv (v := .pointer (some ⟨ge66, (oe670 + (Int.toNat (IntKind.i64.wrap (x44 - (1 : Int)))) * (rArr .u8 8).sz), none⟩)) ha rfl rfl rfl (fun w' hs => ix_run (r := (rArr .u8 8)) (T := 27) ha (by kernel_rfl) (by kernel_rfl) (by rfl) (by rfl) hx65eq hx65 hx65') fun a ha => ?_
    have f72 : RSl (rInt .u8) 5 w43 ([]) (some ⟨ge66, (oe670 + (Int.toNat (IntKind.i64.wrap (x44 - (1 : Int)))) * (rArr .u8 8).sz) + 0, none⟩) 8 (arL 8 (rd t22 (IntKind.i64.wrap (x44 - (1 : Int))))) := RSl.ofA [] [] hE70 hn71 (by kernel_rfl) rfl
    refine qv (v := .slice (some ⟨ge66, (oe670 + (Int.toNat (IntKind.i64.wrap (x44 - (1 : Int)))) * (rArr .u8 8).sz) + 0, none⟩) (arL 8 (rd t22 (IntKind.i64.wrap (x44 - (1 : Int))))).length 8) ha rfl rfl rfl (fun w' hs => opk_run ha rfl rfl (fun w => by kernel_rfl)) fun a ha => ?_
    refine qv (v := .string (bstr (b2s (arL 8 (rd t22 (IntKind.i64.wrap (x44 - (1 : Int)))))))) ha rfl rfl rfl (fun w' hs => cvs_run ha rfl (by kernel_rfl) (by kernel_rfl) (by kernel_rfl) (RSl.chg (M' := []) f72 hs (Ok.nil _ _) (Ok.nil _ _))) fun a ha => ?_
    refine qp 0 (.slice ao23 t22.length cap23) ha rfl rfl rfl (by kernel_rfl) fun a ha => ?_
    refine qp 0 (.int .i64 x44) ha rfl rfl rfl (by kernel_rfl) fun a ha => ?_
    obtain ⟨⟨hx73, hx73'⟩, H⟩ := ite_some H
    obtain ⟨ge74, oe750, cs76, hx73eq, hn79, hR77, hE78⟩ := RSl.elem (Own.toRSl (M' := []) f23 (Ok.nil _ _) (fun _ _ h => nomatch h)) (Int.toNat x44) (by omega)
    rw [rd_get] at hR77
    obtain rfl := hR77
    have hE78 : ∀ j v, (cA .u8 8 (rd t22 x44))[j]? = some v → w43.cell? ⟨ge74, (oe750 + (Int.toNat x44) * (rArr .u8 8).sz) + j, none⟩ = some v := hE78
    refine qv (v := .pointer (some ⟨ge74, (oe750 + (Int.toNat x44) * (rArr .u8 8).sz), none⟩)) ha rfl rfl rfl (fun w' hs => ix_run (r := (rArr .u8 8)) (T := 27) ha (by kernel_rfl) (by kernel_rfl) (by rfl) (by rfl) hx73eq hx73 hx73') fun a ha => ?_
    have f80 : RSl (rInt .u8) 5 w43 ([]) (some ⟨ge74, (oe750 + (Int.toNat x44) * (rArr .u8 8).sz) + 0, none⟩) 8 (arL 8 (rd t22 x44)) := RSl.ofA [] [] hE78 hn79 (by kernel_rfl) rfl
    refine qv (v := .slice (some ⟨ge74, (oe750 + (Int.toNat x44) * (rArr .u8 8).sz) + 0, none⟩) (arL 8 (rd t22 x44)).length 8) ha rfl rfl rfl (fun w' hs => opk_run ha rfl rfl (fun w => by kernel_rfl)) fun a ha => ?_
    refine qv (v := .string (bstr (b2s (arL 8 (rd t22 x44))))) ha rfl rfl rfl (fun w' hs => cvs_run ha rfl (by kernel_rfl) (by kernel_rfl) (by kernel_rfl) (RSl.chg (M' := []) f80 hs (Ok.nil _ _) (Ok.nil _ _))) fun a ha => ?_
    refine qv (v := .bool (!Op.bytesLess (bstr (b2s (arL 8 (rd t22 (IntKind.i64.wrap (x44 - (1 : Int))))))).toList (bstr (b2s (arL 8 (rd t22 x44)))).toList)) ha rfl rfl rfl (fun w' hs => sge_run ha (by rfl) (by rfl) w') fun a ha => ?_
    refine wpQuiet_nil ?_
    intro w81 hc82
    have o1 : Ok [] (blkL ao40 ++ (blkL ao23 ++ (M))) w43.heap.size := Ok.nil _ _
    have o2 : Ok (blkL ao40 ++ (blkL ao23 ++ (M))) (blkL ao40 ++ (blkL ao23 ++ (M))) w43.heap.size := (Ok.refl _ _)
    have hG := hG.chg hc82 o1 o2
    have f1 := f1.chg hc82 o1 o2
    have f2 := f2.chg hc82 o1 o2
    have f23 := f23.chg hc82 o1 o2 (fun _ _ h => nomatch h) (fun _ h => mr (ml h))
    have f40 := f40.chg hc82 o1 o2 (fun _ _ h => nomatch h) (fun _ h => ml h)
    have hM : MS (blkL ao40 ++ (blkL ao23 ++ (M))) w81 := (hM.chg hc82)
    have hC := hC.trans hc82 (Ok.nil _ _)
    refine wpl_end ?_
    refine hK64 _ _ ?_; try clear hK64 K64
    refine cnd ha rfl (fun hc83 => ?_) (fun hc83 => ?_)
    ·have H := ite_t hc83 H
     refine wp_seq_k fun K84 hK84 => ?_
     refine wp_region_lit ?_
     refine seg ha 1 [(4, .bool false)] (by kernel_rfl) fun a ha => ?_
     refine hK84 _ _ ?_; try clear hK84 K84
     refine wp_ret ?_
     try simp only [Exit.then, Exit.inBlock]
     have o1 : Ok [] (blkL ao40 ++ (blkL ao23 ++ (M))) w81.heap.size := Ok.nil _ _
     have o2 : Ok (M) (blkL ao40 ++ (blkL ao23 ++ (M))) w81.heap.size := (fun _ h => .inl (mr (mr (h))))
     have hG := hG.chg (Chg.refl [] _) o1 o2
     have hM : MS (M) w81 := (fun x h => hM.chg (Chg.refl [] _) x (mr (mr (h))))
     obtain rfl := Option.some.inj H
     have H := (show some _ = some _ from Hc43)
     obtain rfl := Option.some.inj H
     refine rt1 ha rfl rfl ?_
     exact ⟨rfl, hC, hM⟩
    ·have H := ite_f hc83 H
     refine wp_skip ?_
     refine hK63 _ _ ?_; try clear hK63 K63
     refine wp_region_lit ?_
     refine seg ha 3 [(0, .slice ao1 a0.length cap1), (1, .slice ao2 a1.length cap2), (5, .bool t5), (6, .slice ao23 t22.length cap23), (7, .slice ao40 t39.length cap40), (8, .int .i64 (IntKind.i64.wrap (x44 + (1 : Int))))] (by kernel_rfl) fun a ha => ?_
     exact ⟨kk, Nat.lt_succ_self _, ⟨IntKind.i64.wrap (x44 + (1 : Int)), H, (ha.sel (by kernel_rfl)), f1, f2, f23, f40, hG, hC, hM⟩⟩
   ·have H := ite_f hc62 H
    refine wp_exit ?_
    simp only [Exit.then, Exit.inBlock, ↓reduceIte, Nat.reduceEqDiff]
    obtain rfl := Option.some.inj H
    exact J43 _ _ _ rfl (ha.sel (by kernel_rfl)) f1 f2 f23 f40 hG hC hM
end Go.E
