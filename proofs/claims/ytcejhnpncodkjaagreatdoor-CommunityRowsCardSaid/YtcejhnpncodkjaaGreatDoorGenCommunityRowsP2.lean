/- What the functions that the law reaches compute, and the walks that show it. -/
import Derived.Test.YtcejhnpncodkjaaGreatDoorEngU
import Derived.Test.YtcejhnpncodkjaaGreatDoorShelf
import Derived.Test.YtcejhnpncodkjaaGreatDoorEngQ
import Derived.Test.YtcejhnpncodkjaaGreatDoorEngY
import Derived.Test.YtcejhnpncodkjaaGreatDoorProg
import Derived.Test.YtcejhnpncodkjaaGreatDoorGenCommunityRowsP1
set_option linter.unusedVariables false
set_option linter.unusedSimpArgs false
namespace Go.E
open Go.RowKit Go.Proofs
def slices_Index_Ext.l0 (a0 : List (List Int)) (a1 : List Int) : Nat → Int → Option ((Int) ⊕ (Unit))
  | 0, _ => none
  | kk + 1, x11 => (if (decide (x11 < (a0.length : Int))) = true then (if 0 ≤ x11 ∧ x11 < (a0.length : Int) then (if (eqA 8 a1 (rd a0 x11)) = true then some (.inl ((x11 : Int))) else slices_Index_Ext.l0 a0 a1 kk (IntKind.i64.wrap (x11 + (1 : Int)))) else none) else some (.inr (() : Unit)))
def slices_Index_Ext.f (k : Nat) (a0 : List (List Int)) (a1 : List Int) : Option (Int) := (slices_Index_Ext.l0 a0 a1 k (0 : Int)).bind fun s10 => match s10 with | .inl r => some r | .inr s10' => some (((-1 : Int) : Int))
set_option maxRecDepth 100000 in
theorem slices_Index_Ext.walk (w : World) (M : List Nat) (hM : MS M w) (a0 : List (List Int)) (ao1 : Option Addr) (cap1 : Nat) (f1 : RSl (rArr .u8 8) 27 w M ao1 cap1 a0) (a1 : List Int) (k : Nat) (r : Int) (H : slices_Index_Ext.f k a0 a1 = some r) :
    To Tryz.prog 85 [.slice ao1 a0.length cap1, .agg (cA .u8 8 a1).toArray] w fun v w' => v = .int .i64 r ∧ Chg [] w w' ∧ MS (M) w' := by
 unfold slices_Index_Ext.f at H
 refine ent Tryz.func85 rfl [(0, .slice ao1 a0.length cap1), (1, .agg (cA .u8 8 a1).toArray)] rfl (by rfl) fun a ha => ?_
 have hC : Chg [] w w := Chg.refl _ _
 refine wp_seq_k fun K2 hK2 => ?_
 refine wp_region_lit ?_
 refine bx (cs := (cA .u8 8 a1)) ha rfl rfl rfl rfl rfl fun a w3 g4 hN5 ha => ?_
 have hn7 := hN5.notin hM
 have o1 : Ok [] (M) w.heap.size := Ok.nil _ _
 have o2 : Ok (M) (M) w.heap.size := (Ok.refl _ _)
 have f1 := f1.chg hN5.chg o1 o2
 have hM : MS (M) w3 := (hM.chg hN5.chg)
 have hC := hC.trans hN5.chg (Ok.nil _ _)
 have hE6 : ∀ j v, (cA .u8 8 a1)[j]? = some v → w3.cell? ⟨g4, 0 + j, none⟩ = some v := Box.cells (New.box hN5)
 refine seg ha 1 [(0, .slice ao1 a0.length cap1), (3, .pointer (some ⟨g4, 0, none⟩))] (by kernel_rfl) fun a ha => ?_
 refine hK2 _ _ ?_; try clear hK2 K2
 refine wp_seq_k fun K8 hK8 => ?_
 refine wp_seq_k fun K9 hK9 => ?_
 refine wp_region_lit ?_
 refine seg ha 3 [(0, .slice ao1 a0.length cap1), (3, .pointer (some ⟨g4, 0, none⟩)), (7, .int .i64 (a0.length : Int)), (8, .int .i64 (0 : Int))] (by kernel_rfl) fun a ha => ?_
 refine hK9 _ _ ?_; try clear hK9 K9
 refine wp_block ?_
 obtain ⟨s10, H10, H⟩ := bind_some H
 have J10 : ∀ s10' (a : Act) (wx10 : World), s10 = .inr s10' → Has a Tryz.f85.ntmps [] → (Chg [] w wx10) → (MS (M) wx10) → K8 a wx10 := by
  intro s10' a wx10 hs ha hC hM
  subst hs
  refine hK8 _ _ ?_; try clear hK8 K8
  refine wp_seq_k fun K12 hK12 => ?_
  refine wp_region_lit ?_
  refine seg ha 1 [(4, .int .i64 (-1 : Int))] (by kernel_rfl) fun a ha => ?_
  refine hK12 _ _ ?_; try clear hK12 K12
  refine wp_ret ?_
  try simp only [Exit.then, Exit.inBlock]
  obtain rfl := Option.some.inj H
  refine rt1 ha rfl rfl ?_
  exact ⟨rfl, hC, hM⟩
 have Hc10 := H
 have H := H10
 refine wp_loop_ghost (fun kk a w10 => ∃ (x11 : Int), slices_Index_Ext.l0 a0 a1 kk x11 = some s10 ∧ Has a Tryz.f85.ntmps [(0, .slice ao1 a0.length cap1), (3, .pointer (some ⟨g4, 0, none⟩)), (7, .int .i64 (a0.length : Int)), (8, .int .i64 x11)] ∧ (RSl (rArr .u8 8) 27 w10 (M) ao1 cap1 a0) ∧ (∀ j v, (cA .u8 8 a1)[j]? = some v → w10.cell? ⟨g4, 0 + j, none⟩ = some v) ∧ (g4 ∉ (M)) ∧ (Chg [] w w10) ∧ (MS (M) w10)) k ?_ ?_
 ·skip
  exact ⟨(0 : Int), H, (ha.sel (by kernel_rfl)), f1, hE6, hn7, hC, hM⟩
 ·rintro kk a w10 ⟨x11, H, ha, f1, hE6, hn7, hC, hM⟩
  obtain _ | kk := kk
  ·exact nomatch (show none = some _ from H)
  rw [slices_Index_Ext.l0] at H
  refine wp_seq_k fun K13 hK13 => ?_
  refine wp_region_lit ?_
  refine seg ha 1 [(0, .slice ao1 a0.length cap1), (3, .pointer (some ⟨g4, 0, none⟩)), (7, .int .i64 (a0.length : Int)), (8, .int .i64 x11), (9, .bool (decide (x11 < (a0.length : Int))))] (by kernel_rfl) fun a ha => ?_
  refine hK13 _ _ ?_; try clear hK13 K13
  refine wp_seq_k fun K14 hK14 => ?_
  refine cnd ha rfl (fun hc15 => ?_) (fun hc15 => ?_)
  ·have H := ite_t hc15 H
   refine wp_skip ?_
   refine hK14 _ _ ?_; try clear hK14 K14
   refine wp_seq_k fun K16 hK16 => ?_
   refine wp_block ?_
   refine wp_seq_k fun K17 hK17 => ?_
   refine wp_region_lit ?_
   refine seg ha 2 [(0, .slice ao1 a0.length cap1), (3, .pointer (some ⟨g4, 0, none⟩)), (5, .int .i64 x11), (7, .int .i64 (a0.length : Int)), (8, .int .i64 x11)] (by kernel_rfl) fun a ha => ?_
   refine hK17 _ _ ?_; try clear hK17 K17
   refine wp_seq_k fun K18 hK18 => ?_
   refine drq0 (fun w' => Chg [] w10 w') (by kernel_rfl) (by kernel_rfl) (fun _ h => h) ?_
   refine qv (v := .agg (cA .u8 8 a1).toArray) ha rfl rfl rfl (fun w' hs => ldA_run (cs := (cA .u8 8 a1)) ha rfl (by kernel_rfl) (cells_sub (fun j v hv => hs.keep (hE6 j v hv)) (all := (cA .u8 8 a1)) [] [] (by kernel_rfl))) fun a ha => ?_
   refine qp 0 (.slice ao1 a0.length cap1) ha rfl rfl rfl (by kernel_rfl) fun a ha => ?_
   refine qp 0 (.int .i64 x11) ha rfl rfl rfl (by kernel_rfl) fun a ha => ?_
   obtain ⟨⟨hx19, hx19'⟩, H⟩ := ite_some H
   obtain ⟨ge20, oe210, cs22, hx19eq, hn25, hR23, hE24⟩ := RSl.elem f1 (Int.toNat x11) (by omega)
   rw [rd_get] at hR23
   obtain rfl := hR23
   have hE24 : ∀ j v, (cA .u8 8 (rd a0 x11))[j]? = some v → w10.cell? ⟨ge20, (oe210 + (Int.toNat x11) * (rArr .u8 8).sz) + j, none⟩ = some v := hE24
   refine qv (v := .pointer (some ⟨ge20, (oe210 + (Int.toNat x11) * (rArr .u8 8).sz), none⟩)) ha rfl rfl rfl (fun w' hs => ix_run (r := (rArr .u8 8)) (T := 27) ha (by kernel_rfl) (by kernel_rfl) (by rfl) (by rfl) hx19eq hx19 hx19') fun a ha => ?_
   refine qv (v := .agg (cA .u8 8 (rd a0 x11)).toArray) ha rfl rfl rfl (fun w' hs => ldA_run (cs := (cA .u8 8 (rd a0 x11))) ha rfl (by kernel_rfl) (cells_sub (fun j v hv => hs.keep (hE24 j v hv)) (all := (cA .u8 8 (rd a0 x11))) [] [] (by kernel_rfl))) fun a ha => ?_
   refine qv (v := .bool (eqA 8 a1 (rd a0 x11))) ha rfl rfl rfl (fun w' hs => eqs_run (r := (eqA 8 a1 (rd a0 x11))) (m := 9) ha rfl rfl (by kernel_rfl) rfl (by kernel_rfl) w') fun a ha => ?_
   refine wpQuiet_nil ?_
   intro w26 hc27
   have o1 : Ok [] (M) w10.heap.size := Ok.nil _ _
   have o2 : Ok (M) (M) w10.heap.size := (Ok.refl _ _)
   have f1 := f1.chg hc27 o1 o2
   have q_hn7 : g4 ∉ M := fun h => (o2 g4 h).elim hn7 (fun h => absurd (lt_cell (hE6 0 _ rfl)) (Nat.not_lt.2 h))
   have hE6 : ∀ j v, (cA .u8 8 a1)[j]? = some v → w26.cell? ⟨g4, 0 + j, none⟩ = some v := fun j v hv => (cell_keep hc27 o1 hn7 (hE6 j v hv))
   have hn7 := q_hn7
   have q_hn25 : ge20 ∉ M := fun h => (o2 ge20 h).elim hn25 (fun h => absurd (lt_cell (hE24 0 _ rfl)) (Nat.not_lt.2 h))
   have hE24 : ∀ j v, (cA .u8 8 (rd a0 x11))[j]? = some v → w26.cell? ⟨ge20, (oe210 + (Int.toNat x11) * (rArr .u8 8).sz) + j, none⟩ = some v := fun j v hv => (cell_keep hc27 o1 hn25 (hE24 j v hv))
   have hn25 := q_hn25
   have hM : MS (M) w26 := (hM.chg hc27)
   have hC := hC.trans hc27 (Ok.nil _ _)
   refine wpl_end ?_
   refine hK18 _ _ ?_; try clear hK18 K18
   refine cnd ha rfl (fun hc28 => ?_) (fun hc28 => ?_)
   ·have H := ite_t hc28 H
    refine wp_seq_k fun K29 hK29 => ?_
    refine wp_region_lit ?_
    refine seg ha 2 [(4, .int .i64 x11)] (by kernel_rfl) fun a ha => ?_
    refine hK29 _ _ ?_; try clear hK29 K29
    refine wp_ret ?_
    try simp only [Exit.then, Exit.inBlock]
    obtain rfl := Option.some.inj H
    have H := (show some _ = some _ from Hc10)
    obtain rfl := Option.some.inj H
    refine rt1 ha rfl rfl ?_
    exact ⟨rfl, hC, hM⟩
   ·have H := ite_f hc28 H
    refine wp_skip ?_
    refine hK16 _ _ ?_; try clear hK16 K16
    refine wp_region_lit ?_
    refine seg ha 2 [(0, .slice ao1 a0.length cap1), (3, .pointer (some ⟨g4, 0, none⟩)), (7, .int .i64 (a0.length : Int)), (8, .int .i64 (IntKind.i64.wrap (x11 + (1 : Int))))] (by kernel_rfl) fun a ha => ?_
    exact ⟨kk, Nat.lt_succ_self _, ⟨IntKind.i64.wrap (x11 + (1 : Int)), H, (ha.sel (by kernel_rfl)), f1, hE6, hn7, hC, hM⟩⟩
  ·have H := ite_f hc15 H
   refine wp_exit ?_
   simp only [Exit.then, Exit.inBlock, ↓reduceIte, Nat.reduceEqDiff]
   obtain rfl := Option.some.inj H
   exact J10 _ _ _ rfl (ha.sel (by kernel_rfl)) hC hM
def slices_Contains_Ext.f (k : Nat) (a0 : List (List Int)) (a1 : List Int) : Option (Bool) := (slices_Index_Ext.f k a0 a1).bind fun t9 => some ((decide (t9 ≥ (0 : Int)) : Bool))
set_option maxRecDepth 100000 in
theorem slices_Contains_Ext.walk (w : World) (M : List Nat) (hM : MS M w) (a0 : List (List Int)) (ao1 : Option Addr) (cap1 : Nat) (f1 : RSl (rArr .u8 8) 27 w M ao1 cap1 a0) (a1 : List Int) (k : Nat) (r : Bool) (H : slices_Contains_Ext.f k a0 a1 = some r) :
    To Tryz.prog 53 [.slice ao1 a0.length cap1, .agg (cA .u8 8 a1).toArray] w fun v w' => v = .bool r ∧ Chg [] w w' ∧ MS (M) w' := by
 unfold slices_Contains_Ext.f at H
 refine ent Tryz.func53 rfl [(0, .slice ao1 a0.length cap1), (1, .agg (cA .u8 8 a1).toArray)] rfl (by rfl) fun a ha => ?_
 have hC : Chg [] w w := Chg.refl _ _
 refine wp_seq_k fun K2 hK2 => ?_
 refine wp_region_lit ?_
 refine bx (cs := (cA .u8 8 a1)) ha rfl rfl rfl rfl rfl fun a w3 g4 hN5 ha => ?_
 have hn7 := hN5.notin hM
 have o1 : Ok [] (M) w.heap.size := Ok.nil _ _
 have o2 : Ok (M) (M) w.heap.size := (Ok.refl _ _)
 have f1 := f1.chg hN5.chg o1 o2
 have hM : MS (M) w3 := (hM.chg hN5.chg)
 have hC := hC.trans hN5.chg (Ok.nil _ _)
 have hE6 : ∀ j v, (cA .u8 8 a1)[j]? = some v → w3.cell? ⟨g4, 0 + j, none⟩ = some v := Box.cells (New.box hN5)
 refine seg ha 1 [(0, .slice ao1 a0.length cap1), (3, .pointer (some ⟨g4, 0, none⟩))] (by kernel_rfl) fun a ha => ?_
 refine hK2 _ _ ?_; try clear hK2 K2
 refine wp_seq_k fun K8 hK8 => ?_
 refine wp_region_lit ?_
 refine seg ha 1 [(3, .pointer (some ⟨g4, 0, none⟩)), (5, .slice ao1 a0.length cap1)] (by kernel_rfl) fun a ha => ?_
 refine ldA (cs := (cA .u8 8 a1)) ha rfl (by kernel_rfl) rfl rfl rfl (cells_sub hE6 (all := (cA .u8 8 a1)) [] [] (by kernel_rfl)) fun a ha => ?_
 obtain ⟨t9, H9, H⟩ := bind_some H
 refine cl ha (by rfl) (by kernel_rfl) (by rfl) (by rfl) (by rfl) (slices_Index_Ext.walk w3 _ hM a0 ao1 cap1 f1 a1 k _ H9) ?_
 rintro _ w9 ⟨rfl, hc9, hMn⟩ a ha
 have o1 : Ok [] (M) w3.heap.size := Ok.nil _ _
 have o2 : Ok (M) (M) w3.heap.size := (Ok.refl _ _)
 have f1 := f1.chg hc9 o1 o2
 have hM : MS (M) w9 := (hM.chg hc9)
 have hC := hC.trans hc9 (Ok.nil _ _)
 refine seg ha 2 [(4, .bool (decide (t9 ≥ (0 : Int))))] (by kernel_rfl) fun a ha => ?_
 refine hK8 _ _ ?_; try clear hK8 K8
 refine wp_ret ?_
 try simp only [Exit.then, Exit.inBlock]
 obtain rfl := Option.some.inj H
 refine rt1 ha rfl rfl ?_
 exact ⟨rfl, hC, hM⟩
def community_Meet_1.f (k : Nat) (a0 : List Int) (a1 : List (List Int)) : Option (Bool) := ((community_Kind.f a0).bind fun t10 => (if (t10 == (1 : Int)) = true then (slices_Contains_Ext.f k a1 a0).bind fun t12 => some (t12 : Bool) else some (false : Bool))).bind fun s9 => some ((s9 : Bool))
set_option maxRecDepth 100000 in
theorem community_Meet_1.walk (w : World) (M : List Nat) (hM : MS M w) (a0 : List Int) (gp1 : Nat) (a1 : List (List Int)) (ao1 : Option Addr) (cap1 : Nat) (f1 : RSl (rArr .u8 8) 27 w M ao1 cap1 a1) (hBgp1 : Box w gp1 ([.slice ao1 a1.length cap1] : List Value)) (hg_gp1 : gp1 ∈ M) (k : Nat) (r : Bool) (H : community_Meet_1.f k a0 a1 = some r) :
    To Tryz.prog 52 [.agg (cA .u8 8 a0).toArray, .pointer (some ⟨gp1, 0, none⟩)] w fun v w' => v = .bool r ∧ Chg [] w w' ∧ MS (M) w' := by
 unfold community_Meet_1.f at H
 refine ent Tryz.func52 rfl [(0, .agg (cA .u8 8 a0).toArray), (1, .pointer (some ⟨gp1, 0, none⟩))] rfl (by rfl) fun a ha => ?_
 have hC : Chg [] w w := Chg.refl _ _
 refine wp_seq_k fun K2 hK2 => ?_
 refine wp_region_lit ?_
 refine bx (cs := (cA .u8 8 a0)) ha rfl rfl rfl rfl rfl fun a w3 g4 hN5 ha => ?_
 have hn7 := hN5.notin hM
 have o1 : Ok [] (M) w.heap.size := Ok.nil _ _
 have o2 : Ok (M) (M) w.heap.size := (Ok.refl _ _)
 have f1 := f1.chg hN5.chg o1 o2
 have hBgp1 := hBgp1.chg hN5.chg (fun h => nomatch h)
 have hM : MS (M) w3 := (hM.chg hN5.chg)
 have hC := hC.trans hN5.chg (Ok.nil _ _)
 have hE6 : ∀ j v, (cA .u8 8 a0)[j]? = some v → w3.cell? ⟨g4, 0 + j, none⟩ = some v := Box.cells (New.box hN5)
 refine seg ha 1 [(1, .pointer (some ⟨gp1, 0, none⟩)), (2, .pointer (some ⟨g4, 0, none⟩))] (by kernel_rfl) fun a ha => ?_
 refine hK2 _ _ ?_; try clear hK2 K2
 refine wp_seq_k fun K8 hK8 => ?_
 refine wp_region_lit ?_
 obtain ⟨s9, H9, H⟩ := bind_some H
 have J9 : ∀ (a : Act) (w9 : World), Has a Tryz.f52.ntmps [(3, .bool s9)] → (RSl (rArr .u8 8) 27 w9 (M) ao1 cap1 a1) → (Box w9 gp1 ([.slice ao1 a1.length cap1] : List Value)) → (Chg [] w w9) → (MS (M) w9) → K8 a w9 := by
  intro a w9 ha f1 hBgp1 hC hM
  refine hK8 _ _ ?_; try clear hK8 K8
  refine wp_ret ?_
  try simp only [Exit.then, Exit.inBlock]
  obtain rfl := Option.some.inj H
  refine rt1 ha rfl rfl ?_
  exact ⟨rfl, hC, hM⟩
 have H := H9
 refine ldA (cs := (cA .u8 8 a0)) ha rfl (by kernel_rfl) rfl rfl rfl (cells_sub hE6 (all := (cA .u8 8 a0)) [] [] (by kernel_rfl)) fun a ha => ?_
 obtain ⟨t10, H10, H⟩ := bind_some H
 refine cl ha (by rfl) (by kernel_rfl) (by rfl) (by rfl) (by rfl) (community_Kind.walk w3 _ hM a0 _ H10) ?_
 rintro _ w10 ⟨rfl, hc10, hMn⟩ a ha
 have o1 : Ok [] (M) w3.heap.size := Ok.nil _ _
 have o2 : Ok (M) (M) w3.heap.size := (Ok.refl _ _)
 have f1 := f1.chg hc10 o1 o2
 have hBgp1 := hBgp1.chg hc10 (fun h => nomatch h)
 have q_hn7 : g4 ∉ M := fun h => (o2 g4 h).elim hn7 (fun h => absurd (lt_cell (hE6 0 _ rfl)) (Nat.not_lt.2 h))
 have hE6 : ∀ j v, (cA .u8 8 a0)[j]? = some v → w10.cell? ⟨g4, 0 + j, none⟩ = some v := fun j v hv => (cell_keep hc10 o1 hn7 (hE6 j v hv))
 have hn7 := q_hn7
 have hM : MS (M) w10 := (hM.chg hc10)
 have hC := hC.trans hc10 (Ok.nil _ _)
 refine seg ha 2 [(7, .bool (t10 == (1 : Int))), (1, .pointer (some ⟨gp1, 0, none⟩)), (2, .pointer (some ⟨g4, 0, none⟩))] (by kernel_rfl) fun a ha => ?_
 rcases Bool.eq_false_or_eq_true (t10 == (1 : Int)) with hb11 | hb11
 ·have ha := ha.lit hb11
  have H := ite_t hb11 H
  refine ld (v := .slice ao1 a1.length cap1) ha rfl (by kernel_rfl) rfl rfl rfl (hBgp1.cell' (o := 0) rfl (by kernel_rfl)) fun a ha => ?_
  refine ldA (cs := (cA .u8 8 a0)) ha rfl (by kernel_rfl) rfl rfl rfl (cells_sub hE6 (all := (cA .u8 8 a0)) [] [] (by kernel_rfl)) fun a ha => ?_
  obtain ⟨t12, H12, H⟩ := bind_some H
  refine cl ha (by rfl) (by kernel_rfl) (by rfl) (by rfl) (by rfl) (slices_Contains_Ext.walk w10 _ hM a1 ao1 cap1 f1 a0 k _ H12) ?_
  rintro _ w12 ⟨rfl, hc12, hMn⟩ a ha
  have o1 : Ok [] (M) w10.heap.size := Ok.nil _ _
  have o2 : Ok (M) (M) w10.heap.size := (Ok.refl _ _)
  have f1 := f1.chg hc12 o1 o2
  have hBgp1 := hBgp1.chg hc12 (fun h => nomatch h)
  have hM : MS (M) w12 := (hM.chg hc12)
  have hC := hC.trans hc12 (Ok.nil _ _)
  refine sgh ha 2 [3, 0] [(3, .bool t12)] (by kernel_rfl) fun a ha => ?_
  obtain rfl := Option.some.inj H
  exact J9 _ _ (ha.sel (by kernel_rfl)) f1 hBgp1 hC hM
 ·have ha := ha.lit hb11
  have H := ite_f hb11 H
  refine sgh ha 5 [1, 1, 1, 4, 0] [(3, .bool false)] (by kernel_rfl) fun a ha => ?_
  obtain rfl := Option.some.inj H
  exact J9 _ _ (ha.sel (by kernel_rfl)) f1 hBgp1 hC hM
def slices_IndexFunc_Ext_community_Meet_1.l0 (k : Nat) (a0 : List (List Int)) (a2 : List (List Int)) : Nat → Int → Option ((Int) ⊕ (Unit))
  | 0, _ => none
  | kk + 1, x7 => (if (decide (x7 < (a0.length : Int))) = true then (if 0 ≤ x7 ∧ x7 < (a0.length : Int) then (community_Meet_1.f k (rd a0 x7) a2).bind fun t22 => (if t22 = true then some (.inl ((x7 : Int))) else slices_IndexFunc_Ext_community_Meet_1.l0 k a0 a2 kk (IntKind.i64.wrap (x7 + (1 : Int)))) else none) else some (.inr (() : Unit)))
def slices_IndexFunc_Ext_community_Meet_1.f (k : Nat) (a0 : List (List Int)) (a2 : List (List Int)) : Option (Int) := (slices_IndexFunc_Ext_community_Meet_1.l0 k a0 a2 k (0 : Int)).bind fun s6 => match s6 with | .inl r => some r | .inr s6' => some (((-1 : Int) : Int))
set_option maxRecDepth 100000 in
theorem slices_IndexFunc_Ext_community_Meet_1.walk (w : World) (M : List Nat) (hM : MS M w) (a0 : List (List Int)) (ao1 : Option Addr) (cap1 : Nat) (f1 : RSl (rArr .u8 8) 27 w M ao1 cap1 a0) (gp2 : Nat) (a2 : List (List Int)) (ao2 : Option Addr) (cap2 : Nat) (f2 : RSl (rArr .u8 8) 27 w M ao2 cap2 a2) (hBgp2 : Box w gp2 ([.slice ao2 a2.length cap2] : List Value)) (hg_gp2 : gp2 ∈ M) (k : Nat) (r : Int) (H : slices_IndexFunc_Ext_community_Meet_1.f k a0 a2 = some r) :
    To Tryz.prog 84 [.slice ao1 a0.length cap1, .func (.func 52) #[] #[.pointer (some ⟨gp2, 0, none⟩)]] w fun v w' => v = .int .i64 r ∧ Chg [] w w' ∧ MS (M) w' := by
 unfold slices_IndexFunc_Ext_community_Meet_1.f at H
 refine ent Tryz.func84 rfl [(0, .slice ao1 a0.length cap1), (1, .func (.func 52) #[] #[.pointer (some ⟨gp2, 0, none⟩)])] rfl (by rfl) fun a ha => ?_
 have hC : Chg [] w w := Chg.refl _ _
 refine wp_seq_k fun K3 hK3 => ?_
 refine wp_region_lit ?_
 refine seg ha 1 [(0, .slice ao1 a0.length cap1), (1, .func (.func 52) #[] #[.pointer (some ⟨gp2, 0, none⟩)])] (by kernel_rfl) fun a ha => ?_
 refine hK3 _ _ ?_; try clear hK3 K3
 refine wp_seq_k fun K4 hK4 => ?_
 refine wp_seq_k fun K5 hK5 => ?_
 refine wp_region_lit ?_
 refine seg ha 3 [(0, .slice ao1 a0.length cap1), (1, .func (.func 52) #[] #[.pointer (some ⟨gp2, 0, none⟩)]), (7, .int .i64 (a0.length : Int)), (8, .int .i64 (0 : Int))] (by kernel_rfl) fun a ha => ?_
 refine hK5 _ _ ?_; try clear hK5 K5
 refine wp_block ?_
 obtain ⟨s6, H6, H⟩ := bind_some H
 have J6 : ∀ s6' (a : Act) (wx6 : World), s6 = .inr s6' → Has a Tryz.f84.ntmps [] → (RSl (rArr .u8 8) 27 wx6 (M) ao2 cap2 a2) → (Box wx6 gp2 ([.slice ao2 a2.length cap2] : List Value)) → (Chg [] w wx6) → (MS (M) wx6) → K4 a wx6 := by
  intro s6' a wx6 hs ha f2 hBgp2 hC hM
  subst hs
  refine hK4 _ _ ?_; try clear hK4 K4
  refine wp_seq_k fun K8 hK8 => ?_
  refine wp_region_lit ?_
  refine seg ha 1 [(4, .int .i64 (-1 : Int))] (by kernel_rfl) fun a ha => ?_
  refine hK8 _ _ ?_; try clear hK8 K8
  refine wp_ret ?_
  try simp only [Exit.then, Exit.inBlock]
  obtain rfl := Option.some.inj H
  refine rt1 ha rfl rfl ?_
  exact ⟨rfl, hC, hM⟩
 have Hc6 := H
 have H := H6
 refine wp_loop_ghost (fun kk a w6 => ∃ (x7 : Int), slices_IndexFunc_Ext_community_Meet_1.l0 k a0 a2 kk x7 = some s6 ∧ Has a Tryz.f84.ntmps [(0, .slice ao1 a0.length cap1), (1, .func (.func 52) #[] #[.pointer (some ⟨gp2, 0, none⟩)]), (7, .int .i64 (a0.length : Int)), (8, .int .i64 x7)] ∧ (RSl (rArr .u8 8) 27 w6 (M) ao1 cap1 a0) ∧ (RSl (rArr .u8 8) 27 w6 (M) ao2 cap2 a2) ∧ (Box w6 gp2 ([.slice ao2 a2.length cap2] : List Value)) ∧ (Chg [] w w6) ∧ (MS (M) w6)) k ?_ ?_
 ·skip
  exact ⟨(0 : Int), H, (ha.sel (by kernel_rfl)), f1, f2, hBgp2, hC, hM⟩
 ·rintro kk a w6 ⟨x7, H, ha, f1, f2, hBgp2, hC, hM⟩
  obtain _ | kk := kk
  ·exact nomatch (show none = some _ from H)
  rw [slices_IndexFunc_Ext_community_Meet_1.l0] at H
  refine wp_seq_k fun K9 hK9 => ?_
  refine wp_region_lit ?_
  refine seg ha 1 [(0, .slice ao1 a0.length cap1), (1, .func (.func 52) #[] #[.pointer (some ⟨gp2, 0, none⟩)]), (7, .int .i64 (a0.length : Int)), (8, .int .i64 x7), (9, .bool (decide (x7 < (a0.length : Int))))] (by kernel_rfl) fun a ha => ?_
  refine hK9 _ _ ?_; try clear hK9 K9
  refine wp_seq_k fun K10 hK10 => ?_
  refine cnd ha rfl (fun hc11 => ?_) (fun hc11 => ?_)
  ·have H := ite_t hc11 H
   refine wp_skip ?_
   refine hK10 _ _ ?_; try clear hK10 K10
   refine wp_seq_k fun K12 hK12 => ?_
   refine wp_block ?_
   refine wp_seq_k fun K13 hK13 => ?_
   refine wp_region_lit ?_
   refine seg ha 2 [(0, .slice ao1 a0.length cap1), (1, .func (.func 52) #[] #[.pointer (some ⟨gp2, 0, none⟩)]), (5, .int .i64 x7), (7, .int .i64 (a0.length : Int)), (8, .int .i64 x7)] (by kernel_rfl) fun a ha => ?_
   refine hK13 _ _ ?_; try clear hK13 K13
   refine wp_seq_k fun K14 hK14 => ?_
   refine wp_region_lit ?_
   refine seg ha 3 [(0, .slice ao1 a0.length cap1), (1, .func (.func 52) #[] #[.pointer (some ⟨gp2, 0, none⟩)]), (5, .int .i64 x7), (7, .int .i64 (a0.length : Int)), (8, .int .i64 x7), (11, .func (.func 52) #[] #[.pointer (some ⟨gp2, 0, none⟩)]), (12, .slice ao1 a0.length cap1), (13, .int .i64 x7)] (by kernel_rfl) fun a ha => ?_
   obtain ⟨⟨hx15, hx15'⟩, H⟩ := ite_some H
   refine ix (r := (rArr .u8 8)) ha (by kernel_rfl) (by kernel_rfl) rfl rfl rfl rfl rfl f1 hx15 hx15' fun a ge16 oe17 cs18 hn21 hR19 hE20 ha => ?_
   rw [rd_get] at hR19
   obtain rfl := hR19
   have hE20 : ∀ j v, (cA .u8 8 (rd a0 x7))[j]? = some v → w6.cell? ⟨ge16, oe17 + j, none⟩ = some v := hE20
   refine ldA (cs := (cA .u8 8 (rd a0 x7))) ha rfl (by kernel_rfl) rfl rfl rfl (cells_sub hE20 (all := (cA .u8 8 (rd a0 x7))) [] [] (by kernel_rfl)) fun a ha => ?_
   obtain ⟨t22, H22, H⟩ := bind_some H
   refine clc (vals := [.agg (cA .u8 8 (rd a0 x7)).toArray]) (cs := #[.pointer (some ⟨gp2, 0, none⟩)]) ha (by rfl) (by rfl) (by kernel_rfl) (by rfl) (by rfl) (by rfl) (community_Meet_1.walk w6 _ hM (rd a0 x7) gp2 a2 ao2 cap2 f2 hBgp2 (hg_gp2) k _ H22) ?_
   rintro _ w22 ⟨rfl, hc22, hMn⟩ a ha
   have o1 : Ok [] (M) w6.heap.size := Ok.nil _ _
   have o2 : Ok (M) (M) w6.heap.size := (Ok.refl _ _)
   have f1 := f1.chg hc22 o1 o2
   have f2 := f2.chg hc22 o1 o2
   have hBgp2 := hBgp2.chg hc22 (fun h => nomatch h)
   have hM : MS (M) w22 := (hM.chg hc22)
   have hC := hC.trans hc22 (Ok.nil _ _)
   refine hK14 _ _ ?_; try clear hK14 K14
   refine cnd ha rfl (fun hc23 => ?_) (fun hc23 => ?_)
   ·have H := ite_t hc23 H
    refine wp_seq_k fun K24 hK24 => ?_
    refine wp_region_lit ?_
    refine seg ha 2 [(4, .int .i64 x7)] (by kernel_rfl) fun a ha => ?_
    refine hK24 _ _ ?_; try clear hK24 K24
    refine wp_ret ?_
    try simp only [Exit.then, Exit.inBlock]
    obtain rfl := Option.some.inj H
    have H := (show some _ = some _ from Hc6)
    obtain rfl := Option.some.inj H
    refine rt1 ha rfl rfl ?_
    exact ⟨rfl, hC, hM⟩
   ·have H := ite_f hc23 H
    refine wp_skip ?_
    refine hK12 _ _ ?_; try clear hK12 K12
    refine wp_region_lit ?_
    refine seg ha 2 [(0, .slice ao1 a0.length cap1), (1, .func (.func 52) #[] #[.pointer (some ⟨gp2, 0, none⟩)]), (7, .int .i64 (a0.length : Int)), (8, .int .i64 (IntKind.i64.wrap (x7 + (1 : Int))))] (by kernel_rfl) fun a ha => ?_
    exact ⟨kk, Nat.lt_succ_self _, ⟨IntKind.i64.wrap (x7 + (1 : Int)), H, (ha.sel (by kernel_rfl)), f1, f2, hBgp2, hC, hM⟩⟩
  ·have H := ite_f hc11 H
   refine wp_exit ?_
   simp only [Exit.then, Exit.inBlock, ↓reduceIte, Nat.reduceEqDiff]
   obtain rfl := Option.some.inj H
   exact J6 _ _ _ rfl (ha.sel (by kernel_rfl)) f2 hBgp2 hC hM
def slices_ContainsFunc_Ext_community_Meet_1.f (k : Nat) (a0 : List (List Int)) (a2 : List (List Int)) : Option (Bool) := (slices_IndexFunc_Ext_community_Meet_1.f k a0 a2).bind fun t5 => some ((decide (t5 ≥ (0 : Int)) : Bool))
set_option maxRecDepth 100000 in
theorem slices_ContainsFunc_Ext_community_Meet_1.walk (w : World) (M : List Nat) (hM : MS M w) (a0 : List (List Int)) (ao1 : Option Addr) (cap1 : Nat) (f1 : RSl (rArr .u8 8) 27 w M ao1 cap1 a0) (gp2 : Nat) (a2 : List (List Int)) (ao2 : Option Addr) (cap2 : Nat) (f2 : RSl (rArr .u8 8) 27 w M ao2 cap2 a2) (hBgp2 : Box w gp2 ([.slice ao2 a2.length cap2] : List Value)) (hg_gp2 : gp2 ∈ M) (k : Nat) (r : Bool) (H : slices_ContainsFunc_Ext_community_Meet_1.f k a0 a2 = some r) :
    To Tryz.prog 51 [.slice ao1 a0.length cap1, .func (.func 52) #[] #[.pointer (some ⟨gp2, 0, none⟩)]] w fun v w' => v = .bool r ∧ Chg [] w w' ∧ MS (M) w' := by
 unfold slices_ContainsFunc_Ext_community_Meet_1.f at H
 refine ent Tryz.func51 rfl [(0, .slice ao1 a0.length cap1), (1, .func (.func 52) #[] #[.pointer (some ⟨gp2, 0, none⟩)])] rfl (by rfl) fun a ha => ?_
 have hC : Chg [] w w := Chg.refl _ _
 refine wp_seq_k fun K3 hK3 => ?_
 refine wp_region_lit ?_
 refine seg ha 1 [(0, .slice ao1 a0.length cap1), (1, .func (.func 52) #[] #[.pointer (some ⟨gp2, 0, none⟩)])] (by kernel_rfl) fun a ha => ?_
 refine hK3 _ _ ?_; try clear hK3 K3
 refine wp_seq_k fun K4 hK4 => ?_
 refine wp_region_lit ?_
 refine seg ha 2 [(5, .slice ao1 a0.length cap1), (6, .func (.func 52) #[] #[.pointer (some ⟨gp2, 0, none⟩)])] (by kernel_rfl) fun a ha => ?_
 obtain ⟨t5, H5, H⟩ := bind_some H
 refine cl ha (by rfl) (by kernel_rfl) (by rfl) (by rfl) (by rfl) (slices_IndexFunc_Ext_community_Meet_1.walk w _ hM a0 ao1 cap1 f1 gp2 a2 ao2 cap2 f2 hBgp2 (hg_gp2) k _ H5) ?_
 rintro _ w5 ⟨rfl, hc5, hMn⟩ a ha
 have o1 : Ok [] (M) w.heap.size := Ok.nil _ _
 have o2 : Ok (M) (M) w.heap.size := (Ok.refl _ _)
 have f1 := f1.chg hc5 o1 o2
 have f2 := f2.chg hc5 o1 o2
 have hBgp2 := hBgp2.chg hc5 (fun h => nomatch h)
 have hM : MS (M) w5 := (hM.chg hc5)
 have hC := hC.trans hc5 (Ok.nil _ _)
 refine seg ha 2 [(4, .bool (decide (t5 ≥ (0 : Int))))] (by kernel_rfl) fun a ha => ?_
 refine hK4 _ _ ?_; try clear hK4 K4
 refine wp_ret ?_
 try simp only [Exit.then, Exit.inBlock]
 obtain rfl := Option.some.inj H
 refine rt1 ha rfl rfl ?_
 exact ⟨rfl, hC, hM⟩
def community_Meet.f (k : Nat) (a0 : List (List Int)) (a1 : List (List Int)) : Option (Bool) := (slices_ContainsFunc_Ext_community_Meet_1.f k a0 a1).bind fun t9 => some ((t9 : Bool))
set_option maxRecDepth 100000 in
theorem community_Meet.walk (w : World) (M : List Nat) (hM : MS M w) (a0 : List (List Int)) (ao1 : Option Addr) (cap1 : Nat) (f1 : RSl (rArr .u8 8) 27 w M ao1 cap1 a0) (a1 : List (List Int)) (ao2 : Option Addr) (cap2 : Nat) (f2 : RSl (rArr .u8 8) 27 w M ao2 cap2 a1) (k : Nat) (r : Bool) (H : community_Meet.f k a0 a1 = some r) :
    To Tryz.prog 16 [.slice ao1 a0.length cap1, .slice ao2 a1.length cap2] w fun v w' => v = .bool r ∧ Chg [] w w' ∧ MS (M) w' := by
 unfold community_Meet.f at H
 refine ent Tryz.func16 rfl [(0, .slice ao1 a0.length cap1), (1, .slice ao2 a1.length cap2)] rfl (by rfl) fun a ha => ?_
 have hC : Chg [] w w := Chg.refl _ _
 refine wp_seq_k fun K3 hK3 => ?_
 refine wp_region_lit ?_
 refine bx (cs := ([.slice ao2 a1.length cap2] : List Value)) ha rfl rfl rfl rfl rfl fun a w4 g5 hN6 ha => ?_
 have o1 : Ok [] (M) w.heap.size := Ok.nil _ _
 have o2 : Ok ([g5] ++ (M)) (M) w.heap.size := (Ok.app (hN6.ok _) (Ok.refl _ _))
 have f1 := f1.chg hN6.chg o1 o2
 have f2 := f2.chg hN6.chg o1 o2
 have p_i7_M : ∀ x ∈ [g5], x ∉ M := fun x hx hy => absurd (hM x (hy)) (Nat.not_lt.2 ((hN6.ge1) x hx))
 have e_i7 : ∀ x ∈ [g5], w.heap.size ≤ x := fun x hx => Nat.le_trans hC.size ((hN6.ge1) x hx)
 have hM : MS ([g5] ++ (M)) w4 := (MS.app hN6.ms (hM.chg hN6.chg))
 have hC := hC.trans hN6.chg (Ok.nil _ _)
 have hBg5 : Box w4 g5 ([.slice ao2 a1.length cap2] : List Value) := hN6.box
 refine seg ha 1 [(0, .slice ao1 a0.length cap1), (3, .pointer (some ⟨g5, 0, none⟩))] (by kernel_rfl) fun a ha => ?_
 refine hK3 _ _ ?_; try clear hK3 K3
 refine wp_seq_k fun K8 hK8 => ?_
 refine wp_region_lit ?_
 refine seg ha 1 [(3, .pointer (some ⟨g5, 0, none⟩)), (5, .slice ao1 a0.length cap1)] (by kernel_rfl) fun a ha => ?_
 refine opk (v := .func (.func 52) #[] #[.pointer (some ⟨g5, 0, none⟩)]) ha rfl rfl rfl rfl rfl (fun w => by kernel_rfl) fun a ha => ?_
 obtain ⟨t9, H9, H⟩ := bind_some H
 refine cl ha (by rfl) (by kernel_rfl) (by rfl) (by rfl) (by rfl) (slices_ContainsFunc_Ext_community_Meet_1.walk w4 _ hM a0 ao1 cap1 f1 g5 a1 ao2 cap2 f2 hBg5 (ml (List.mem_singleton.2 rfl)) k _ H9) ?_
 rintro _ w9 ⟨rfl, hc9, hMn⟩ a ha
 have o1 : Ok [] ([g5] ++ (M)) w4.heap.size := Ok.nil _ _
 have o2 : Ok ([g5] ++ (M)) ([g5] ++ (M)) w4.heap.size := (Ok.refl _ _)
 have f1 := f1.chg hc9 o1 o2
 have f2 := f2.chg hc9 o1 o2
 have hBg5 := hBg5.chg hc9 (fun h => nomatch h)
 have hM : MS ([g5] ++ (M)) w9 := (hM.chg hc9)
 have hC := hC.trans hc9 (Ok.nil _ _)
 refine seg ha 1 [(4, .bool t9)] (by kernel_rfl) fun a ha => ?_
 refine hK8 _ _ ?_; try clear hK8 K8
 refine wp_ret ?_
 try simp only [Exit.then, Exit.inBlock]
 have o1 : Ok [] ([g5] ++ (M)) w9.heap.size := Ok.nil _ _
 have o2 : Ok (M) ([g5] ++ (M)) w9.heap.size := (fun _ h => .inl (mr (h)))
 have f2 := f2.chg (Chg.refl [] _) o1 o2
 have hM : MS (M) w9 := (fun x h => hM.chg (Chg.refl [] _) x (mr (h)))
 obtain rfl := Option.some.inj H
 refine rt1 ha rfl rfl ?_
 exact ⟨rfl, hC, hM⟩
def vinerylaw04_small.f (k : Nat) : Option (Bool) := (community_Target.f k (0 : Int) (65000 : Int) (77 : Int)).bind fun t3 => (community_Import.f k (⟨(4 : Int), ([(10 : Int), (0 : Int), (0 : Int), (1 : Int), (0 : Int), (0 : Int), (0 : Int), (0 : Int), (0 : Int), (0 : Int), (0 : Int), (0 : Int), (0 : Int), (0 : Int), (0 : Int), (0 : Int)] : List Int)⟩ : S_api_Addr) (3 : Int)).bind fun t11 => (community_Source.f k (65000 : Int)).bind fun t19 => (community_Set.f ([t11.1, t3.1, t11.1] : List (List Int))).bind fun t32 => ((if (t3.2 == (0 : Int)) = true then (community_Text.f k t3.1).bind fun t40 => (if ((bstr t40).toList == (bstr ([114, 116, 58, 48, 58, 54, 53, 48, 48, 48, 58, 55, 55] : List UInt8)).toList) = true then (if (t11.2 == (0 : Int)) = true then (community_Text.f k t11.1).bind fun t44 => (if ((bstr t44).toList == (bstr ([105, 109, 112, 111, 114, 116, 58, 49, 48, 46, 48, 46, 48, 46, 49, 58, 51] : List UInt8)).toList) = true then (if (t19.2 == (0 : Int)) = true then (community_Text.f k t19.1).bind fun t48 => (if ((bstr t48).toList == (bstr ([115, 111, 117, 114, 99, 101, 58, 54, 53, 48, 48, 48] : List UInt8)).toList) = true then (if ((t32.length : Int) == (2 : Int)) = true then (if 0 ≤ (0 : Int) ∧ (0 : Int) < (t32.length : Int) then (if (eqA 8 (rd t32 (0 : Int)) t3.1) = true then (community_Meet.f k t32 ([t3.1] : List (List Int))).bind fun t66 => (if t66 = true then (community_Kind.f ([(0 : Int), (9 : Int), (0 : Int), (0 : Int), (0 : Int), (0 : Int), (0 : Int), (0 : Int)] : List Int)).bind fun t70 => some (t70 == (0 : Int) : Bool) else some (false : Bool)) else some (false : Bool)) else none) else some (false : Bool)) else some (false : Bool)) else some (false : Bool)) else some (false : Bool)) else some (false : Bool)) else some (false : Bool)) else some (false : Bool))).bind fun s37 => some ((s37 : Bool))
set_option maxRecDepth 100000 in
theorem vinerylaw04_small.walk (w : World) (M : List Nat) (hM : MS M w) (hG : GF w M)  (k : Nat) (r : Bool) (H : vinerylaw04_small.f k = some r) :
    To Tryz.prog 8 [] w fun v w' => v = .bool r ∧ Chg [] w w' ∧ MS (M) w' := by
 unfold vinerylaw04_small.f at H
 refine ent Tryz.func8 rfl [] rfl (by rfl) fun a ha => ?_
 have hC : Chg [] w w := Chg.refl _ _
 refine wp_seq_k fun K1 hK1 => ?_
 refine wp_region_lit ?_
 refine seg ha 1 [] (by kernel_rfl) fun a ha => ?_
 refine hK1 _ _ ?_; try clear hK1 K1
 refine wp_seq_k fun K2 hK2 => ?_
 refine wp_region_lit ?_
 obtain ⟨t3, H3, H⟩ := bind_some H
 refine cl ha (by rfl) (by kernel_rfl) (by rfl) (by rfl) (by rfl) (community_Target.walk w _ hM (0 : Int) (65000 : Int) (77 : Int) k _ H3) ?_
 rintro _ w3 ⟨rfl, hc3, hMn⟩ a ha
 have o1 : Ok [] (M) w.heap.size := Ok.nil _ _
 have o2 : Ok (M) (M) w.heap.size := (Ok.refl _ _)
 have hG := hG.chg hc3 o1 o2
 have hM : MS (M) w3 := (hM.chg hc3)
 have hC := hC.trans hc3 (Ok.nil _ _)
 refine seg ha 3 [(10, .agg (cA .u8 8 t3.1).toArray), (11, .int .i64 t3.2)] (by kernel_rfl) fun a ha => ?_
 refine al (cs := (cA .u8 8 (List.replicate 8 (0 : Int)))) (z := .agg (cA .u8 8 (List.replicate 8 (0 : Int))).toArray) ha (fun w => by kernel_rfl) rfl rfl rfl rfl fun a w4 g5 hN6 ha => ?_
 have o1 : Ok [] (M) w3.heap.size := Ok.nil _ _
 have o2 : Ok ([g5] ++ (M)) (M) w3.heap.size := (Ok.app (hN6.ok _) (Ok.refl _ _))
 have hG := hG.chg hN6.chg o1 o2
 have p_i7_M : ∀ x ∈ [g5], x ∉ M := fun x hx hy => absurd (hM x (hy)) (Nat.not_lt.2 ((hN6.ge1) x hx))
 have e_i7 : ∀ x ∈ [g5], w.heap.size ≤ x := fun x hx => Nat.le_trans hC.size ((hN6.ge1) x hx)
 have hM : MS ([g5] ++ (M)) w4 := (MS.app hN6.ms (hM.chg hN6.chg))
 have hC := hC.trans hN6.chg (Ok.nil _ _)
 have hBg5 : Box w4 g5 (cA .u8 8 (List.replicate 8 (0 : Int))) := hN6.box
 refine stA (l := (cA .u8 8 t3.1)) ha rfl rfl rfl (by kernel_rfl) rfl rfl hBg5 rfl fun a w8 ha hb2 hc9 _ => ?_
 have o1 : Ok [g5] ([g5] ++ (M)) w4.heap.size := (fun _ h => .inl (ml h))
 have o2 : Ok ([g5] ++ (M)) ([g5] ++ (M)) w4.heap.size := (Ok.refl _ _)
 have hG := hG.chg hc9 o1 o2
 have hM : MS ([g5] ++ (M)) w8 := (hM.chg hc9)
 have hC := hC.trans hc9 (fun x h => .inr (e_i7 x h))
 have hBg5 : Box w8 g5 (cA .u8 8 t3.1) := hb2
 refine seg ha 1 [(1, .pointer (some ⟨g5, 0, none⟩)), (2, .int .i64 t3.2)] (by kernel_rfl) fun a ha => ?_
 refine hK2 _ _ ?_; try clear hK2 K2
 refine wp_seq_k fun K10 hK10 => ?_
 refine wp_region_lit ?_
 refine opk (v := .agg (cA .u8 16 ([(10 : Int), (0 : Int), (0 : Int), (1 : Int), (0 : Int), (0 : Int), (0 : Int), (0 : Int), (0 : Int), (0 : Int), (0 : Int), (0 : Int), (0 : Int), (0 : Int), (0 : Int), (0 : Int)] : List Int)).toArray) ha rfl rfl rfl rfl rfl (fun w => by kernel_rfl) fun a ha => ?_
 refine opk (v := .agg (cS_api_Addr (⟨(4 : Int), ([(10 : Int), (0 : Int), (0 : Int), (1 : Int), (0 : Int), (0 : Int), (0 : Int), (0 : Int), (0 : Int), (0 : Int), (0 : Int), (0 : Int), (0 : Int), (0 : Int), (0 : Int), (0 : Int)] : List Int)⟩ : S_api_Addr)).toArray) ha rfl rfl rfl rfl rfl (fun w => by kernel_rfl) fun a ha => ?_
 obtain ⟨t11, H11, H⟩ := bind_some H
 refine cl ha (by rfl) (by kernel_rfl) (by rfl) (by rfl) (by rfl) (community_Import.walk w8 _ hM (⟨(4 : Int), ([(10 : Int), (0 : Int), (0 : Int), (1 : Int), (0 : Int), (0 : Int), (0 : Int), (0 : Int), (0 : Int), (0 : Int), (0 : Int), (0 : Int), (0 : Int), (0 : Int), (0 : Int), (0 : Int)] : List Int)⟩ : S_api_Addr) (3 : Int) k _ H11) ?_
 rintro _ w11 ⟨rfl, hc11, hMn⟩ a ha
 have o1 : Ok [] ([g5] ++ (M)) w8.heap.size := Ok.nil _ _
 have o2 : Ok ([g5] ++ (M)) ([g5] ++ (M)) w8.heap.size := (Ok.refl _ _)
 have hG := hG.chg hc11 o1 o2
 have hBg5 := hBg5.chg hc11 (fun h => nomatch h)
 have hM : MS ([g5] ++ (M)) w11 := (hM.chg hc11)
 have hC := hC.trans hc11 (Ok.nil _ _)
 refine seg ha 3 [(1, .pointer (some ⟨g5, 0, none⟩)), (2, .int .i64 t3.2), (16, .agg (cA .u8 8 t11.1).toArray), (17, .int .i64 t11.2)] (by kernel_rfl) fun a ha => ?_
 refine al (cs := (cA .u8 8 (List.replicate 8 (0 : Int)))) (z := .agg (cA .u8 8 (List.replicate 8 (0 : Int))).toArray) ha (fun w => by kernel_rfl) rfl rfl rfl rfl fun a w12 g13 hN14 ha => ?_
 have o1 : Ok [] ([g5] ++ (M)) w11.heap.size := Ok.nil _ _
 have o2 : Ok ([g13] ++ ([g5] ++ (M))) ([g5] ++ (M)) w11.heap.size := (Ok.app (hN14.ok _) (Ok.refl _ _))
 have hG := hG.chg hN14.chg o1 o2
 have hBg5 := hBg5.chg hN14.chg (fun h => nomatch h)
 have p_i15_i7 : ∀ x ∈ [g13], x ∉ ([g5]) := fun x hx hy => absurd (hM x (ml hy)) (Nat.not_lt.2 ((hN14.ge1) x hx))
 have p_i15_M : ∀ x ∈ [g13], x ∉ M := fun x hx hy => absurd (hM x (mr (hy))) (Nat.not_lt.2 ((hN14.ge1) x hx))
 have e_i15 : ∀ x ∈ [g13], w.heap.size ≤ x := fun x hx => Nat.le_trans hC.size ((hN14.ge1) x hx)
 have hM : MS ([g13] ++ ([g5] ++ (M))) w12 := (MS.app hN14.ms (hM.chg hN14.chg))
 have hC := hC.trans hN14.chg (Ok.nil _ _)
 have hBg13 : Box w12 g13 (cA .u8 8 (List.replicate 8 (0 : Int))) := hN14.box
 refine stA (l := (cA .u8 8 t11.1)) ha rfl rfl rfl (by kernel_rfl) rfl rfl hBg13 rfl fun a w16 ha hb2 hc17 _ => ?_
 have o1 : Ok [g13] ([g13] ++ ([g5] ++ (M))) w12.heap.size := (fun _ h => .inl (ml h))
 have o2 : Ok ([g13] ++ ([g5] ++ (M))) ([g13] ++ ([g5] ++ (M))) w12.heap.size := (Ok.refl _ _)
 have hG := hG.chg hc17 o1 o2
 have hBg5 := hBg5.chg hc17 ((fun x (hx : x ∈ [g5]) (hy : x ∈ [g13]) => p_i15_i7 x hy hx) g5 (by simp))
 have hM : MS ([g13] ++ ([g5] ++ (M))) w16 := (hM.chg hc17)
 have hC := hC.trans hc17 (fun x h => .inr (e_i15 x h))
 have hBg13 : Box w16 g13 (cA .u8 8 t11.1) := hb2
 refine seg ha 1 [(1, .pointer (some ⟨g5, 0, none⟩)), (2, .int .i64 t3.2), (3, .pointer (some ⟨g13, 0, none⟩)), (4, .int .i64 t11.2)] (by kernel_rfl) fun a ha => ?_
 refine hK10 _ _ ?_; try clear hK10 K10
 refine wp_seq_k fun K18 hK18 => ?_
 refine wp_region_lit ?_
 obtain ⟨t19, H19, H⟩ := bind_some H
 refine cl ha (by rfl) (by kernel_rfl) (by rfl) (by rfl) (by rfl) (community_Source.walk w16 _ hM (65000 : Int) k _ H19) ?_
 rintro _ w19 ⟨rfl, hc19, hMn⟩ a ha
 have o1 : Ok [] ([g13] ++ ([g5] ++ (M))) w16.heap.size := Ok.nil _ _
 have o2 : Ok ([g13] ++ ([g5] ++ (M))) ([g13] ++ ([g5] ++ (M))) w16.heap.size := (Ok.refl _ _)
 have hG := hG.chg hc19 o1 o2
 have hBg5 := hBg5.chg hc19 (fun h => nomatch h)
 have hBg13 := hBg13.chg hc19 (fun h => nomatch h)
 have hM : MS ([g13] ++ ([g5] ++ (M))) w19 := (hM.chg hc19)
 have hC := hC.trans hc19 (Ok.nil _ _)
 refine seg ha 3 [(1, .pointer (some ⟨g5, 0, none⟩)), (2, .int .i64 t3.2), (3, .pointer (some ⟨g13, 0, none⟩)), (4, .int .i64 t11.2), (20, .agg (cA .u8 8 t19.1).toArray), (21, .int .i64 t19.2)] (by kernel_rfl) fun a ha => ?_
 refine al (cs := (cA .u8 8 (List.replicate 8 (0 : Int)))) (z := .agg (cA .u8 8 (List.replicate 8 (0 : Int))).toArray) ha (fun w => by kernel_rfl) rfl rfl rfl rfl fun a w20 g21 hN22 ha => ?_
 have o1 : Ok [] ([g13] ++ ([g5] ++ (M))) w19.heap.size := Ok.nil _ _
 have o2 : Ok ([g21] ++ ([g13] ++ ([g5] ++ (M)))) ([g13] ++ ([g5] ++ (M))) w19.heap.size := (Ok.app (hN22.ok _) (Ok.refl _ _))
 have hG := hG.chg hN22.chg o1 o2
 have hBg5 := hBg5.chg hN22.chg (fun h => nomatch h)
 have hBg13 := hBg13.chg hN22.chg (fun h => nomatch h)
 have p_i23_i15 : ∀ x ∈ [g21], x ∉ ([g13]) := fun x hx hy => absurd (hM x (ml hy)) (Nat.not_lt.2 ((hN22.ge1) x hx))
 have p_i23_i7 : ∀ x ∈ [g21], x ∉ ([g5]) := fun x hx hy => absurd (hM x (mr (ml hy))) (Nat.not_lt.2 ((hN22.ge1) x hx))
 have p_i23_M : ∀ x ∈ [g21], x ∉ M := fun x hx hy => absurd (hM x (mr (mr (hy)))) (Nat.not_lt.2 ((hN22.ge1) x hx))
 have e_i23 : ∀ x ∈ [g21], w.heap.size ≤ x := fun x hx => Nat.le_trans hC.size ((hN22.ge1) x hx)
 have hM : MS ([g21] ++ ([g13] ++ ([g5] ++ (M)))) w20 := (MS.app hN22.ms (hM.chg hN22.chg))
 have hC := hC.trans hN22.chg (Ok.nil _ _)
 have hBg21 : Box w20 g21 (cA .u8 8 (List.replicate 8 (0 : Int))) := hN22.box
 refine stA (l := (cA .u8 8 t19.1)) ha rfl rfl rfl (by kernel_rfl) rfl rfl hBg21 rfl fun a w24 ha hb2 hc25 _ => ?_
 have o1 : Ok [g21] ([g21] ++ ([g13] ++ ([g5] ++ (M)))) w20.heap.size := (fun _ h => .inl (ml h))
 have o2 : Ok ([g21] ++ ([g13] ++ ([g5] ++ (M)))) ([g21] ++ ([g13] ++ ([g5] ++ (M)))) w20.heap.size := (Ok.refl _ _)
 have hG := hG.chg hc25 o1 o2
 have hBg5 := hBg5.chg hc25 ((fun x (hx : x ∈ [g5]) (hy : x ∈ [g21]) => p_i23_i7 x hy hx) g5 (by simp))
 have hBg13 := hBg13.chg hc25 ((fun x (hx : x ∈ [g13]) (hy : x ∈ [g21]) => p_i23_i15 x hy hx) g13 (by simp))
 have hM : MS ([g21] ++ ([g13] ++ ([g5] ++ (M)))) w24 := (hM.chg hc25)
 have hC := hC.trans hc25 (fun x h => .inr (e_i23 x h))
 have hBg21 : Box w24 g21 (cA .u8 8 t19.1) := hb2
 refine seg ha 1 [(1, .pointer (some ⟨g5, 0, none⟩)), (2, .int .i64 t3.2), (3, .pointer (some ⟨g13, 0, none⟩)), (4, .int .i64 t11.2), (5, .pointer (some ⟨g21, 0, none⟩)), (6, .int .i64 t19.2)] (by kernel_rfl) fun a ha => ?_
 refine hK18 _ _ ?_; try clear hK18 K18
 refine wp_seq_k fun K26 hK26 => ?_
 refine wp_region_lit ?_
 refine ldA (cs := (cA .u8 8 t11.1)) ha rfl (by kernel_rfl) rfl rfl rfl (cells_sub (Box.cells hBg13) (all := (cA .u8 8 t11.1)) [] [] (by kernel_rfl)) fun a ha => ?_
 refine ldA (cs := (cA .u8 8 t3.1)) ha rfl (by kernel_rfl) rfl rfl rfl (cells_sub (Box.cells hBg5) (all := (cA .u8 8 t3.1)) [] [] (by kernel_rfl)) fun a ha => ?_
 refine ldA (cs := (cA .u8 8 t11.1)) ha rfl (by kernel_rfl) rfl rfl rfl (cells_sub (Box.cells hBg13) (all := (cA .u8 8 t11.1)) [] [] (by kernel_rfl)) fun a ha => ?_
 refine bslA (vals := ([.agg (cA .u8 8 t11.1).toArray, .agg (cA .u8 8 t3.1).toArray, .agg (cA .u8 8 t11.1).toArray] : List Value)) (T := 27) (z := .agg (cA .u8 8 (List.replicate 8 (0 : Int))).toArray) ha rfl (by kernel_rfl) rfl (by kernel_rfl) (s := 8) (by kernel_rfl) rfl rfl (fun w => by kernel_rfl) (by kernel_rfl) rfl rfl rfl fun a w27 g28 hN29 ha => ?_
 have hN29 := (show New _ _ _ (.cells (((cA .u8 8 t11.1) ++ ((cA .u8 8 t3.1) ++ ((cA .u8 8 t11.1) ++ ([] : List Value))))).toArray 27 (0, 0)) from hN29)
 have o1 : Ok [] ([g21] ++ ([g13] ++ ([g5] ++ (M)))) w24.heap.size := Ok.nil _ _
 have o2 : Ok ([g28] ++ ([g21] ++ ([g13] ++ ([g5] ++ (M))))) ([g21] ++ ([g13] ++ ([g5] ++ (M)))) w24.heap.size := (Ok.app (hN29.ok _) (Ok.refl _ _))
 have hG := hG.chg hN29.chg o1 o2
 have hBg5 := hBg5.chg hN29.chg (fun h => nomatch h)
 have hBg13 := hBg13.chg hN29.chg (fun h => nomatch h)
 have hBg21 := hBg21.chg hN29.chg (fun h => nomatch h)
 have p_i30_i23 : ∀ x ∈ [g28], x ∉ ([g21]) := fun x hx hy => absurd (hM x (ml hy)) (Nat.not_lt.2 ((hN29.ge1) x hx))
 have p_i30_i15 : ∀ x ∈ [g28], x ∉ ([g13]) := fun x hx hy => absurd (hM x (mr (ml hy))) (Nat.not_lt.2 ((hN29.ge1) x hx))
 have p_i30_i7 : ∀ x ∈ [g28], x ∉ ([g5]) := fun x hx hy => absurd (hM x (mr (mr (ml hy)))) (Nat.not_lt.2 ((hN29.ge1) x hx))
 have p_i30_M : ∀ x ∈ [g28], x ∉ M := fun x hx hy => absurd (hM x (mr (mr (mr (hy))))) (Nat.not_lt.2 ((hN29.ge1) x hx))
 have e_i30 : ∀ x ∈ [g28], w.heap.size ≤ x := fun x hx => Nat.le_trans hC.size ((hN29.ge1) x hx)
 have hM : MS ([g28] ++ ([g21] ++ ([g13] ++ ([g5] ++ (M))))) w27 := (MS.app hN29.ms (hM.chg hN29.chg))
 have hC := hC.trans hN29.chg (Ok.nil _ _)
 have f31 : Own (rArr .u8 8) 27 w27 ([g28] ++ ([g21] ++ ([g13] ++ ([g5] ++ (M))))) (some ⟨g28, 0, none⟩) 3 ([t11.1, t3.1, t11.1] : List (List Int)) := hN29.own ⟨(cA .u8 8 t11.1), _, rfl, rfl, ⟨(cA .u8 8 t3.1), _, rfl, rfl, ⟨(cA .u8 8 t11.1), _, rfl, rfl, rfl⟩⟩⟩ (Nat.le_of_ble_eq_true rfl)
 have hML : MS ([g21] ++ ([g13] ++ ([g5] ++ (M)))) w27 := MS.rest hM (fun _ h => (List.mem_append.1 h).elim (fun h => mr (ml h)) (fun h => (List.mem_append.1 h).elim (fun h => mr (mr (ml h))) (fun h => (List.mem_append.1 h).elim (fun h => mr (mr (mr (ml h)))) (fun h => mr (mr (mr (mr (h))))))))
 have oL : Ok ([g21] ++ ([g13] ++ ([g5] ++ (M)))) ([g28] ++ ([g21] ++ ([g13] ++ ([g5] ++ (M))))) w27.heap.size := (fun _ h => .inl (mr (h)))
 obtain ⟨t32, H32, H⟩ := bind_some H
 refine cl ha (by rfl) (by kernel_rfl) (by rfl) (by rfl) (by rfl) (community_Set.walk w27 _ hML ([t11.1, t3.1, t11.1] : List (List Int)) (some ⟨g28, 0, none⟩) 3 (Own.toRSl (M' := [g21] ++ ([g13] ++ ([g5] ++ (M)))) f31 oL (fun x hx hm => (List.mem_append.1 hm).elim (fun h => p_i30_i23 x hx h) (fun h => (List.mem_append.1 h).elim (fun h => p_i30_i15 x hx h) (fun h => (List.mem_append.1 h).elim (fun h => p_i30_i7 x hx h) (fun h => p_i30_M x hx h))))) _ H32) ?_
 rintro _ w32 ⟨ao33, cap33, rfl, f33, ne_i33, hc32, hMn⟩ a ha
 have o1 : Ok [] ([g28] ++ ([g21] ++ ([g13] ++ ([g5] ++ (M))))) w27.heap.size := Ok.nil _ _
 have o2 : Ok (blkL ao33 ++ ([g28] ++ ([g21] ++ ([g13] ++ ([g5] ++ (M)))))) ([g28] ++ ([g21] ++ ([g13] ++ ([g5] ++ (M))))) w27.heap.size := (Ok.app (fun x h => .inr (ne_i33 x h)) (Ok.refl _ _))
 have hG := hG.chg hc32 o1 o2
 have f31 := f31.chg hc32 o1 o2 (fun _ _ h => nomatch h) (fun _ h => mr (ml h))
 have hBg5 := hBg5.chg hc32 (fun h => nomatch h)
 have hBg13 := hBg13.chg hc32 (fun h => nomatch h)
 have hBg21 := hBg21.chg hc32 (fun h => nomatch h)
 have p_i33_i30 : ∀ x ∈ blkL ao33, x ∉ ([g28]) := fun x hx hy => absurd (hM x (ml hy)) (Nat.not_lt.2 (ne_i33 x hx))
 have p_i33_i23 : ∀ x ∈ blkL ao33, x ∉ ([g21]) := fun x hx hy => absurd (hM x (mr (ml hy))) (Nat.not_lt.2 (ne_i33 x hx))
 have p_i33_i15 : ∀ x ∈ blkL ao33, x ∉ ([g13]) := fun x hx hy => absurd (hM x (mr (mr (ml hy)))) (Nat.not_lt.2 (ne_i33 x hx))
 have p_i33_i7 : ∀ x ∈ blkL ao33, x ∉ ([g5]) := fun x hx hy => absurd (hM x (mr (mr (mr (ml hy))))) (Nat.not_lt.2 (ne_i33 x hx))
 have p_i33_M : ∀ x ∈ blkL ao33, x ∉ M := fun x hx hy => absurd (hM x (mr (mr (mr (mr (hy)))))) (Nat.not_lt.2 (ne_i33 x hx))
 have e_i33 : ∀ x ∈ blkL ao33, w.heap.size ≤ x := fun x hx => Nat.le_trans hC.size (ne_i33 x hx)
 have hM : MS (blkL ao33 ++ ([g28] ++ ([g21] ++ ([g13] ++ ([g5] ++ (M)))))) w32 := (MS.app (fun x h => hMn x (ml h)) (hM.chg hc32))
 have hC := hC.trans hc32 (Ok.nil _ _)
 have f33 := Own.re (M' := blkL ao33 ++ ([g28] ++ ([g21] ++ ([g13] ++ ([g5] ++ (M)))))) (fun _ _ _ _ _ h => h) f33 (fun _ h => ml h)
 refine seg ha 1 [(1, .pointer (some ⟨g5, 0, none⟩)), (2, .int .i64 t3.2), (3, .pointer (some ⟨g13, 0, none⟩)), (4, .int .i64 t11.2), (5, .pointer (some ⟨g21, 0, none⟩)), (6, .int .i64 t19.2), (7, .slice ao33 t32.length cap33)] (by kernel_rfl) fun a ha => ?_
 refine hK26 _ _ ?_; try clear hK26 K26
 refine wp_seq_k fun K34 hK34 => ?_
 have okS : Ok [] (blkL ao33 ++ ([g28] ++ ([g21] ++ ([g13] ++ ([g5] ++ (M)))))) w32.heap.size := Ok.nil _ _
 have z_f33 := (Own.toRSl (M' := []) f33 (Ok.nil _ _) (fun _ _ h => nomatch h))
 have z_hBg5 := hBg5
 have z_hBg13 := hBg13
 have z_hBg21 := hBg21
 refine drw (fun w' => Chg [] w32 w') (by kernel_rfl) fun w35 hc36 _ => ?_
 have hS : Chg [] w32 w35 := (Chg.refl [] _).trans hc36 (Ok.nil _ _)
 have o1 : Ok [] (blkL ao33 ++ ([g28] ++ ([g21] ++ ([g13] ++ ([g5] ++ (M)))))) w32.heap.size := Ok.nil _ _
 have o2 : Ok (blkL ao33 ++ ([g28] ++ ([g21] ++ ([g13] ++ ([g5] ++ (M)))))) (blkL ao33 ++ ([g28] ++ ([g21] ++ ([g13] ++ ([g5] ++ (M)))))) w32.heap.size := (Ok.refl _ _)
 have hG := hG.chg hc36 o1 o2
 have f33 := f33.chg hc36 o1 o2 (fun _ _ h => nomatch h) (fun _ h => ml h)
 have hBg5 := hBg5.chg hc36 (fun h => nomatch h)
 have hBg13 := hBg13.chg hc36 (fun h => nomatch h)
 have hBg21 := hBg21.chg hc36 (fun h => nomatch h)
 have hM : MS (blkL ao33 ++ ([g28] ++ ([g21] ++ ([g13] ++ ([g5] ++ (M)))))) w35 := (hM.chg hc36)
 have hC := hC.trans hc36 (Ok.nil _ _)
 obtain ⟨s37, H37, H⟩ := bind_some H
 have J37 : ∀ (a : Act) (w37 : World), Has a Tryz.f8.ntmps [(0, .bool s37)] → (Box w37 g5 (cA .u8 8 t3.1)) → (Box w37 g13 (cA .u8 8 t11.1)) → (Box w37 g21 (cA .u8 8 t19.1)) → (GF w37 ([g21] ++ ([g13] ++ ([g5] ++ (M))))) → (Chg [] w w37) → (MS ([g21] ++ ([g13] ++ ([g5] ++ (M)))) w37) → K34 a w37 := by
  intro a w37 ha hBg5 hBg13 hBg21 hG hC hM
  refine hK34 _ _ ?_; try clear hK34 K34
  refine wp_ret ?_
  try simp only [Exit.then, Exit.inBlock]
  have o1 : Ok [] ([g21] ++ ([g13] ++ ([g5] ++ (M)))) w37.heap.size := Ok.nil _ _
  have o2 : Ok (M) ([g21] ++ ([g13] ++ ([g5] ++ (M)))) w37.heap.size := (fun _ h => .inl (mr (mr (mr (h)))))
  have hG := hG.chg (Chg.refl [] _) o1 o2
  have hM : MS (M) w37 := (fun x h => hM.chg (Chg.refl [] _) x (mr (mr (mr (h)))))
  obtain rfl := Option.some.inj H
  refine rt1 ha rfl rfl ?_
  exact ⟨rfl, hC, hM⟩
 have H := H37
 refine tkpz 0 0 (.int .i64 t3.2) ha (s := hS) (q := fun a ha => ?_)
 refine tkpz 1 0 (.bool (t3.2 == (0 : Int))) ha (s := hS) (q := fun a ha => ?_)
 refine tkpz 2 0 (.bool (t3.2 == (0 : Int))) ha (s := hS) (q := fun a ha => ?_)
 have ha := ha.sel (env' := [(29, .bool (t3.2 == (0 : Int))), (1, .pointer (some ⟨g5, 0, none⟩)), (3, .pointer (some ⟨g13, 0, none⟩)), (4, .int .i64 t11.2), (5, .pointer (some ⟨g21, 0, none⟩)), (6, .int .i64 t19.2), (7, .slice ao33 t32.length cap33)]) (by kernel_rfl)
 rcases Bool.eq_false_or_eq_true (t3.2 == (0 : Int)) with hb38 | hb38
 ·have ha := ha.lit hb38
  have H := ite_t hb38 H
  refine tkz 3 ha (v := .agg (cA .u8 8 t3.1).toArray) (y := fun w' hs => ldA_run (cs := (cA .u8 8 t3.1)) ha rfl (by kernel_rfl) (cells_sub (Box.cells (Box.chg z_hBg5 hs (fun h => nomatch h))) (all := (cA .u8 8 t3.1)) [] [] (by kernel_rfl))) (s := hS) (q := fun a ha => ?_)
  refine ac 4 (by kernel_rfl) (by rfl) fun K39 hK39 => ?_
  obtain ⟨t40, H40, H⟩ := bind_some H
  refine cl ha (by rfl) (by kernel_rfl) (by rfl) (by rfl) (by rfl) (community_Text.walk w35 _ hM hG t3.1 k _ H40) ?_
  rintro _ w40 ⟨rfl, hc40, hMn⟩ a ha
  have o1 : Ok [] (blkL ao33 ++ ([g28] ++ ([g21] ++ ([g13] ++ ([g5] ++ (M)))))) w35.heap.size := Ok.nil _ _
  have o2 : Ok (blkL ao33 ++ ([g28] ++ ([g21] ++ ([g13] ++ ([g5] ++ (M)))))) (blkL ao33 ++ ([g28] ++ ([g21] ++ ([g13] ++ ([g5] ++ (M)))))) w35.heap.size := (Ok.refl _ _)
  have hG := hG.chg hc40 o1 o2
  have f33 := f33.chg hc40 o1 o2 (fun _ _ h => nomatch h) (fun _ h => ml h)
  have hBg5 := hBg5.chg hc40 (fun h => nomatch h)
  have hBg13 := hBg13.chg hc40 (fun h => nomatch h)
  have hBg21 := hBg21.chg hc40 (fun h => nomatch h)
  have hM : MS (blkL ao33 ++ ([g28] ++ ([g21] ++ ([g13] ++ ([g5] ++ (M)))))) w40 := (hM.chg hc40)
  have hC := hC.trans hc40 (Ok.nil _ _)
  have hS := hS.trans hc40 (Ok.nil _ _)
  refine ae hK39 hS ?_; clear hK39 K39
  refine tkpz 5 0 (.bool ((bstr t40).toList == (bstr ([114, 116, 58, 48, 58, 54, 53, 48, 48, 48, 58, 55, 55] : List UInt8)).toList)) ha (s := hS) (q := fun a ha => ?_)
  refine tkpz 6 3 (.bool ((bstr t40).toList == (bstr ([114, 116, 58, 48, 58, 54, 53, 48, 48, 48, 58, 55, 55] : List UInt8)).toList)) ha (s := hS) (q := fun a ha => ?_)
  refine tkpz 7 0 (.bool ((bstr t40).toList == (bstr ([114, 116, 58, 48, 58, 54, 53, 48, 48, 48, 58, 55, 55] : List UInt8)).toList)) ha (s := hS) (q := fun a ha => ?_)
  have ha := ha.sel (env' := [(34, .bool ((bstr t40).toList == (bstr ([114, 116, 58, 48, 58, 54, 53, 48, 48, 48, 58, 55, 55] : List UInt8)).toList)), (1, .pointer (some ⟨g5, 0, none⟩)), (3, .pointer (some ⟨g13, 0, none⟩)), (4, .int .i64 t11.2), (5, .pointer (some ⟨g21, 0, none⟩)), (6, .int .i64 t19.2), (7, .slice ao33 t32.length cap33)]) (by kernel_rfl)
  rcases Bool.eq_false_or_eq_true ((bstr t40).toList == (bstr ([114, 116, 58, 48, 58, 54, 53, 48, 48, 48, 58, 55, 55] : List UInt8)).toList) with hb41 | hb41
  ·have ha := ha.lit hb41
   have H := ite_t hb41 H
   refine tkpz 8 0 (.int .i64 t11.2) ha (s := hS) (q := fun a ha => ?_)
   refine tkpz 9 0 (.bool (t11.2 == (0 : Int))) ha (s := hS) (q := fun a ha => ?_)
   refine tkpz 10 3 (.bool (t11.2 == (0 : Int))) ha (s := hS) (q := fun a ha => ?_)
   refine tkpz 11 0 (.bool (t11.2 == (0 : Int))) ha (s := hS) (q := fun a ha => ?_)
   have ha := ha.sel (env' := [(38, .bool (t11.2 == (0 : Int))), (1, .pointer (some ⟨g5, 0, none⟩)), (3, .pointer (some ⟨g13, 0, none⟩)), (5, .pointer (some ⟨g21, 0, none⟩)), (6, .int .i64 t19.2), (7, .slice ao33 t32.length cap33)]) (by kernel_rfl)
   rcases Bool.eq_false_or_eq_true (t11.2 == (0 : Int)) with hb42 | hb42
   ·have ha := ha.lit hb42
    have H := ite_t hb42 H
    refine tkz 12 ha (v := .agg (cA .u8 8 t11.1).toArray) (y := fun w' hs => ldA_run (cs := (cA .u8 8 t11.1)) ha rfl (by kernel_rfl) (cells_sub (Box.cells (Box.chg z_hBg13 hs (fun h => nomatch h))) (all := (cA .u8 8 t11.1)) [] [] (by kernel_rfl))) (s := hS) (q := fun a ha => ?_)
    refine ac 13 (by kernel_rfl) (by rfl) fun K43 hK43 => ?_
    obtain ⟨t44, H44, H⟩ := bind_some H
    refine cl ha (by rfl) (by kernel_rfl) (by rfl) (by rfl) (by rfl) (community_Text.walk w40 _ hM hG t11.1 k _ H44) ?_
    rintro _ w44 ⟨rfl, hc44, hMn⟩ a ha
    have o1 : Ok [] (blkL ao33 ++ ([g28] ++ ([g21] ++ ([g13] ++ ([g5] ++ (M)))))) w40.heap.size := Ok.nil _ _
    have o2 : Ok (blkL ao33 ++ ([g28] ++ ([g21] ++ ([g13] ++ ([g5] ++ (M)))))) (blkL ao33 ++ ([g28] ++ ([g21] ++ ([g13] ++ ([g5] ++ (M)))))) w40.heap.size := (Ok.refl _ _)
    have hG := hG.chg hc44 o1 o2
    have f33 := f33.chg hc44 o1 o2 (fun _ _ h => nomatch h) (fun _ h => ml h)
    have hBg5 := hBg5.chg hc44 (fun h => nomatch h)
    have hBg13 := hBg13.chg hc44 (fun h => nomatch h)
    have hBg21 := hBg21.chg hc44 (fun h => nomatch h)
    have hM : MS (blkL ao33 ++ ([g28] ++ ([g21] ++ ([g13] ++ ([g5] ++ (M)))))) w44 := (hM.chg hc44)
    have hC := hC.trans hc44 (Ok.nil _ _)
    have hS := hS.trans hc44 (Ok.nil _ _)
    refine ae hK43 hS ?_; clear hK43 K43
    refine tkpz 14 0 (.bool ((bstr t44).toList == (bstr ([105, 109, 112, 111, 114, 116, 58, 49, 48, 46, 48, 46, 48, 46, 49, 58, 51] : List UInt8)).toList)) ha (s := hS) (q := fun a ha => ?_)
    refine tkpz 15 3 (.bool ((bstr t44).toList == (bstr ([105, 109, 112, 111, 114, 116, 58, 49, 48, 46, 48, 46, 48, 46, 49, 58, 51] : List UInt8)).toList)) ha (s := hS) (q := fun a ha => ?_)
    refine tkpz 16 0 (.bool ((bstr t44).toList == (bstr ([105, 109, 112, 111, 114, 116, 58, 49, 48, 46, 48, 46, 48, 46, 49, 58, 51] : List UInt8)).toList)) ha (s := hS) (q := fun a ha => ?_)
    have ha := ha.sel (env' := [(43, .bool ((bstr t44).toList == (bstr ([105, 109, 112, 111, 114, 116, 58, 49, 48, 46, 48, 46, 48, 46, 49, 58, 51] : List UInt8)).toList)), (1, .pointer (some ⟨g5, 0, none⟩)), (5, .pointer (some ⟨g21, 0, none⟩)), (6, .int .i64 t19.2), (7, .slice ao33 t32.length cap33)]) (by kernel_rfl)
    rcases Bool.eq_false_or_eq_true ((bstr t44).toList == (bstr ([105, 109, 112, 111, 114, 116, 58, 49, 48, 46, 48, 46, 48, 46, 49, 58, 51] : List UInt8)).toList) with hb45 | hb45
    ·have ha := ha.lit hb45
     have H := ite_t hb45 H
     refine tkpz 17 0 (.int .i64 t19.2) ha (s := hS) (q := fun a ha => ?_)
     refine tkpz 18 0 (.bool (t19.2 == (0 : Int))) ha (s := hS) (q := fun a ha => ?_)
     refine tkpz 19 3 (.bool (t19.2 == (0 : Int))) ha (s := hS) (q := fun a ha => ?_)
     refine tkpz 20 0 (.bool (t19.2 == (0 : Int))) ha (s := hS) (q := fun a ha => ?_)
     have ha := ha.sel (env' := [(47, .bool (t19.2 == (0 : Int))), (1, .pointer (some ⟨g5, 0, none⟩)), (5, .pointer (some ⟨g21, 0, none⟩)), (7, .slice ao33 t32.length cap33)]) (by kernel_rfl)
     rcases Bool.eq_false_or_eq_true (t19.2 == (0 : Int)) with hb46 | hb46
     ·have ha := ha.lit hb46
      have H := ite_t hb46 H
      refine tkz 21 ha (v := .agg (cA .u8 8 t19.1).toArray) (y := fun w' hs => ldA_run (cs := (cA .u8 8 t19.1)) ha rfl (by kernel_rfl) (cells_sub (Box.cells (Box.chg z_hBg21 hs (fun h => nomatch h))) (all := (cA .u8 8 t19.1)) [] [] (by kernel_rfl))) (s := hS) (q := fun a ha => ?_)
      refine ac 22 (by kernel_rfl) (by rfl) fun K47 hK47 => ?_
      obtain ⟨t48, H48, H⟩ := bind_some H
      refine cl ha (by rfl) (by kernel_rfl) (by rfl) (by rfl) (by rfl) (community_Text.walk w44 _ hM hG t19.1 k _ H48) ?_
      rintro _ w48 ⟨rfl, hc48, hMn⟩ a ha
      have o1 : Ok [] (blkL ao33 ++ ([g28] ++ ([g21] ++ ([g13] ++ ([g5] ++ (M)))))) w44.heap.size := Ok.nil _ _
      have o2 : Ok (blkL ao33 ++ ([g28] ++ ([g21] ++ ([g13] ++ ([g5] ++ (M)))))) (blkL ao33 ++ ([g28] ++ ([g21] ++ ([g13] ++ ([g5] ++ (M)))))) w44.heap.size := (Ok.refl _ _)
      have hG := hG.chg hc48 o1 o2
      have f33 := f33.chg hc48 o1 o2 (fun _ _ h => nomatch h) (fun _ h => ml h)
      have hBg5 := hBg5.chg hc48 (fun h => nomatch h)
      have hBg13 := hBg13.chg hc48 (fun h => nomatch h)
      have hBg21 := hBg21.chg hc48 (fun h => nomatch h)
      have hM : MS (blkL ao33 ++ ([g28] ++ ([g21] ++ ([g13] ++ ([g5] ++ (M)))))) w48 := (hM.chg hc48)
      have hC := hC.trans hc48 (Ok.nil _ _)
      have hS := hS.trans hc48 (Ok.nil _ _)
      refine ae hK47 hS ?_; clear hK47 K47
      refine tkpz 23 0 (.bool ((bstr t48).toList == (bstr ([115, 111, 117, 114, 99, 101, 58, 54, 53, 48, 48, 48] : List UInt8)).toList)) ha (s := hS) (q := fun a ha => ?_)
      refine tkpz 24 3 (.bool ((bstr t48).toList == (bstr ([115, 111, 117, 114, 99, 101, 58, 54, 53, 48, 48, 48] : List UInt8)).toList)) ha (s := hS) (q := fun a ha => ?_)
      refine tkpz 25 0 (.bool ((bstr t48).toList == (bstr ([115, 111, 117, 114, 99, 101, 58, 54, 53, 48, 48, 48] : List UInt8)).toList)) ha (s := hS) (q := fun a ha => ?_)
      have ha := ha.sel (env' := [(52, .bool ((bstr t48).toList == (bstr ([115, 111, 117, 114, 99, 101, 58, 54, 53, 48, 48, 48] : List UInt8)).toList)), (1, .pointer (some ⟨g5, 0, none⟩)), (7, .slice ao33 t32.length cap33)]) (by kernel_rfl)
      rcases Bool.eq_false_or_eq_true ((bstr t48).toList == (bstr ([115, 111, 117, 114, 99, 101, 58, 54, 53, 48, 48, 48] : List UInt8)).toList) with hb49 | hb49
      ·have ha := ha.lit hb49
       have H := ite_t hb49 H
       refine tkpz 26 0 (.slice ao33 t32.length cap33) ha (s := hS) (q := fun a ha => ?_)
       refine tkpz 27 0 (.int .i64 (t32.length : Int)) ha (s := hS) (q := fun a ha => ?_)
       refine tkpz 28 0 (.bool ((t32.length : Int) == (2 : Int))) ha (s := hS) (q := fun a ha => ?_)
       refine tkpz 29 3 (.bool ((t32.length : Int) == (2 : Int))) ha (s := hS) (q := fun a ha => ?_)
       refine tkpz 30 0 (.bool ((t32.length : Int) == (2 : Int))) ha (s := hS) (q := fun a ha => ?_)
       have ha := ha.sel (env' := [(57, .bool ((t32.length : Int) == (2 : Int))), (1, .pointer (some ⟨g5, 0, none⟩)), (7, .slice ao33 t32.length cap33)]) (by kernel_rfl)
       rcases Bool.eq_false_or_eq_true ((t32.length : Int) == (2 : Int)) with hb50 | hb50
       ·have ha := ha.lit hb50
        have H := ite_t hb50 H
        refine tkpz 31 0 (.slice ao33 t32.length cap33) ha (s := hS) (q := fun a ha => ?_)
        obtain ⟨⟨hx51, hx51'⟩, H⟩ := ite_some H
        obtain ⟨ge52, oe530, cs54, hx51eq, hn57, hR55, hE56⟩ := RSl.elem z_f33 (Int.toNat (0 : Int)) (by omega)
        rw [rd_get] at hR55
        obtain rfl := hR55
        have hE56 : ∀ j v, (cA .u8 8 (rd t32 (0 : Int)))[j]? = some v → w32.cell? ⟨ge52, (oe530 + (Int.toNat (0 : Int)) * (rArr .u8 8).sz) + j, none⟩ = some v := hE56
        refine tkz 32 ha (v := .pointer (some ⟨ge52, (oe530 + (Int.toNat (0 : Int)) * (rArr .u8 8).sz), none⟩)) (y := fun w' _ => ix_run (r := (rArr .u8 8)) (T := 27) ha (by kernel_rfl) (by kernel_rfl) (by rfl) (by rfl) hx51eq hx51 hx51') (s := hS) (q := fun a ha => ?_)
        refine tkz 33 ha (v := .agg (cA .u8 8 (rd t32 (0 : Int))).toArray) (y := fun w' hs => ldA_run (cs := (cA .u8 8 (rd t32 (0 : Int)))) ha rfl (by kernel_rfl) (cells_sub (fun j v hv => cell_keep hs (Ok.nil _ _) hn57 (hE56 j v hv)) (all := (cA .u8 8 (rd t32 (0 : Int)))) [] [] (by kernel_rfl))) (s := hS) (q := fun a ha => ?_)
        refine tkz 34 ha (v := .agg (cA .u8 8 t3.1).toArray) (y := fun w' hs => ldA_run (cs := (cA .u8 8 t3.1)) ha rfl (by kernel_rfl) (cells_sub (Box.cells (Box.chg z_hBg5 hs (fun h => nomatch h))) (all := (cA .u8 8 t3.1)) [] [] (by kernel_rfl))) (s := hS) (q := fun a ha => ?_)
        refine tkz 35 ha (v := .bool (eqA 8 (rd t32 (0 : Int)) t3.1)) (y := fun w' hs => eqs_run (r := (eqA 8 (rd t32 (0 : Int)) t3.1)) (m := 9) ha rfl rfl (by kernel_rfl) rfl (by kernel_rfl) w') (s := hS) (q := fun a ha => ?_)
        refine tkpz 36 3 (.bool (eqA 8 (rd t32 (0 : Int)) t3.1)) ha (s := hS) (q := fun a ha => ?_)
        refine tkpz 37 0 (.bool (eqA 8 (rd t32 (0 : Int)) t3.1)) ha (s := hS) (q := fun a ha => ?_)
        have ha := ha.sel (env' := [(64, .bool (eqA 8 (rd t32 (0 : Int)) t3.1)), (1, .pointer (some ⟨g5, 0, none⟩)), (7, .slice ao33 t32.length cap33)]) (by kernel_rfl)
        rcases Bool.eq_false_or_eq_true ((eqA 8 (rd t32 (0 : Int)) t3.1)) with hb58 | hb58
        ·have ha := ha.lit hb58
         have H := ite_t hb58 H
         refine tkpz 38 0 (.slice ao33 t32.length cap33) ha (s := hS) (q := fun a ha => ?_)
         refine tkz 39 ha (v := .agg (cA .u8 8 t3.1).toArray) (y := fun w' hs => ldA_run (cs := (cA .u8 8 t3.1)) ha rfl (by kernel_rfl) (cells_sub (Box.cells (Box.chg z_hBg5 hs (fun h => nomatch h))) (all := (cA .u8 8 t3.1)) [] [] (by kernel_rfl))) (s := hS) (q := fun a ha => ?_)
         refine ac 40 (by kernel_rfl) (by rfl) fun K59 hK59 => ?_
         refine bslA (vals := ([.agg (cA .u8 8 t3.1).toArray] : List Value)) (T := 27) (z := .agg (cA .u8 8 (List.replicate 8 (0 : Int))).toArray) ha rfl (by kernel_rfl) rfl (by kernel_rfl) (s := 8) (by kernel_rfl) rfl rfl (fun w => by kernel_rfl) (by kernel_rfl) rfl rfl rfl fun a w60 g61 hN62 ha => ?_
         have hN62 := (show New _ _ _ (.cells (((cA .u8 8 t3.1) ++ ([] : List Value))).toArray 27 (0, 0)) from hN62)
         have o1 : Ok [] (blkL ao33 ++ ([g28] ++ ([g21] ++ ([g13] ++ ([g5] ++ (M)))))) w48.heap.size := Ok.nil _ _
         have o2 : Ok ([g61] ++ (blkL ao33 ++ ([g28] ++ ([g21] ++ ([g13] ++ ([g5] ++ (M))))))) (blkL ao33 ++ ([g28] ++ ([g21] ++ ([g13] ++ ([g5] ++ (M)))))) w48.heap.size := (Ok.app (hN62.ok _) (Ok.refl _ _))
         have hG := hG.chg hN62.chg o1 o2
         have f33 := f33.chg hN62.chg o1 o2 (fun _ _ h => nomatch h) (fun _ h => mr (ml h))
         have hBg5 := hBg5.chg hN62.chg (fun h => nomatch h)
         have hBg13 := hBg13.chg hN62.chg (fun h => nomatch h)
         have hBg21 := hBg21.chg hN62.chg (fun h => nomatch h)
         have p_iD000063_i33 : ∀ x ∈ [g61], x ∉ (blkL ao33) := fun x hx hy => absurd (hM x (ml hy)) (Nat.not_lt.2 ((hN62.ge1) x hx))
         have p_iD000063_i30 : ∀ x ∈ [g61], x ∉ ([g28]) := fun x hx hy => absurd (hM x (mr (ml hy))) (Nat.not_lt.2 ((hN62.ge1) x hx))
         have p_iD000063_i23 : ∀ x ∈ [g61], x ∉ ([g21]) := fun x hx hy => absurd (hM x (mr (mr (ml hy)))) (Nat.not_lt.2 ((hN62.ge1) x hx))
         have p_iD000063_i15 : ∀ x ∈ [g61], x ∉ ([g13]) := fun x hx hy => absurd (hM x (mr (mr (mr (ml hy))))) (Nat.not_lt.2 ((hN62.ge1) x hx))
         have p_iD000063_i7 : ∀ x ∈ [g61], x ∉ ([g5]) := fun x hx hy => absurd (hM x (mr (mr (mr (mr (ml hy)))))) (Nat.not_lt.2 ((hN62.ge1) x hx))
         have p_iD000063_M : ∀ x ∈ [g61], x ∉ M := fun x hx hy => absurd (hM x (mr (mr (mr (mr (mr (hy))))))) (Nat.not_lt.2 ((hN62.ge1) x hx))
         have e_iD000063 : ∀ x ∈ [g61], w.heap.size ≤ x := fun x hx => Nat.le_trans hC.size ((hN62.ge1) x hx)
         have hM : MS ([g61] ++ (blkL ao33 ++ ([g28] ++ ([g21] ++ ([g13] ++ ([g5] ++ (M))))))) w60 := (MS.app hN62.ms (hM.chg hN62.chg))
         have hC := hC.trans hN62.chg (Ok.nil _ _)
         have d_iD000063 : Ok ([g61]) [] w32.heap.size := fun x hx => .inr (Nat.le_trans hS.size ((hN62.ge1) x hx))
         have hS := hS.trans hN62.chg (Ok.nil _ _)
         have f64 : Own (rArr .u8 8) 27 w60 ([g61] ++ (blkL ao33 ++ ([g28] ++ ([g21] ++ ([g13] ++ ([g5] ++ (M))))))) (some ⟨g61, 0, none⟩) 1 ([t3.1] : List (List Int)) := hN62.own ⟨(cA .u8 8 t3.1), _, rfl, rfl, rfl⟩ (Nat.le_of_ble_eq_true rfl)
         refine ae hK59 hS ?_; clear hK59 K59
         refine ac 41 (by kernel_rfl) (by rfl) fun K65 hK65 => ?_
         have fz := f33.toRSl (M' := [g61] ++ ([g28] ++ ([g21] ++ ([g13] ++ ([g5] ++ (M)))))) (Ok.app (fun _ h => .inl (ml h)) (fun _ h => .inl (mr (mr (h))))) (fun x hx hm => (List.mem_append.1 hm).elim (fun h => (fun x hx hy => p_iD000063_i33 x hy hx) x hx h) (fun h => (List.mem_append.1 h).elim (fun h => p_i33_i30 x hx h) (fun h => (List.mem_append.1 h).elim (fun h => p_i33_i23 x hx h) (fun h => (List.mem_append.1 h).elim (fun h => p_i33_i15 x hx h) (fun h => (List.mem_append.1 h).elim (fun h => p_i33_i7 x hx h) (fun h => p_i33_M x hx h))))))
         have o1 : Ok [] ([g61] ++ (blkL ao33 ++ ([g28] ++ ([g21] ++ ([g13] ++ ([g5] ++ (M))))))) w60.heap.size := Ok.nil _ _
         have o2 : Ok ([g61] ++ ([g28] ++ ([g21] ++ ([g13] ++ ([g5] ++ (M)))))) ([g61] ++ (blkL ao33 ++ ([g28] ++ ([g21] ++ ([g13] ++ ([g5] ++ (M))))))) w60.heap.size := (Ok.app (fun _ h => .inl (ml h)) (fun _ h => .inl (mr (mr (h)))))
         have hG := hG.chg (Chg.refl [] _) o1 o2
         have f64 := f64.chg (Chg.refl [] _) o1 o2 (fun _ _ h => nomatch h) (fun _ h => ml h)
         have hM : MS ([g61] ++ ([g28] ++ ([g21] ++ ([g13] ++ ([g5] ++ (M)))))) w60 := (MS.app (fun x h => hM.chg (Chg.refl [] _) x (ml h)) (fun x h => hM.chg (Chg.refl [] _) x (mr (mr (h)))))
         have f33 := fz
         have fz := f64.toRSl (M' := [g28] ++ ([g21] ++ ([g13] ++ ([g5] ++ (M))))) (fun _ h => .inl (mr (h))) (fun x hx hm => (List.mem_append.1 hm).elim (fun h => p_iD000063_i30 x hx h) (fun h => (List.mem_append.1 h).elim (fun h => p_iD000063_i23 x hx h) (fun h => (List.mem_append.1 h).elim (fun h => p_iD000063_i15 x hx h) (fun h => (List.mem_append.1 h).elim (fun h => p_iD000063_i7 x hx h) (fun h => p_iD000063_M x hx h)))))
         have o1 : Ok [] ([g61] ++ ([g28] ++ ([g21] ++ ([g13] ++ ([g5] ++ (M)))))) w60.heap.size := Ok.nil _ _
         have o2 : Ok ([g28] ++ ([g21] ++ ([g13] ++ ([g5] ++ (M))))) ([g61] ++ ([g28] ++ ([g21] ++ ([g13] ++ ([g5] ++ (M)))))) w60.heap.size := (fun _ h => .inl (mr (h)))
         have hG := hG.chg (Chg.refl [] _) o1 o2
         have f33 := f33.chg (Chg.refl [] _) o1 o2
         have hM : MS ([g28] ++ ([g21] ++ ([g13] ++ ([g5] ++ (M))))) w60 := (fun x h => hM.chg (Chg.refl [] _) x (mr (h)))
         have f64 := fz
         obtain ⟨t66, H66, H⟩ := bind_some H
         refine cl ha (by rfl) (by kernel_rfl) (by rfl) (by rfl) (by rfl) (community_Meet.walk w60 _ hM t32 ao33 cap33 f33 ([t3.1] : List (List Int)) (some ⟨g61, 0, none⟩) 1 f64 k _ H66) ?_
         rintro _ w66 ⟨rfl, hc66, hMn⟩ a ha
         have o1 : Ok [] ([g28] ++ ([g21] ++ ([g13] ++ ([g5] ++ (M))))) w60.heap.size := Ok.nil _ _
         have o2 : Ok ([g28] ++ ([g21] ++ ([g13] ++ ([g5] ++ (M))))) ([g28] ++ ([g21] ++ ([g13] ++ ([g5] ++ (M))))) w60.heap.size := (Ok.refl _ _)
         have hG := hG.chg hc66 o1 o2
         have f33 := f33.chg hc66 o1 o2
         have f64 := f64.chg hc66 o1 o2
         have hBg5 := hBg5.chg hc66 (fun h => nomatch h)
         have hBg13 := hBg13.chg hc66 (fun h => nomatch h)
         have hBg21 := hBg21.chg hc66 (fun h => nomatch h)
         have hM : MS ([g28] ++ ([g21] ++ ([g13] ++ ([g5] ++ (M))))) w66 := (hM.chg hc66)
         have hC := hC.trans hc66 (Ok.nil _ _)
         have hS := hS.trans hc66 (Ok.nil _ _)
         refine ae hK65 hS ?_; clear hK65 K65
         refine tkpz 42 3 (.bool t66) ha (s := hS) (q := fun a ha => ?_)
         refine tkpz 43 0 (.bool t66) ha (s := hS) (q := fun a ha => ?_)
         have ha := ha.sel (env' := [(70, .bool t66)]) (by kernel_rfl)
         rcases Bool.eq_false_or_eq_true (t66) with hb67 | hb67
         ·have ha := ha.lit hb67
          have H := ite_t hb67 H
          refine ac 44 (by kernel_rfl) (by rfl) fun K68 hK68 => ?_
          refine opk (v := .agg (cA .u8 8 ([(0 : Int), (9 : Int), (0 : Int), (0 : Int), (0 : Int), (0 : Int), (0 : Int), (0 : Int)] : List Int)).toArray) ha rfl rfl rfl rfl rfl (fun w => by kernel_rfl) fun a ha => ?_
          refine ae hK68 hS ?_; clear hK68 K68
          refine ac 45 (by kernel_rfl) (by rfl) fun K69 hK69 => ?_
          obtain ⟨t70, H70, H⟩ := bind_some H
          refine cl ha (by rfl) (by kernel_rfl) (by rfl) (by rfl) (by rfl) (community_Kind.walk w66 _ hM ([(0 : Int), (9 : Int), (0 : Int), (0 : Int), (0 : Int), (0 : Int), (0 : Int), (0 : Int)] : List Int) _ H70) ?_
          rintro _ w70 ⟨rfl, hc70, hMn⟩ a ha
          have o1 : Ok [] ([g28] ++ ([g21] ++ ([g13] ++ ([g5] ++ (M))))) w66.heap.size := Ok.nil _ _
          have o2 : Ok ([g28] ++ ([g21] ++ ([g13] ++ ([g5] ++ (M))))) ([g28] ++ ([g21] ++ ([g13] ++ ([g5] ++ (M))))) w66.heap.size := (Ok.refl _ _)
          have hG := hG.chg hc70 o1 o2
          have hBg5 := hBg5.chg hc70 (fun h => nomatch h)
          have hBg13 := hBg13.chg hc70 (fun h => nomatch h)
          have hBg21 := hBg21.chg hc70 (fun h => nomatch h)
          have hM : MS ([g28] ++ ([g21] ++ ([g13] ++ ([g5] ++ (M))))) w70 := (hM.chg hc70)
          have hC := hC.trans hc70 (Ok.nil _ _)
          have hS := hS.trans hc70 (Ok.nil _ _)
          refine ae hK69 hS ?_; clear hK69 K69
          refine tkpz 46 0 (.bool (t70 == (0 : Int))) ha (s := hS) (q := fun a ha => ?_)
          refine tkpz 47 3 (.bool (t70 == (0 : Int))) ha (s := hS) (q := fun a ha => ?_)
          refine tkpz 48 0 (.bool (t70 == (0 : Int))) ha (s := hS) (q := fun a ha => ?_)
          refine dn (by kernel_rfl) ?_
          obtain rfl := Option.some.inj H
          have o1 : Ok [] ([g28] ++ ([g21] ++ ([g13] ++ ([g5] ++ (M))))) w70.heap.size := Ok.nil _ _
          have o2 : Ok ([g21] ++ ([g13] ++ ([g5] ++ (M)))) ([g28] ++ ([g21] ++ ([g13] ++ ([g5] ++ (M))))) w70.heap.size := (fun _ h => .inl (mr (h)))
          have hG := hG.chg (Chg.refl [] _) o1 o2
          have hM : MS ([g21] ++ ([g13] ++ ([g5] ++ (M)))) w70 := (fun x h => hM.chg (Chg.refl [] _) x (mr (h)))
          exact J37 _ _ (ha.sel (by kernel_rfl)) hBg5 hBg13 hBg21 hG hC hM
         ·have ha := ha.lit hb67
          have H := ite_f hb67 H
          refine tkoz 44 ha (s := hS) (q := fun a ha => ?_)
          refine tkoz 45 ha (s := hS) (q := fun a ha => ?_)
          refine tkoz 46 ha (s := hS) (q := fun a ha => ?_)
          refine tkpz 47 4 (.bool false) ha (s := hS) (q := fun a ha => ?_)
          refine tkpz 48 0 (.bool false) ha (s := hS) (q := fun a ha => ?_)
          refine dn (by kernel_rfl) ?_
          obtain rfl := Option.some.inj H
          have o1 : Ok [] ([g28] ++ ([g21] ++ ([g13] ++ ([g5] ++ (M))))) w66.heap.size := Ok.nil _ _
          have o2 : Ok ([g21] ++ ([g13] ++ ([g5] ++ (M)))) ([g28] ++ ([g21] ++ ([g13] ++ ([g5] ++ (M))))) w66.heap.size := (fun _ h => .inl (mr (h)))
          have hG := hG.chg (Chg.refl [] _) o1 o2
          have hM : MS ([g21] ++ ([g13] ++ ([g5] ++ (M)))) w66 := (fun x h => hM.chg (Chg.refl [] _) x (mr (h)))
          exact J37 _ _ (ha.sel (by kernel_rfl)) hBg5 hBg13 hBg21 hG hC hM
        ·have ha := ha.lit hb58
         have H := ite_f hb58 H
         refine tkoz 38 ha (s := hS) (q := fun a ha => ?_)
         refine tkoz 39 ha (s := hS) (q := fun a ha => ?_)
         refine tkoz 40 ha (s := hS) (q := fun a ha => ?_)
         refine tkoz 41 ha (s := hS) (q := fun a ha => ?_)
         refine tkpz 42 4 (.bool false) ha (s := hS) (q := fun a ha => ?_)
         refine tkpz 43 0 (.bool false) ha (s := hS) (q := fun a ha => ?_)
         refine tkoz 44 ha (s := hS) (q := fun a ha => ?_)
         refine tkoz 45 ha (s := hS) (q := fun a ha => ?_)
         refine tkoz 46 ha (s := hS) (q := fun a ha => ?_)
         refine tkpz 47 4 (.bool false) ha (s := hS) (q := fun a ha => ?_)
         refine tkpz 48 0 (.bool false) ha (s := hS) (q := fun a ha => ?_)
         refine dn (by kernel_rfl) ?_
         obtain rfl := Option.some.inj H
         have o1 : Ok [] (blkL ao33 ++ ([g28] ++ ([g21] ++ ([g13] ++ ([g5] ++ (M)))))) w48.heap.size := Ok.nil _ _
         have o2 : Ok ([g21] ++ ([g13] ++ ([g5] ++ (M)))) (blkL ao33 ++ ([g28] ++ ([g21] ++ ([g13] ++ ([g5] ++ (M)))))) w48.heap.size := (fun _ h => .inl (mr (mr (h))))
         have hG := hG.chg (Chg.refl [] _) o1 o2
         have hM : MS ([g21] ++ ([g13] ++ ([g5] ++ (M)))) w48 := (fun x h => hM.chg (Chg.refl [] _) x (mr (mr (h))))
         exact J37 _ _ (ha.sel (by kernel_rfl)) hBg5 hBg13 hBg21 hG hC hM
       ·have ha := ha.lit hb50
        have H := ite_f hb50 H
        refine tkoz 31 ha (s := hS) (q := fun a ha => ?_)
        refine tkoz 32 ha (s := hS) (q := fun a ha => ?_)
        refine tkoz 33 ha (s := hS) (q := fun a ha => ?_)
        refine tkoz 34 ha (s := hS) (q := fun a ha => ?_)
        refine tkoz 35 ha (s := hS) (q := fun a ha => ?_)
        refine tkpz 36 4 (.bool false) ha (s := hS) (q := fun a ha => ?_)
        refine tkpz 37 0 (.bool false) ha (s := hS) (q := fun a ha => ?_)
        refine tkoz 38 ha (s := hS) (q := fun a ha => ?_)
        refine tkoz 39 ha (s := hS) (q := fun a ha => ?_)
        refine tkoz 40 ha (s := hS) (q := fun a ha => ?_)
        refine tkoz 41 ha (s := hS) (q := fun a ha => ?_)
        refine tkpz 42 4 (.bool false) ha (s := hS) (q := fun a ha => ?_)
        refine tkpz 43 0 (.bool false) ha (s := hS) (q := fun a ha => ?_)
        refine tkoz 44 ha (s := hS) (q := fun a ha => ?_)
        refine tkoz 45 ha (s := hS) (q := fun a ha => ?_)
        refine tkoz 46 ha (s := hS) (q := fun a ha => ?_)
        refine tkpz 47 4 (.bool false) ha (s := hS) (q := fun a ha => ?_)
        refine tkpz 48 0 (.bool false) ha (s := hS) (q := fun a ha => ?_)
        refine dn (by kernel_rfl) ?_
        obtain rfl := Option.some.inj H
        have o1 : Ok [] (blkL ao33 ++ ([g28] ++ ([g21] ++ ([g13] ++ ([g5] ++ (M)))))) w48.heap.size := Ok.nil _ _
        have o2 : Ok ([g21] ++ ([g13] ++ ([g5] ++ (M)))) (blkL ao33 ++ ([g28] ++ ([g21] ++ ([g13] ++ ([g5] ++ (M)))))) w48.heap.size := (fun _ h => .inl (mr (mr (h))))
        have hG := hG.chg (Chg.refl [] _) o1 o2
        have hM : MS ([g21] ++ ([g13] ++ ([g5] ++ (M)))) w48 := (fun x h => hM.chg (Chg.refl [] _) x (mr (mr (h))))
        exact J37 _ _ (ha.sel (by kernel_rfl)) hBg5 hBg13 hBg21 hG hC hM
      ·have ha := ha.lit hb49
       have H := ite_f hb49 H
       refine tkoz 26 ha (s := hS) (q := fun a ha => ?_)
       refine tkoz 27 ha (s := hS) (q := fun a ha => ?_)
       refine tkoz 28 ha (s := hS) (q := fun a ha => ?_)
       refine tkpz 29 4 (.bool false) ha (s := hS) (q := fun a ha => ?_)
       refine tkpz 30 0 (.bool false) ha (s := hS) (q := fun a ha => ?_)
       refine tkoz 31 ha (s := hS) (q := fun a ha => ?_)
       refine tkoz 32 ha (s := hS) (q := fun a ha => ?_)
       refine tkoz 33 ha (s := hS) (q := fun a ha => ?_)
       refine tkoz 34 ha (s := hS) (q := fun a ha => ?_)
       refine tkoz 35 ha (s := hS) (q := fun a ha => ?_)
       refine tkpz 36 4 (.bool false) ha (s := hS) (q := fun a ha => ?_)
       refine tkpz 37 0 (.bool false) ha (s := hS) (q := fun a ha => ?_)
       refine tkoz 38 ha (s := hS) (q := fun a ha => ?_)
       refine tkoz 39 ha (s := hS) (q := fun a ha => ?_)
       refine tkoz 40 ha (s := hS) (q := fun a ha => ?_)
       refine tkoz 41 ha (s := hS) (q := fun a ha => ?_)
       refine tkpz 42 4 (.bool false) ha (s := hS) (q := fun a ha => ?_)
       refine tkpz 43 0 (.bool false) ha (s := hS) (q := fun a ha => ?_)
       refine tkoz 44 ha (s := hS) (q := fun a ha => ?_)
       refine tkoz 45 ha (s := hS) (q := fun a ha => ?_)
       refine tkoz 46 ha (s := hS) (q := fun a ha => ?_)
       refine tkpz 47 4 (.bool false) ha (s := hS) (q := fun a ha => ?_)
       refine tkpz 48 0 (.bool false) ha (s := hS) (q := fun a ha => ?_)
       refine dn (by kernel_rfl) ?_
       obtain rfl := Option.some.inj H
       have o1 : Ok [] (blkL ao33 ++ ([g28] ++ ([g21] ++ ([g13] ++ ([g5] ++ (M)))))) w48.heap.size := Ok.nil _ _
       have o2 : Ok ([g21] ++ ([g13] ++ ([g5] ++ (M)))) (blkL ao33 ++ ([g28] ++ ([g21] ++ ([g13] ++ ([g5] ++ (M)))))) w48.heap.size := (fun _ h => .inl (mr (mr (h))))
       have hG := hG.chg (Chg.refl [] _) o1 o2
       have hM : MS ([g21] ++ ([g13] ++ ([g5] ++ (M)))) w48 := (fun x h => hM.chg (Chg.refl [] _) x (mr (mr (h))))
       exact J37 _ _ (ha.sel (by kernel_rfl)) hBg5 hBg13 hBg21 hG hC hM
     ·have ha := ha.lit hb46
      have H := ite_f hb46 H
      refine tkoz 21 ha (s := hS) (q := fun a ha => ?_)
      refine tkoz 22 ha (s := hS) (q := fun a ha => ?_)
      refine tkoz 23 ha (s := hS) (q := fun a ha => ?_)
      refine tkpz 24 4 (.bool false) ha (s := hS) (q := fun a ha => ?_)
      refine tkpz 25 0 (.bool false) ha (s := hS) (q := fun a ha => ?_)
      refine tkoz 26 ha (s := hS) (q := fun a ha => ?_)
      refine tkoz 27 ha (s := hS) (q := fun a ha => ?_)
      refine tkoz 28 ha (s := hS) (q := fun a ha => ?_)
      refine tkpz 29 4 (.bool false) ha (s := hS) (q := fun a ha => ?_)
      refine tkpz 30 0 (.bool false) ha (s := hS) (q := fun a ha => ?_)
      refine tkoz 31 ha (s := hS) (q := fun a ha => ?_)
      refine tkoz 32 ha (s := hS) (q := fun a ha => ?_)
      refine tkoz 33 ha (s := hS) (q := fun a ha => ?_)
      refine tkoz 34 ha (s := hS) (q := fun a ha => ?_)
      refine tkoz 35 ha (s := hS) (q := fun a ha => ?_)
      refine tkpz 36 4 (.bool false) ha (s := hS) (q := fun a ha => ?_)
      refine tkpz 37 0 (.bool false) ha (s := hS) (q := fun a ha => ?_)
      refine tkoz 38 ha (s := hS) (q := fun a ha => ?_)
      refine tkoz 39 ha (s := hS) (q := fun a ha => ?_)
      refine tkoz 40 ha (s := hS) (q := fun a ha => ?_)
      refine tkoz 41 ha (s := hS) (q := fun a ha => ?_)
      refine tkpz 42 4 (.bool false) ha (s := hS) (q := fun a ha => ?_)
      refine tkpz 43 0 (.bool false) ha (s := hS) (q := fun a ha => ?_)
      refine tkoz 44 ha (s := hS) (q := fun a ha => ?_)
      refine tkoz 45 ha (s := hS) (q := fun a ha => ?_)
      refine tkoz 46 ha (s := hS) (q := fun a ha => ?_)
      refine tkpz 47 4 (.bool false) ha (s := hS) (q := fun a ha => ?_)
      refine tkpz 48 0 (.bool false) ha (s := hS) (q := fun a ha => ?_)
      refine dn (by kernel_rfl) ?_
      obtain rfl := Option.some.inj H
      have o1 : Ok [] (blkL ao33 ++ ([g28] ++ ([g21] ++ ([g13] ++ ([g5] ++ (M)))))) w44.heap.size := Ok.nil _ _
      have o2 : Ok ([g21] ++ ([g13] ++ ([g5] ++ (M)))) (blkL ao33 ++ ([g28] ++ ([g21] ++ ([g13] ++ ([g5] ++ (M)))))) w44.heap.size := (fun _ h => .inl (mr (mr (h))))
      have hG := hG.chg (Chg.refl [] _) o1 o2
      have hM : MS ([g21] ++ ([g13] ++ ([g5] ++ (M)))) w44 := (fun x h => hM.chg (Chg.refl [] _) x (mr (mr (h))))
      exact J37 _ _ (ha.sel (by kernel_rfl)) hBg5 hBg13 hBg21 hG hC hM
    ·have ha := ha.lit hb45
     have H := ite_f hb45 H
     refine tkoz 17 ha (s := hS) (q := fun a ha => ?_)
     refine tkoz 18 ha (s := hS) (q := fun a ha => ?_)
     refine tkpz 19 4 (.bool false) ha (s := hS) (q := fun a ha => ?_)
     refine tkpz 20 0 (.bool false) ha (s := hS) (q := fun a ha => ?_)
     refine tkoz 21 ha (s := hS) (q := fun a ha => ?_)
     refine tkoz 22 ha (s := hS) (q := fun a ha => ?_)
     refine tkoz 23 ha (s := hS) (q := fun a ha => ?_)
     refine tkpz 24 4 (.bool false) ha (s := hS) (q := fun a ha => ?_)
     refine tkpz 25 0 (.bool false) ha (s := hS) (q := fun a ha => ?_)
     refine tkoz 26 ha (s := hS) (q := fun a ha => ?_)
     refine tkoz 27 ha (s := hS) (q := fun a ha => ?_)
     refine tkoz 28 ha (s := hS) (q := fun a ha => ?_)
     refine tkpz 29 4 (.bool false) ha (s := hS) (q := fun a ha => ?_)
     refine tkpz 30 0 (.bool false) ha (s := hS) (q := fun a ha => ?_)
     refine tkoz 31 ha (s := hS) (q := fun a ha => ?_)
     refine tkoz 32 ha (s := hS) (q := fun a ha => ?_)
     refine tkoz 33 ha (s := hS) (q := fun a ha => ?_)
     refine tkoz 34 ha (s := hS) (q := fun a ha => ?_)
     refine tkoz 35 ha (s := hS) (q := fun a ha => ?_)
     refine tkpz 36 4 (.bool false) ha (s := hS) (q := fun a ha => ?_)
     refine tkpz 37 0 (.bool false) ha (s := hS) (q := fun a ha => ?_)
     refine tkoz 38 ha (s := hS) (q := fun a ha => ?_)
     refine tkoz 39 ha (s := hS) (q := fun a ha => ?_)
     refine tkoz 40 ha (s := hS) (q := fun a ha => ?_)
     refine tkoz 41 ha (s := hS) (q := fun a ha => ?_)
     refine tkpz 42 4 (.bool false) ha (s := hS) (q := fun a ha => ?_)
     refine tkpz 43 0 (.bool false) ha (s := hS) (q := fun a ha => ?_)
     refine tkoz 44 ha (s := hS) (q := fun a ha => ?_)
     refine tkoz 45 ha (s := hS) (q := fun a ha => ?_)
     refine tkoz 46 ha (s := hS) (q := fun a ha => ?_)
     refine tkpz 47 4 (.bool false) ha (s := hS) (q := fun a ha => ?_)
     refine tkpz 48 0 (.bool false) ha (s := hS) (q := fun a ha => ?_)
     refine dn (by kernel_rfl) ?_
     obtain rfl := Option.some.inj H
     have o1 : Ok [] (blkL ao33 ++ ([g28] ++ ([g21] ++ ([g13] ++ ([g5] ++ (M)))))) w44.heap.size := Ok.nil _ _
     have o2 : Ok ([g21] ++ ([g13] ++ ([g5] ++ (M)))) (blkL ao33 ++ ([g28] ++ ([g21] ++ ([g13] ++ ([g5] ++ (M)))))) w44.heap.size := (fun _ h => .inl (mr (mr (h))))
     have hG := hG.chg (Chg.refl [] _) o1 o2
     have hM : MS ([g21] ++ ([g13] ++ ([g5] ++ (M)))) w44 := (fun x h => hM.chg (Chg.refl [] _) x (mr (mr (h))))
     exact J37 _ _ (ha.sel (by kernel_rfl)) hBg5 hBg13 hBg21 hG hC hM
   ·have ha := ha.lit hb42
    have H := ite_f hb42 H
    refine tkoz 12 ha (s := hS) (q := fun a ha => ?_)
    refine tkoz 13 ha (s := hS) (q := fun a ha => ?_)
    refine tkoz 14 ha (s := hS) (q := fun a ha => ?_)
    refine tkpz 15 4 (.bool false) ha (s := hS) (q := fun a ha => ?_)
    refine tkpz 16 0 (.bool false) ha (s := hS) (q := fun a ha => ?_)
    refine tkoz 17 ha (s := hS) (q := fun a ha => ?_)
    refine tkoz 18 ha (s := hS) (q := fun a ha => ?_)
    refine tkpz 19 4 (.bool false) ha (s := hS) (q := fun a ha => ?_)
    refine tkpz 20 0 (.bool false) ha (s := hS) (q := fun a ha => ?_)
    refine tkoz 21 ha (s := hS) (q := fun a ha => ?_)
    refine tkoz 22 ha (s := hS) (q := fun a ha => ?_)
    refine tkoz 23 ha (s := hS) (q := fun a ha => ?_)
    refine tkpz 24 4 (.bool false) ha (s := hS) (q := fun a ha => ?_)
    refine tkpz 25 0 (.bool false) ha (s := hS) (q := fun a ha => ?_)
    refine tkoz 26 ha (s := hS) (q := fun a ha => ?_)
    refine tkoz 27 ha (s := hS) (q := fun a ha => ?_)
    refine tkoz 28 ha (s := hS) (q := fun a ha => ?_)
    refine tkpz 29 4 (.bool false) ha (s := hS) (q := fun a ha => ?_)
    refine tkpz 30 0 (.bool false) ha (s := hS) (q := fun a ha => ?_)
    refine tkoz 31 ha (s := hS) (q := fun a ha => ?_)
    refine tkoz 32 ha (s := hS) (q := fun a ha => ?_)
    refine tkoz 33 ha (s := hS) (q := fun a ha => ?_)
    refine tkoz 34 ha (s := hS) (q := fun a ha => ?_)
    refine tkoz 35 ha (s := hS) (q := fun a ha => ?_)
    refine tkpz 36 4 (.bool false) ha (s := hS) (q := fun a ha => ?_)
    refine tkpz 37 0 (.bool false) ha (s := hS) (q := fun a ha => ?_)
    refine tkoz 38 ha (s := hS) (q := fun a ha => ?_)
    refine tkoz 39 ha (s := hS) (q := fun a ha => ?_)
    refine tkoz 40 ha (s := hS) (q := fun a ha => ?_)
    refine tkoz 41 ha (s := hS) (q := fun a ha => ?_)
    refine tkpz 42 4 (.bool false) ha (s := hS) (q := fun a ha => ?_)
    refine tkpz 43 0 (.bool false) ha (s := hS) (q := fun a ha => ?_)
    refine tkoz 44 ha (s := hS) (q := fun a ha => ?_)
    refine tkoz 45 ha (s := hS) (q := fun a ha => ?_)
    refine tkoz 46 ha (s := hS) (q := fun a ha => ?_)
    refine tkpz 47 4 (.bool false) ha (s := hS) (q := fun a ha => ?_)
    refine tkpz 48 0 (.bool false) ha (s := hS) (q := fun a ha => ?_)
    refine dn (by kernel_rfl) ?_
    obtain rfl := Option.some.inj H
    have o1 : Ok [] (blkL ao33 ++ ([g28] ++ ([g21] ++ ([g13] ++ ([g5] ++ (M)))))) w40.heap.size := Ok.nil _ _
    have o2 : Ok ([g21] ++ ([g13] ++ ([g5] ++ (M)))) (blkL ao33 ++ ([g28] ++ ([g21] ++ ([g13] ++ ([g5] ++ (M)))))) w40.heap.size := (fun _ h => .inl (mr (mr (h))))
    have hG := hG.chg (Chg.refl [] _) o1 o2
    have hM : MS ([g21] ++ ([g13] ++ ([g5] ++ (M)))) w40 := (fun x h => hM.chg (Chg.refl [] _) x (mr (mr (h))))
    exact J37 _ _ (ha.sel (by kernel_rfl)) hBg5 hBg13 hBg21 hG hC hM
  ·have ha := ha.lit hb41
   have H := ite_f hb41 H
   refine tkoz 8 ha (s := hS) (q := fun a ha => ?_)
   refine tkoz 9 ha (s := hS) (q := fun a ha => ?_)
   refine tkpz 10 4 (.bool false) ha (s := hS) (q := fun a ha => ?_)
   refine tkpz 11 0 (.bool false) ha (s := hS) (q := fun a ha => ?_)
   refine tkoz 12 ha (s := hS) (q := fun a ha => ?_)
   refine tkoz 13 ha (s := hS) (q := fun a ha => ?_)
   refine tkoz 14 ha (s := hS) (q := fun a ha => ?_)
   refine tkpz 15 4 (.bool false) ha (s := hS) (q := fun a ha => ?_)
   refine tkpz 16 0 (.bool false) ha (s := hS) (q := fun a ha => ?_)
   refine tkoz 17 ha (s := hS) (q := fun a ha => ?_)
   refine tkoz 18 ha (s := hS) (q := fun a ha => ?_)
   refine tkpz 19 4 (.bool false) ha (s := hS) (q := fun a ha => ?_)
   refine tkpz 20 0 (.bool false) ha (s := hS) (q := fun a ha => ?_)
   refine tkoz 21 ha (s := hS) (q := fun a ha => ?_)
   refine tkoz 22 ha (s := hS) (q := fun a ha => ?_)
   refine tkoz 23 ha (s := hS) (q := fun a ha => ?_)
   refine tkpz 24 4 (.bool false) ha (s := hS) (q := fun a ha => ?_)
   refine tkpz 25 0 (.bool false) ha (s := hS) (q := fun a ha => ?_)
   refine tkoz 26 ha (s := hS) (q := fun a ha => ?_)
   refine tkoz 27 ha (s := hS) (q := fun a ha => ?_)
   refine tkoz 28 ha (s := hS) (q := fun a ha => ?_)
   refine tkpz 29 4 (.bool false) ha (s := hS) (q := fun a ha => ?_)
   refine tkpz 30 0 (.bool false) ha (s := hS) (q := fun a ha => ?_)
   refine tkoz 31 ha (s := hS) (q := fun a ha => ?_)
   refine tkoz 32 ha (s := hS) (q := fun a ha => ?_)
   refine tkoz 33 ha (s := hS) (q := fun a ha => ?_)
   refine tkoz 34 ha (s := hS) (q := fun a ha => ?_)
   refine tkoz 35 ha (s := hS) (q := fun a ha => ?_)
   refine tkpz 36 4 (.bool false) ha (s := hS) (q := fun a ha => ?_)
   refine tkpz 37 0 (.bool false) ha (s := hS) (q := fun a ha => ?_)
   refine tkoz 38 ha (s := hS) (q := fun a ha => ?_)
   refine tkoz 39 ha (s := hS) (q := fun a ha => ?_)
   refine tkoz 40 ha (s := hS) (q := fun a ha => ?_)
   refine tkoz 41 ha (s := hS) (q := fun a ha => ?_)
   refine tkpz 42 4 (.bool false) ha (s := hS) (q := fun a ha => ?_)
   refine tkpz 43 0 (.bool false) ha (s := hS) (q := fun a ha => ?_)
   refine tkoz 44 ha (s := hS) (q := fun a ha => ?_)
   refine tkoz 45 ha (s := hS) (q := fun a ha => ?_)
   refine tkoz 46 ha (s := hS) (q := fun a ha => ?_)
   refine tkpz 47 4 (.bool false) ha (s := hS) (q := fun a ha => ?_)
   refine tkpz 48 0 (.bool false) ha (s := hS) (q := fun a ha => ?_)
   refine dn (by kernel_rfl) ?_
   obtain rfl := Option.some.inj H
   have o1 : Ok [] (blkL ao33 ++ ([g28] ++ ([g21] ++ ([g13] ++ ([g5] ++ (M)))))) w40.heap.size := Ok.nil _ _
   have o2 : Ok ([g21] ++ ([g13] ++ ([g5] ++ (M)))) (blkL ao33 ++ ([g28] ++ ([g21] ++ ([g13] ++ ([g5] ++ (M)))))) w40.heap.size := (fun _ h => .inl (mr (mr (h))))
   have hG := hG.chg (Chg.refl [] _) o1 o2
   have hM : MS ([g21] ++ ([g13] ++ ([g5] ++ (M)))) w40 := (fun x h => hM.chg (Chg.refl [] _) x (mr (mr (h))))
   exact J37 _ _ (ha.sel (by kernel_rfl)) hBg5 hBg13 hBg21 hG hC hM
 ·have ha := ha.lit hb38
  have H := ite_f hb38 H
  refine tkoz 3 ha (s := hS) (q := fun a ha => ?_)
  refine tkoz 4 ha (s := hS) (q := fun a ha => ?_)
  refine tkoz 5 ha (s := hS) (q := fun a ha => ?_)
  refine tkpz 6 4 (.bool false) ha (s := hS) (q := fun a ha => ?_)
  refine tkpz 7 0 (.bool false) ha (s := hS) (q := fun a ha => ?_)
  refine tkoz 8 ha (s := hS) (q := fun a ha => ?_)
  refine tkoz 9 ha (s := hS) (q := fun a ha => ?_)
  refine tkpz 10 4 (.bool false) ha (s := hS) (q := fun a ha => ?_)
  refine tkpz 11 0 (.bool false) ha (s := hS) (q := fun a ha => ?_)
  refine tkoz 12 ha (s := hS) (q := fun a ha => ?_)
  refine tkoz 13 ha (s := hS) (q := fun a ha => ?_)
  refine tkoz 14 ha (s := hS) (q := fun a ha => ?_)
  refine tkpz 15 4 (.bool false) ha (s := hS) (q := fun a ha => ?_)
  refine tkpz 16 0 (.bool false) ha (s := hS) (q := fun a ha => ?_)
  refine tkoz 17 ha (s := hS) (q := fun a ha => ?_)
  refine tkoz 18 ha (s := hS) (q := fun a ha => ?_)
  refine tkpz 19 4 (.bool false) ha (s := hS) (q := fun a ha => ?_)
  refine tkpz 20 0 (.bool false) ha (s := hS) (q := fun a ha => ?_)
  refine tkoz 21 ha (s := hS) (q := fun a ha => ?_)
  refine tkoz 22 ha (s := hS) (q := fun a ha => ?_)
  refine tkoz 23 ha (s := hS) (q := fun a ha => ?_)
  refine tkpz 24 4 (.bool false) ha (s := hS) (q := fun a ha => ?_)
  refine tkpz 25 0 (.bool false) ha (s := hS) (q := fun a ha => ?_)
  refine tkoz 26 ha (s := hS) (q := fun a ha => ?_)
  refine tkoz 27 ha (s := hS) (q := fun a ha => ?_)
  refine tkoz 28 ha (s := hS) (q := fun a ha => ?_)
  refine tkpz 29 4 (.bool false) ha (s := hS) (q := fun a ha => ?_)
  refine tkpz 30 0 (.bool false) ha (s := hS) (q := fun a ha => ?_)
  refine tkoz 31 ha (s := hS) (q := fun a ha => ?_)
  refine tkoz 32 ha (s := hS) (q := fun a ha => ?_)
  refine tkoz 33 ha (s := hS) (q := fun a ha => ?_)
  refine tkoz 34 ha (s := hS) (q := fun a ha => ?_)
  refine tkoz 35 ha (s := hS) (q := fun a ha => ?_)
  refine tkpz 36 4 (.bool false) ha (s := hS) (q := fun a ha => ?_)
  refine tkpz 37 0 (.bool false) ha (s := hS) (q := fun a ha => ?_)
  refine tkoz 38 ha (s := hS) (q := fun a ha => ?_)
  refine tkoz 39 ha (s := hS) (q := fun a ha => ?_)
  refine tkoz 40 ha (s := hS) (q := fun a ha => ?_)
  refine tkoz 41 ha (s := hS) (q := fun a ha => ?_)
  refine tkpz 42 4 (.bool false) ha (s := hS) (q := fun a ha => ?_)
  refine tkpz 43 0 (.bool false) ha (s := hS) (q := fun a ha => ?_)
  refine tkoz 44 ha (s := hS) (q := fun a ha => ?_)
  refine tkoz 45 ha (s := hS) (q := fun a ha => ?_)
  refine tkoz 46 ha (s := hS) (q := fun a ha => ?_)
  refine tkpz 47 4 (.bool false) ha (s := hS) (q := fun a ha => ?_)
  refine tkpz 48 0 (.bool false) ha (s := hS) (q := fun a ha => ?_)
  refine dn (by kernel_rfl) ?_
  obtain rfl := Option.some.inj H
  have o1 : Ok [] (blkL ao33 ++ ([g28] ++ ([g21] ++ ([g13] ++ ([g5] ++ (M)))))) w35.heap.size := Ok.nil _ _
  have o2 : Ok ([g21] ++ ([g13] ++ ([g5] ++ (M)))) (blkL ao33 ++ ([g28] ++ ([g21] ++ ([g13] ++ ([g5] ++ (M)))))) w35.heap.size := (fun _ h => .inl (mr (mr (h))))
  have hG := hG.chg (Chg.refl [] _) o1 o2
  have hM : MS ([g21] ++ ([g13] ++ ([g5] ++ (M)))) w35 := (fun x h => hM.chg (Chg.refl [] _) x (mr (mr (h))))
  exact J37 _ _ (ha.sel (by kernel_rfl)) hBg5 hBg13 hBg21 hG hC hM

theorem Lent.go (w : World) (M : List Nat) (hM : MS M w) (a0 : List Int) (ao1 : Option Addr) (cap1 : Nat) (f1 : RSl (rInt .u8) 5 w M ao1 cap1 a0) (hb : a0.length ≤ 281474976710655) :
    To Tryz.prog 18 [.slice ao1 a0.length cap1] w fun v w' => ∃ (g : Nat), v = .slice (some ⟨g, 0, none⟩) a0.length (a0.length + 1) ∧ Box w' g (a0.map (.int .u8) ++ [.int .u8 77]) ∧ (w.heap.size ≤ g) ∧ Chg [] w w' ∧ MS ([g] ++ M) w' := by
  have hmax : maxLen = 9223372036854775807 := rfl
  refine ent Tryz.func18 rfl [(0, .slice ao1 a0.length cap1)] rfl rfl fun a ha => ?_
  refine wp_seq_k fun K hK => ?_
  refine wp_region_lit ?_
  refine seg ha 1 [(0, .slice ao1 a0.length cap1)] (by kernel_rfl) fun a ha => ?_
  refine hK _ _ ?_; clear hK K
  refine wp_seq_k fun K hK => ?_
  refine wp_region_lit ?_
  refine seg ha 5 [(0, .slice ao1 a0.length cap1), (5, .int .i64 a0.length), (8, .int .i64 (IntKind.i64.wrap ((a0.length : Int) + 1)))] (by kernel_rfl) fun a ha => ?_
  have e8 : IntKind.i64.wrap ((a0.length : Int) + 1) = ((a0.length + 1 : Nat) : Int) := by rw [IntKind.wrap_i64]; omega
  rw [e8] at ha
  refine mks (e := 5) (z := .int .u8 0) (nb := 1) ha (by kernel_rfl) (by kernel_rfl) (by kernel_rfl) rfl rfl rfl (Nat.le_succ _) (by omega) (by omega) rfl rfl rfl fun a w1 g hN ha => ?_
  refine seg ha 1 [(0, .slice ao1 a0.length cap1), (3, .slice (some ⟨g, 0, none⟩) a0.length (a0.length + 1))] (by kernel_rfl) fun a ha => ?_
  refine hK _ _ ?_; clear hK K
  have h1 : RSl (rInt .u8) 5 w1 ([g] ++ M) ao1 cap1 a0 := f1.chg hN.chg (Ok.nil _ _) (Ok.app (hN.ok _) (Ok.refl _ _))
  refine wp_seq_k fun K hK => ?_
  refine wp_region_lit ?_
  refine seg ha 2 [(0, .slice ao1 a0.length cap1), (3, .slice (some ⟨g, 0, none⟩) a0.length (a0.length + 1)), (10, .slice (some ⟨g, 0, none⟩) a0.length (a0.length + 1)), (11, .slice ao1 a0.length cap1)] (by kernel_rfl) fun a ha => ?_
  refine cpy ha (by kernel_rfl) (by kernel_rfl) rfl rfl rfl rfl rfl hN.box h1 (Nat.le_refl _) (by simp) fun a w2 hB hc2 ha => ?_
  refine wpl_end ?_
  have ha := ha.sel (env' := [(0, .slice ao1 a0.length cap1), (3, .slice (some ⟨g, 0, none⟩) a0.length (a0.length + 1))]) (by kernel_rfl)
  refine hK _ _ ?_; clear hK K
  refine wp_seq_k fun K hK => ?_
  refine wp_region_lit ?_
  refine seg ha 4 [(0, .slice ao1 a0.length cap1), (3, .slice (some ⟨g, 0, none⟩) a0.length (a0.length + 1)), (13, .slice (some ⟨g, 0, none⟩) a0.length (a0.length + 1)), (16, .int .i64 (IntKind.i64.wrap ((a0.length : Int) + 1)))] (by kernel_rfl) fun a ha => ?_
  rw [e8] at ha
  refine slx (T := 5) (s := 1) ha (by kernel_rfl) (by kernel_rfl) rfl rfl (Nat.le_refl _) rfl rfl rfl fun a ha => ?_
  refine seg ha 2 [(3, .slice (some ⟨g, 0, none⟩) a0.length (a0.length + 1)), (17, .slice (some ⟨g, 0, none⟩) (a0.length + 1) (a0.length + 1)), (19, .int .i64 a0.length)] (by kernel_rfl) fun a ha => ?_
  have hl : (List.replicate (a0.length + 1) (0 : Int)).length = a0.length + 1 := by simp
  refine hop (v := .pointer (some ⟨g, 0 + Int.toNat (a0.length : Int) * (rInt .u8).sz, none⟩)) (w' := w2) ha rfl rfl rfl (ix_run (r := rInt .u8) (T := 5) (xs := List.replicate (a0.length + 1) (0 : Int)) (k := .i64) (i := (a0.length : Int)) ha (by kernel_rfl) (by kernel_rfl) (by rw [hl]; rfl) rfl rfl (by omega) (by rw [hl]; omega)) fun a ha => ?_
  refine st (cs := a0.map (.int .u8) ++ (List.replicate (a0.length + 1) (Value.int .u8 0)).drop a0.length) (g := g) (o' := a0.length) ha rfl rfl (by simp [rInt]) (by kernel_rfl) rfl rfl hB (by simp) fun a w3 ha hB3 hc3 _ => ?_
  refine wpl_end ?_
  have ha := ha.sel (env' := [(3, .slice (some ⟨g, 0, none⟩) a0.length (a0.length + 1))]) (by kernel_rfl)
  refine hK _ _ ?_; clear hK K
  refine wp_seq_k fun K hK => ?_
  refine wp_region_lit ?_
  refine seg ha 2 [(2, .slice (some ⟨g, 0, none⟩) a0.length (a0.length + 1))] (by kernel_rfl) fun a ha => ?_
  refine hK _ _ ?_; clear hK K
  refine wp_ret ?_
  refine rt1 ha rfl rfl ⟨g, rfl, ?_, hN.ge, ?_, ?_⟩
  · have e : (a0.map (Value.int .u8) ++ (List.replicate (a0.length + 1) (Value.int .u8 0)).drop a0.length).set a0.length (.int .u8 77) = a0.map (Value.int .u8) ++ [Value.int .u8 77] := by
      have : (List.replicate (a0.length + 1) (Value.int .u8 0)).drop a0.length = [Value.int .u8 0] := by simp [List.drop_replicate]
      rw [this, List.set_append_right _ _ (by simp)]
      simp
    rw [e] at hB3
    exact hB3
  · exact (hN.chg.trans hc2 (Ok.one (.inr hN.ge))).trans hc3 (Ok.one (.inr hN.ge))
  · exact MS.app (fun x hx => by simp at hx; subst hx; exact hB3.lt) (((hM.chg hN.chg).chg hc2).chg hc3)
def Lent.f (a0 : List Int) : Option (List Int) := if a0.length ≤ 281474976710655 then some a0 else none
theorem Lent.walk (w : World) (M : List Nat) (hM : MS M w) (a0 : List Int) (ao1 : Option Addr) (cap1 : Nat) (f1 : RSl (rInt .u8) 5 w M ao1 cap1 a0) (r : List Int) (H : Lent.f a0 = some r) :
    To Tryz.prog 18 [.slice ao1 a0.length cap1] w fun v w' => ∃ (ao2 : Option Addr) (cap2 : Nat), v = .slice ao2 r.length cap2 ∧ (Len w' (blkL ao2 ++ M) ao2 cap2 r) ∧ (∀ x ∈ blkL ao2, w.heap.size ≤ x) ∧ Chg [] w w' ∧ MS (blkL ao2 ++ M) w' := by
  unfold Lent.f at H
  obtain ⟨hb, H⟩ := ite_some H
  obtain rfl := Option.some.inj H
  refine (Lent.go w M hM a0 ao1 cap1 f1 hb).mono ?_
  rintro v w' ⟨g, rfl, hB, hge, hc, hm⟩
  exact ⟨some ⟨g, 0, none⟩, a0.length + 1, rfl, ⟨g, rfl, List.mem_append_left _ (List.mem_singleton.2 rfl), rfl, hb, hB⟩, fun x hx => by simp [blkL] at hx; subst hx; exact hge, hc, hm⟩

def community_Bytes.l0 (a0 : List (List Int)) : Nat → (List Int) → Int → Option (List Int)
  | 0, _, _ => none
  | kk + 1, x8, x9 => (if (decide (x9 < (a0.length : Int))) = true then (if 0 ≤ x9 ∧ x9 < (a0.length : Int) then (if (x8.length + (arL 8 (rd a0 x9)).length) * 1 ≤ 140737488355328 then community_Bytes.l0 a0 kk (x8 ++ (arL 8 (rd a0 x9))) (IntKind.i64.wrap (x9 + (1 : Int))) else none) else none) else some (x8 : List Int))
def community_Bytes.f (k : Nat) (a0 : List (List Int)) : Option (List Int) := (community_Bytes.l0 a0 k ([] : List Int) (0 : Int)).bind fun s6 => some ((s6 : List Int))
set_option maxRecDepth 100000 in
theorem community_Bytes.walk (w : World) (M : List Nat) (hM : MS M w) (a0 : List (List Int)) (ao1 : Option Addr) (cap1 : Nat) (f1 : RSl (rArr .u8 8) 27 w M ao1 cap1 a0) (k : Nat) (r : List Int) (H : community_Bytes.f k a0 = some r) :
    To Tryz.prog 19 [.slice ao1 a0.length cap1] w fun v w' => ∃ (ao35 : Option Addr) (cap35 : Nat), v = .slice ao35 r.length cap35 ∧ (Own (rInt .u8) 5 w' (blkL ao35 ++ (M)) ao35 cap35 r) ∧ (∀ x ∈ blkL ao35, w.heap.size ≤ x) ∧ Chg [] w w' ∧ MS (blkL ao35 ++ (M)) w' := by
 unfold community_Bytes.f at H
 refine ent Tryz.func19 rfl [(0, .slice ao1 a0.length cap1)] rfl (by rfl) fun a ha => ?_
 have hC : Chg [] w w := Chg.refl _ _
 refine wp_seq_k fun K2 hK2 => ?_
 refine wp_region_lit ?_
 refine seg ha 1 [(0, .slice ao1 a0.length cap1)] (by kernel_rfl) fun a ha => ?_
 refine hK2 _ _ ?_; try clear hK2 K2
 refine wp_seq_k fun K3 hK3 => ?_
 refine wp_region_lit ?_
 refine seg ha 1 [(0, .slice ao1 a0.length cap1), (3, .slice none 0 0)] (by kernel_rfl) fun a ha => ?_
 refine hK3 _ _ ?_; try clear hK3 K3
 refine wp_seq_k fun K4 hK4 => ?_
 refine wp_seq_k fun K5 hK5 => ?_
 refine wp_region_lit ?_
 refine seg ha 3 [(3, .slice none 0 0), (6, .slice ao1 a0.length cap1), (7, .int .i64 (a0.length : Int)), (8, .int .i64 (0 : Int))] (by kernel_rfl) fun a ha => ?_
 refine hK5 _ _ ?_; try clear hK5 K5
 refine wp_block ?_
 obtain ⟨s6, H6, H⟩ := bind_some H
 have J6 : ∀ (a : Act) (wx6 : World) (ao10 : Option Addr) (cap10 : Nat), Has a Tryz.f19.ntmps [(3, .slice ao10 s6.length cap10)] → (Own (rInt .u8) 5 wx6 (blkL ao10 ++ (M)) ao10 cap10 s6) → (∀ x ∈ blkL ao10, w.heap.size ≤ x) → (∀ x ∈ blkL ao10, x ∉ M) → (Chg [] w wx6) → (MS (blkL ao10 ++ (M)) wx6) → K4 a wx6 := by
  intro a wx6 ao10 cap10 ha f10 e_i10 p_i10_M hC hM
  refine hK4 _ _ ?_; try clear hK4 K4
  refine wp_seq_k fun K11 hK11 => ?_
  refine wp_region_lit ?_
  refine seg ha 2 [(2, .slice ao10 s6.length cap10)] (by kernel_rfl) fun a ha => ?_
  refine hK11 _ _ ?_; try clear hK11 K11
  refine wp_ret ?_
  try simp only [Exit.then, Exit.inBlock]
  obtain rfl := Option.some.inj H
  refine rt1 ha rfl rfl ?_
  exact ⟨ao10, cap10, rfl, f10, e_i10, hC, hM⟩
 have Hc6 := H
 have H := H6
 refine wp_loop_ghost (fun kk a w6 => ∃ (x8 : List Int) (x9 : Int) (ao7 : Option Addr) (cap7 : Nat), community_Bytes.l0 a0 kk x8 x9 = some s6 ∧ Has a Tryz.f19.ntmps [(3, .slice ao7 x8.length cap7), (6, .slice ao1 a0.length cap1), (7, .int .i64 (a0.length : Int)), (8, .int .i64 x9)] ∧ (Own (rInt .u8) 5 w6 (blkL ao7 ++ (M)) ao7 cap7 x8) ∧ (RSl (rArr .u8 8) 27 w6 (blkL ao7 ++ (M)) ao1 cap1 a0) ∧ (∀ x ∈ blkL ao7, w.heap.size ≤ x) ∧ (∀ x ∈ blkL ao7, x ∉ M) ∧ (Chg [] w w6) ∧ (MS (blkL ao7 ++ (M)) w6)) k ?_ ?_
 ·skip
  have o1 : Ok [] (M) w.heap.size := Ok.nil _ _
  have o2 : Ok (blkL none ++ (M)) (M) w.heap.size := (Ok.app (fun _ h => nomatch h) (Ok.refl _ _))
  have f1 := f1.chg (Chg.refl [] _) o1 o2
  have p_z12_M : ∀ x ∈ blkL none, x ∉ M := fun x hx hy => absurd (hM x (hy)) (Nat.not_lt.2 ((fun _ h => nomatch h) x hx))
  have e_z12 : ∀ x ∈ blkL none, w.heap.size ≤ x := fun x hx => Nat.le_trans hC.size ((fun _ h => nomatch h) x hx)
  have hM : MS (blkL none ++ (M)) w := (MS.app (fun _ h => nomatch h) (hM.chg (Chg.refl [] _)))
  exact ⟨([] : List Int), (0 : Int), none, 0, H, (ha.sel (by kernel_rfl)), Own.nil, f1, e_z12, p_z12_M, hC, hM⟩
 ·rintro kk a w6 ⟨x8, x9, ao7, cap7, H, ha, f7, f1, e_i7, p_i7_M, hC, hM⟩
  obtain _ | kk := kk
  ·exact nomatch (show none = some _ from H)
  rw [community_Bytes.l0] at H
  refine wp_seq_k fun K13 hK13 => ?_
  refine wp_region_lit ?_
  refine seg ha 1 [(3, .slice ao7 x8.length cap7), (6, .slice ao1 a0.length cap1), (7, .int .i64 (a0.length : Int)), (8, .int .i64 x9), (9, .bool (decide (x9 < (a0.length : Int))))] (by kernel_rfl) fun a ha => ?_
  refine hK13 _ _ ?_; try clear hK13 K13
  refine wp_seq_k fun K14 hK14 => ?_
  refine cnd ha rfl (fun hc15 => ?_) (fun hc15 => ?_)
  ·have H := ite_t hc15 H
   refine wp_skip ?_
   refine hK14 _ _ ?_; try clear hK14 K14
   refine wp_seq_k fun K16 hK16 => ?_
   refine wp_block ?_
   refine wp_seq_k fun K17 hK17 => ?_
   refine wp_region_lit ?_
   obtain ⟨⟨hx18, hx18'⟩, H⟩ := ite_some H
   refine ix (r := (rArr .u8 8)) ha (by kernel_rfl) (by kernel_rfl) rfl rfl rfl rfl rfl f1 hx18 hx18' fun a ge19 oe20 cs21 hn24 hR22 hE23 ha => ?_
   rw [rd_get] at hR22
   obtain rfl := hR22
   have hE23 : ∀ j v, (cA .u8 8 (rd a0 x9))[j]? = some v → w6.cell? ⟨ge19, oe20 + j, none⟩ = some v := hE23
   refine ldA (cs := (cA .u8 8 (rd a0 x9))) ha rfl (by kernel_rfl) rfl rfl rfl (cells_sub hE23 (all := (cA .u8 8 (rd a0 x9))) [] [] (by kernel_rfl)) fun a ha => ?_
   refine al (cs := (cA .u8 8 (List.replicate 8 (0 : Int)))) (z := .agg (cA .u8 8 (List.replicate 8 (0 : Int))).toArray) ha (fun w => by kernel_rfl) rfl rfl rfl rfl fun a w25 g26 hN27 ha => ?_
   have o1 : Ok [] (blkL ao7 ++ (M)) w6.heap.size := Ok.nil _ _
   have o2 : Ok ([g26] ++ (blkL ao7 ++ (M))) (blkL ao7 ++ (M)) w6.heap.size := (Ok.app (hN27.ok _) (Ok.refl _ _))
   have f7 := f7.chg hN27.chg o1 o2 (fun _ _ h => nomatch h) (fun _ h => mr (ml h))
   have f1 := f1.chg hN27.chg o1 o2
   have p_i28_i7 : ∀ x ∈ [g26], x ∉ (blkL ao7) := fun x hx hy => absurd (hM x (ml hy)) (Nat.not_lt.2 ((hN27.ge1) x hx))
   have p_i28_M : ∀ x ∈ [g26], x ∉ M := fun x hx hy => absurd (hM x (mr (hy))) (Nat.not_lt.2 ((hN27.ge1) x hx))
   have e_i28 : ∀ x ∈ [g26], w.heap.size ≤ x := fun x hx => Nat.le_trans hC.size ((hN27.ge1) x hx)
   have hM : MS ([g26] ++ (blkL ao7 ++ (M))) w25 := (MS.app hN27.ms (hM.chg hN27.chg))
   have hC := hC.trans hN27.chg (Ok.nil _ _)
   have hBg26 : Box w25 g26 (cA .u8 8 (List.replicate 8 (0 : Int))) := hN27.box
   refine stA (l := (cA .u8 8 (rd a0 x9))) ha rfl rfl rfl (by kernel_rfl) rfl rfl hBg26 rfl fun a w29 ha hb2 hc30 _ => ?_
   have o1 : Ok [g26] ([g26] ++ (blkL ao7 ++ (M))) w25.heap.size := (fun _ h => .inl (ml h))
   have o2 : Ok ([g26] ++ (blkL ao7 ++ (M))) ([g26] ++ (blkL ao7 ++ (M))) w25.heap.size := (Ok.refl _ _)
   have f7 := f7.chg hc30 o1 o2 (fun x (hx : x ∈ blkL ao7) (hy : x ∈ [g26]) => p_i28_i7 x hy hx) (fun _ h => mr (ml h))
   have f1 := f1.chg hc30 o1 o2
   have hM : MS ([g26] ++ (blkL ao7 ++ (M))) w29 := (hM.chg hc30)
   have hC := hC.trans hc30 (fun x h => .inr (e_i28 x h))
   have hBg26 : Box w29 g26 (cA .u8 8 (rd a0 x9)) := hb2
   refine hK17 _ _ ?_; try clear hK17 K17
   refine wp_region_lit ?_
   refine seg ha 1 [(5, .pointer (some ⟨g26, 0, none⟩)), (6, .slice ao1 a0.length cap1), (7, .int .i64 (a0.length : Int)), (8, .int .i64 x9), (12, .slice ao7 x8.length cap7)] (by kernel_rfl) fun a ha => ?_
   refine opk (v := .slice (some ⟨g26, 0, none⟩) 8 8) ha rfl rfl rfl rfl rfl (fun w => by kernel_rfl) fun a ha => ?_
   have fw31 : RSl (rInt .u8) 5 w29 (butL g26 w29) (some ⟨g26, 0, none⟩) 8 (arL 8 (rd a0 x9)) := RSl.ofA ([] : List Value) ([] : List Value) (Box.cells hBg26) butL_self (by kernel_rfl) rfl
   obtain ⟨hx32, H⟩ := ite_some H
   refine app (r := (rInt .u8)) (xs := x8) (ys := (arL 8 (rd a0 x9))) ha (ElemT.mk' (bytes := 1) (by kernel_rfl)) rfl rfl rfl rfl rfl f7 fw31.src hx32 (by decide) fun a w33 ao34 cap34 hO34 hc34 hk34 hl34 ha => ?_
   have o1 : Ok (blkL ao7) ([g26] ++ (blkL ao7 ++ (M))) w29.heap.size := (fun _ h => .inl (mr (ml h)))
   have o2 : Ok (blkL ao34 ++ ([g26] ++ (M))) ([g26] ++ (blkL ao7 ++ (M))) w29.heap.size := (Ok.app (Ok.to hk34 (fun _ h => mr (ml h))) (Ok.app (fun _ h => .inl (ml h)) (fun _ h => .inl (mr (mr (h))))))
   have f1 := f1.chg hc34 o1 o2
   have fw31 := fw31.chg (M' := butL g26 w33) hc34 (butL_ok (fun x hx0 e0 => p_i28_i7 x (by rw [e0]; exact List.mem_singleton.2 rfl) hx0)) butL_chg
   have hBg26 := hBg26.chg hc34 (p_i28_i7 g26 (by simp))
   have p_i34_i28 : ∀ x ∈ blkL ao34, x ∉ ([g26]) := fun x hx hy => (hk34 x hx).elim (fun h => (fun x hx hy => p_i28_i7 x hy hx) x h hy) (fun h => absurd (hM x (ml hy)) (Nat.not_lt.2 h))
   have p_i34_M : ∀ x ∈ blkL ao34, x ∉ M := fun x hx hy => (hk34 x hx).elim (fun h => p_i7_M x h hy) (fun h => absurd (hM x (mr (mr (hy)))) (Nat.not_lt.2 h))
   have e_i34 : ∀ x ∈ blkL ao34, w.heap.size ≤ x := fun x hx => (hk34 x hx).elim (e_i7 x) (Nat.le_trans hC.size)
   have hM : MS (blkL ao34 ++ ([g26] ++ (M))) w33 := (MS.app hl34 (MS.app (fun x h => hM.chg hc34 x (ml h)) (fun x h => hM.chg hc34 x (mr (mr (h))))))
   have hC := hC.trans hc34 (fun x h => .inr (e_i7 x h))
   have f34 := hO34.chg (M' := blkL ao34 ++ ([g26] ++ (M))) (Chg.refl [] _) (Ok.nil _ _) (Ok.app (fun _ h => .inl (ml h)) (Ok.to (Ok.app (fun _ h => .inl (ml h)) (fun _ h => .inl (mr (mr (h))))) (fun _ h => mr h))) (fun _ _ h => nomatch h) (fun _ h => ml h)
   refine seg ha 1 [(3, .slice ao34 (x8 ++ (arL 8 (rd a0 x9))).length cap34), (6, .slice ao1 a0.length cap1), (7, .int .i64 (a0.length : Int)), (8, .int .i64 x9)] (by kernel_rfl) fun a ha => ?_
   refine hK16 _ _ ?_; try clear hK16 K16
   refine wp_region_lit ?_
   refine seg ha 2 [(3, .slice ao34 (x8 ++ (arL 8 (rd a0 x9))).length cap34), (6, .slice ao1 a0.length cap1), (7, .int .i64 (a0.length : Int)), (8, .int .i64 (IntKind.i64.wrap (x9 + (1 : Int))))] (by kernel_rfl) fun a ha => ?_
   have o1 : Ok [] (blkL ao34 ++ ([g26] ++ (M))) w33.heap.size := Ok.nil _ _
   have o2 : Ok (blkL ao34 ++ (M)) (blkL ao34 ++ ([g26] ++ (M))) w33.heap.size := (Ok.app (fun _ h => .inl (ml h)) (fun _ h => .inl (mr (mr (h)))))
   have f1 := f1.chg (Chg.refl [] _) o1 o2
   have f34 := f34.chg (Chg.refl [] _) o1 o2 (fun _ _ h => nomatch h) (fun _ h => ml h)
   have hM : MS (blkL ao34 ++ (M)) w33 := (MS.app (fun x h => hM.chg (Chg.refl [] _) x (ml h)) (fun x h => hM.chg (Chg.refl [] _) x (mr (mr (h)))))
   exact ⟨kk, Nat.lt_succ_self _, ⟨(x8 ++ (arL 8 (rd a0 x9))), IntKind.i64.wrap (x9 + (1 : Int)), ao34, cap34, H, (ha.sel (by kernel_rfl)), f34, f1, e_i34, p_i34_M, hC, hM⟩⟩
  ·have H := ite_f hc15 H
   refine wp_exit ?_
   simp only [Exit.then, Exit.inBlock, ↓reduceIte, Nat.reduceEqDiff]
   obtain rfl := Option.some.inj H
   exact J6 _ _ ao7 cap7 (ha.sel (by kernel_rfl)) f7 e_i7 p_i7_M hC hM
def community_Read.l0 : Nat → (List (List Int)) → (List Int) → Bool → Option (List (List Int) × List Int × Bool)
  | 0, _, _, _ => none
  | kk + 1, x18, x19, x20 => (cursor_rest_Left.f (⟨x19, x20⟩ : S_cursor_rest)).bind fun t27 => (if (decide (t27 > (0 : Int))) = true then (cursor_Reader_Take.f (⟨(⟨x19, x20⟩ : S_cursor_rest)⟩ : S_cursor_Reader) (8 : Int)).bind fun t38 => (if (x18.length + ([(arC 8 (List.replicate 8 (0 : Int)) t38.1)] : List (List Int)).length) * 8 ≤ 140737488355328 then community_Read.l0 kk (x18 ++ ([(arC 8 (List.replicate 8 (0 : Int)) t38.1)] : List (List Int))) t38.2.rest.left t38.2.rest.bad else none) else some ((x18 : List (List Int)), (x19 : List Int), (x20 : Bool)))
def community_Read.f (k : Nat) (a0 : List Int) : Option (List (List Int) × Int) := (if ((Int.tmod (a0.length : Int) (8 : Int)) != (0 : Int)) = true then some ((([] : List (List Int)) : List (List Int)), ((4 : Int) : Int)) else (cursor_Open.f a0).bind fun t11 => (community_Read.l0 k ([] : List (List Int)) t11.rest.left t11.rest.bad).bind fun s15 => some ((s15.1 : List (List Int)), ((0 : Int) : Int)))
set_option maxRecDepth 100000 in
theorem community_Read.walk (w : World) (M : List Nat) (hM : MS M w) (a0 : List Int) (ao1 : Option Addr) (cap1 : Nat) (f1 : RSl (rInt .u8) 5 w M ao1 cap1 a0) (k : Nat) (r : List (List Int) × Int) (H : community_Read.f k a0 = some r) :
    To Tryz.prog 20 [.slice ao1 a0.length cap1] w fun v w' => ∃ (ao52 : Option Addr) (cap52 : Nat), v = .tuple #[.slice ao52 r.1.length cap52, .int .i64 r.2] ∧ (Own (rArr .u8 8) 27 w' (blkL ao52 ++ (M)) ao52 cap52 r.1) ∧ (∀ x ∈ blkL ao52, w.heap.size ≤ x) ∧ Chg [] w w' ∧ MS (blkL ao52 ++ (M)) w' := by
 unfold community_Read.f at H
 refine ent Tryz.func20 rfl [(0, .slice ao1 a0.length cap1)] rfl (by rfl) fun a ha => ?_
 have hC : Chg [] w w := Chg.refl _ _
 refine wp_seq_k fun K2 hK2 => ?_
 refine wp_region_lit ?_
 refine seg ha 2 [(0, .slice ao1 a0.length cap1)] (by kernel_rfl) fun a ha => ?_
 refine hK2 _ _ ?_; try clear hK2 K2
 refine wp_seq_k fun K3 hK3 => ?_
 refine wp_seq_k fun K4 hK4 => ?_
 refine wp_region_lit ?_
 refine seg ha 4 [(0, .slice ao1 a0.length cap1), (10, .bool ((Int.tmod (a0.length : Int) (8 : Int)) != (0 : Int)))] (by kernel_rfl) fun a ha => ?_
 refine hK4 _ _ ?_; try clear hK4 K4
 refine cnd ha rfl (fun hc5 => ?_) (fun hc5 => ?_)
 ·have H := ite_t hc5 H
  refine wp_seq_k fun K6 hK6 => ?_
  refine wp_region_lit ?_
  refine seg ha 2 [(2, .slice none 0 0), (3, .int .i64 (4 : Int))] (by kernel_rfl) fun a ha => ?_
  refine hK6 _ _ ?_; try clear hK6 K6
  refine wp_ret ?_
  try simp only [Exit.then, Exit.inBlock]
  have p_z7_M : ∀ x ∈ blkL none, x ∉ M := fun x hx hy => absurd (hM x (hy)) (Nat.not_lt.2 ((fun _ h => nomatch h) x hx))
  have e_z7 : ∀ x ∈ blkL none, w.heap.size ≤ x := fun x hx => Nat.le_trans hC.size ((fun _ h => nomatch h) x hx)
  have hM : MS (blkL none ++ (M)) w := (MS.app (fun _ h => nomatch h) (hM.chg (Chg.refl [] _)))
  obtain rfl := Option.some.inj H
  refine rt2 ha rfl rfl rfl ?_
  exact ⟨none, 0, rfl, Own.nil, e_z7, hC, hM⟩
 ·have H := ite_f hc5 H
  refine wp_skip ?_
  refine hK3 _ _ ?_; try clear hK3 K3
  refine wp_seq_k fun K8 hK8 => ?_
  refine wp_region_lit ?_
  refine seg ha 1 [(0, .slice ao1 a0.length cap1), (4, .slice none 0 0)] (by kernel_rfl) fun a ha => ?_
  refine hK8 _ _ ?_; try clear hK8 K8
  refine wp_seq_k fun K9 hK9 => ?_
  refine wp_seq_k fun K10 hK10 => ?_
  refine wp_region_lit ?_
  refine seg ha 1 [(4, .slice none 0 0), (11, .slice ao1 a0.length cap1)] (by kernel_rfl) fun a ha => ?_
  obtain ⟨t11, H11, H⟩ := bind_some H
  refine cl ha (by rfl) (by kernel_rfl) (by rfl) (by rfl) (by rfl) (cursor_Open.walk w _ hM a0 ao1 cap1 f1 _ H11) ?_
  rintro _ w11 ⟨g12, ao14, cap14, rfl, f14, hBg12, ne_i13, hc11, hMn⟩ a ha
  have o1 : Ok [] (M) w.heap.size := Ok.nil _ _
  have o2 : Ok ([g12] ++ (M)) (M) w.heap.size := (Ok.app (fun x h => .inr (ne_i13 x h)) (Ok.refl _ _))
  have f1 := f1.chg hc11 o1 o2
  have p_i13_M : ∀ x ∈ [g12], x ∉ M := fun x hx hy => absurd (hM x (hy)) (Nat.not_lt.2 (ne_i13 x hx))
  have e_i13 : ∀ x ∈ [g12], w.heap.size ≤ x := fun x hx => Nat.le_trans hC.size (ne_i13 x hx)
  have hM : MS ([g12] ++ (M)) w11 := (MS.app (fun x h => hMn x (ml h)) (hM.chg hc11))
  have hC := hC.trans hc11 (Ok.nil _ _)
  refine seg ha 1 [(4, .slice none 0 0), (5, .pointer (some ⟨g12, 0, none⟩))] (by kernel_rfl) fun a ha => ?_
  refine hK10 _ _ ?_; try clear hK10 K10
  refine wp_block ?_
  obtain ⟨s15, H15, H⟩ := bind_some H
  have J15 : ∀ (a : Act) (wx15 : World) (ao21 : Option Addr) (cap21 : Nat) (ao22 : Option Addr) (cap22 : Nat), Has a Tryz.f20.ntmps [(4, .slice ao21 s15.1.length cap21)] → (Own (rArr .u8 8) 27 wx15 (blkL ao21 ++ ([g12] ++ (M))) ao21 cap21 s15.1) → (RSl (rInt .u8) 5 wx15 (blkL ao21 ++ ([g12] ++ (M))) ao22 cap22 s15.2.1) → (Box wx15 g12 (cS_cursor_Reader (⟨(⟨s15.2.1, s15.2.2⟩ : S_cursor_rest)⟩ : S_cursor_Reader) ao22 cap22)) → (∀ x ∈ blkL ao21, w.heap.size ≤ x) → (∀ x ∈ blkL ao21, x ∉ [g12]) → (∀ x ∈ blkL ao21, x ∉ M) → (Chg [] w wx15) → (MS (blkL ao21 ++ ([g12] ++ (M))) wx15) → K9 a wx15 := by
   intro a wx15 ao21 cap21 ao22 cap22 ha f21 f22 hBg12 e_i21 p_i21_i13 p_i21_M hC hM
   refine hK9 _ _ ?_; try clear hK9 K9
   refine wp_seq_k fun K23 hK23 => ?_
   refine wp_region_lit ?_
   refine seg ha 3 [(2, .slice ao21 s15.1.length cap21), (3, .int .i64 (0 : Int))] (by kernel_rfl) fun a ha => ?_
   refine hK23 _ _ ?_; try clear hK23 K23
   refine wp_ret ?_
   try simp only [Exit.then, Exit.inBlock]
   have o1 : Ok [] (blkL ao21 ++ ([g12] ++ (M))) wx15.heap.size := Ok.nil _ _
   have o2 : Ok (blkL ao21 ++ (M)) (blkL ao21 ++ ([g12] ++ (M))) wx15.heap.size := (Ok.app (fun _ h => .inl (ml h)) (fun _ h => .inl (mr (mr (h)))))
   have f21 := f21.chg (Chg.refl [] _) o1 o2 (fun _ _ h => nomatch h) (fun _ h => ml h)
   have f22 := f22.chg (Chg.refl [] _) o1 o2
   have hM : MS (blkL ao21 ++ (M)) wx15 := (MS.app (fun x h => hM.chg (Chg.refl [] _) x (ml h)) (fun x h => hM.chg (Chg.refl [] _) x (mr (mr (h)))))
   obtain rfl := Option.some.inj H
   refine rt2 ha rfl rfl rfl ?_
   exact ⟨ao21, cap21, rfl, f21, e_i21, hC, hM⟩
  have Hc15 := H
  have H := H15
  refine wp_loop_ghost (fun kk a w15 => ∃ (x18 : List (List Int)) (x19 : List Int) (x20 : Bool) (ao16 : Option Addr) (cap16 : Nat) (ao17 : Option Addr) (cap17 : Nat), community_Read.l0 kk x18 x19 x20 = some s15 ∧ Has a Tryz.f20.ntmps [(4, .slice ao16 x18.length cap16), (5, .pointer (some ⟨g12, 0, none⟩))] ∧ (Own (rArr .u8 8) 27 w15 (blkL ao16 ++ ([g12] ++ (M))) ao16 cap16 x18) ∧ (RSl (rInt .u8) 5 w15 (blkL ao16 ++ ([g12] ++ (M))) ao17 cap17 x19) ∧ (Box w15 g12 (cS_cursor_Reader (⟨(⟨x19, x20⟩ : S_cursor_rest)⟩ : S_cursor_Reader) ao17 cap17)) ∧ (∀ x ∈ blkL ao16, w.heap.size ≤ x) ∧ (∀ x ∈ blkL ao16, x ∉ [g12]) ∧ (∀ x ∈ blkL ao16, x ∉ M) ∧ (Chg [] w w15) ∧ (MS (blkL ao16 ++ ([g12] ++ (M))) w15)) k ?_ ?_
  ·skip
   have o1 : Ok [] ([g12] ++ (M)) w11.heap.size := Ok.nil _ _
   have o2 : Ok (blkL none ++ ([g12] ++ (M))) ([g12] ++ (M)) w11.heap.size := (Ok.app (fun _ h => nomatch h) (Ok.refl _ _))
   have f14 := f14.chg (Chg.refl [] _) o1 o2
   have p_z24_i13 : ∀ x ∈ blkL none, x ∉ ([g12]) := fun x hx hy => absurd (hM x (ml hy)) (Nat.not_lt.2 ((fun _ h => nomatch h) x hx))
   have p_z24_M : ∀ x ∈ blkL none, x ∉ M := fun x hx hy => absurd (hM x (mr (hy))) (Nat.not_lt.2 ((fun _ h => nomatch h) x hx))
   have e_z24 : ∀ x ∈ blkL none, w.heap.size ≤ x := fun x hx => Nat.le_trans hC.size ((fun _ h => nomatch h) x hx)
   have hM : MS (blkL none ++ ([g12] ++ (M))) w11 := (MS.app (fun _ h => nomatch h) (hM.chg (Chg.refl [] _)))
   exact ⟨([] : List (List Int)), t11.rest.left, t11.rest.bad, none, 0, ao14, cap14, H, (ha.sel (by kernel_rfl)), Own.nil, f14, hBg12, e_z24, p_z24_i13, p_z24_M, hC, hM⟩
  ·rintro kk a w15 ⟨x18, x19, x20, ao16, cap16, ao17, cap17, H, ha, f16, f17, hBg12, e_i16, p_i16_i13, p_i16_M, hC, hM⟩
   obtain _ | kk := kk
   ·exact nomatch (show none = some _ from H)
   rw [community_Read.l0] at H
   refine wp_seq_k fun K25 hK25 => ?_
   refine wp_seq_k fun K26 hK26 => ?_
   refine wp_region_lit ?_
   refine seg ha 3 [(4, .slice ao16 x18.length cap16), (5, .pointer (some ⟨g12, 0, none⟩)), (15, .pointer (some ⟨g12, 0, none⟩))] (by kernel_rfl) fun a ha => ?_
   obtain ⟨t27, H27, H⟩ := bind_some H
   refine cl ha (by rfl) (by kernel_rfl) (by rfl) (by rfl) (by rfl) (cursor_rest_Left.walk w15 _ hM g12 (⟨x19, x20⟩ : S_cursor_rest) ao17 cap17 f17 hBg12 (mr (ml (List.mem_singleton.2 rfl))) _ H27) ?_
   rintro _ w27 ⟨rfl, hc27, hMn⟩ a ha
   have o1 : Ok [] (blkL ao16 ++ ([g12] ++ (M))) w15.heap.size := Ok.nil _ _
   have o2 : Ok (blkL ao16 ++ ([g12] ++ (M))) (blkL ao16 ++ ([g12] ++ (M))) w15.heap.size := (Ok.refl _ _)
   have f16 := f16.chg hc27 o1 o2 (fun _ _ h => nomatch h) (fun _ h => ml h)
   have f17 := f17.chg hc27 o1 o2
   have hBg12 := hBg12.chg hc27 (fun h => nomatch h)
   have hM : MS (blkL ao16 ++ ([g12] ++ (M))) w27 := (hM.chg hc27)
   have hC := hC.trans hc27 (Ok.nil _ _)
   refine seg ha 1 [(4, .slice ao16 x18.length cap16), (5, .pointer (some ⟨g12, 0, none⟩)), (17, .bool (decide (t27 > (0 : Int))))] (by kernel_rfl) fun a ha => ?_
   refine hK26 _ _ ?_; try clear hK26 K26
   refine cnd ha rfl (fun hc28 => ?_) (fun hc28 => ?_)
   ·have H := ite_t hc28 H
    refine wp_skip ?_
    refine hK25 _ _ ?_; try clear hK25 K25
    refine wp_block ?_
    refine wp_seq_k fun K29 hK29 => ?_
    refine wp_region_lit ?_
    refine al (cs := (cA .u8 8 (List.replicate 8 (0 : Int)))) (z := .agg (cA .u8 8 (List.replicate 8 (0 : Int))).toArray) ha (fun w => by kernel_rfl) rfl rfl rfl rfl fun a w30 g31 hN32 ha => ?_
    have o1 : Ok [] (blkL ao16 ++ ([g12] ++ (M))) w27.heap.size := Ok.nil _ _
    have o2 : Ok ([g31] ++ (blkL ao16 ++ ([g12] ++ (M)))) (blkL ao16 ++ ([g12] ++ (M))) w27.heap.size := (Ok.app (hN32.ok _) (Ok.refl _ _))
    have f16 := f16.chg hN32.chg o1 o2 (fun _ _ h => nomatch h) (fun _ h => mr (ml h))
    have f17 := f17.chg hN32.chg o1 o2
    have hBg12 := hBg12.chg hN32.chg (fun h => nomatch h)
    have p_i33_i16 : ∀ x ∈ [g31], x ∉ (blkL ao16) := fun x hx hy => absurd (hM x (ml hy)) (Nat.not_lt.2 ((hN32.ge1) x hx))
    have p_i33_i13 : ∀ x ∈ [g31], x ∉ ([g12]) := fun x hx hy => absurd (hM x (mr (ml hy))) (Nat.not_lt.2 ((hN32.ge1) x hx))
    have p_i33_M : ∀ x ∈ [g31], x ∉ M := fun x hx hy => absurd (hM x (mr (mr (hy)))) (Nat.not_lt.2 ((hN32.ge1) x hx))
    have e_i33 : ∀ x ∈ [g31], w.heap.size ≤ x := fun x hx => Nat.le_trans hC.size ((hN32.ge1) x hx)
    have hM : MS ([g31] ++ (blkL ao16 ++ ([g12] ++ (M)))) w30 := (MS.app hN32.ms (hM.chg hN32.chg))
    have hC := hC.trans hN32.chg (Ok.nil _ _)
    have hBg31 : Box w30 g31 (cA .u8 8 (List.replicate 8 (0 : Int))) := hN32.box
    refine hK29 _ _ ?_; try clear hK29 K29
    refine wp_seq_k fun K34 hK34 => ?_
    have okS : Ok ([g12] ++ [g31]) ([g31] ++ (blkL ao16 ++ ([g12] ++ (M)))) w30.heap.size := (Ok.app (fun _ h => .inl (mr (mr (ml h)))) (fun _ h => .inl (ml h)))
    have z_f16 := Own.toRSl (M' := ([g12] ++ [g31])) f16 okS (fun x (hx : x ∈ blkL ao16) (hy : x ∈ [g12] ++ [g31]) => (List.mem_append.1 hy).elim (fun hy => p_i16_i13 x hx hy) (fun hy => (fun x (hx : x ∈ blkL ao16) (hy : x ∈ [g31]) => p_i33_i16 x hy hx) x hx hy))
    have z_f17 := f17
    refine drw (fun w' => Chg ([g12] ++ [g31]) w30 w') (by kernel_rfl) fun w35 hc36 _ => ?_
    have hS : Chg ([g12] ++ [g31]) w30 w35 := (Chg.refl ([g12] ++ [g31]) _).trans hc36 (Ok.nil _ _)
    have o1 : Ok [] ([g31] ++ (blkL ao16 ++ ([g12] ++ (M)))) w30.heap.size := Ok.nil _ _
    have o2 : Ok ([g31] ++ (blkL ao16 ++ ([g12] ++ (M)))) ([g31] ++ (blkL ao16 ++ ([g12] ++ (M)))) w30.heap.size := (Ok.refl _ _)
    have f16 := f16.chg hc36 o1 o2 (fun _ _ h => nomatch h) (fun _ h => mr (ml h))
    have f17 := f17.chg hc36 o1 o2
    have hBg12 := hBg12.chg hc36 (fun h => nomatch h)
    have hBg31 := hBg31.chg hc36 (fun h => nomatch h)
    have hM : MS ([g31] ++ (blkL ao16 ++ ([g12] ++ (M)))) w35 := (hM.chg hc36)
    have hC := hC.trans hc36 (Ok.nil _ _)
    refine tkz 0 ha (v := .slice (some ⟨g31, 0, none⟩) 8 8) (y := fun w' _ => opk_run ha rfl rfl (fun w => by kernel_rfl)) (s := hS) (q := fun a ha => ?_)
    refine tkpz 1 0 (.pointer (some ⟨g12, 0, none⟩)) ha (s := hS) (q := fun a ha => ?_)
    refine ac 2 (by kernel_rfl) (by rfl) fun K37 hK37 => ?_
    obtain ⟨t38, H38, H⟩ := bind_some H
    refine cl ha (by rfl) (by kernel_rfl) (by rfl) (by rfl) (by rfl) (cursor_Reader_Take.walk w35 _ hM g12 (⟨(⟨x19, x20⟩ : S_cursor_rest)⟩ : S_cursor_Reader) ao17 cap17 f17 hBg12 (mr (mr (ml (List.mem_singleton.2 rfl)))) (8 : Int) _ H38) ?_
    rintro _ w38 ⟨ao39, cap39, ao40, cap40, rfl, f39, f40, qhBg12, ne_iD000039, hc38, hMn⟩ a ha
    have o1 : Ok [g12] ([g31] ++ (blkL ao16 ++ ([g12] ++ (M)))) w35.heap.size := (fun _ h => .inl (mr (mr (ml h))))
    have o2 : Ok (blkL ao39 ++ ([g31] ++ (blkL ao16 ++ ([g12] ++ (M))))) ([g31] ++ (blkL ao16 ++ ([g12] ++ (M)))) w35.heap.size := (Ok.app (fun x h => .inr (ne_iD000039 x h)) (Ok.refl _ _))
    have f16 := f16.chg hc38 o1 o2 p_i16_i13 (fun _ h => mr (mr (ml h)))
    have f17 := f17.chg hc38 o1 o2
    have hBg31 := hBg31.chg hc38 (p_i33_i13 g31 (by simp))
    have p_iD000039_i33 : ∀ x ∈ blkL ao39, x ∉ ([g31]) := fun x hx hy => absurd (hM x (ml hy)) (Nat.not_lt.2 (ne_iD000039 x hx))
    have p_iD000039_i16 : ∀ x ∈ blkL ao39, x ∉ (blkL ao16) := fun x hx hy => absurd (hM x (mr (ml hy))) (Nat.not_lt.2 (ne_iD000039 x hx))
    have p_iD000039_i13 : ∀ x ∈ blkL ao39, x ∉ ([g12]) := fun x hx hy => absurd (hM x (mr (mr (ml hy)))) (Nat.not_lt.2 (ne_iD000039 x hx))
    have p_iD000039_M : ∀ x ∈ blkL ao39, x ∉ M := fun x hx hy => absurd (hM x (mr (mr (mr (hy))))) (Nat.not_lt.2 (ne_iD000039 x hx))
    have e_iD000039 : ∀ x ∈ blkL ao39, w.heap.size ≤ x := fun x hx => Nat.le_trans hC.size (ne_iD000039 x hx)
    have hM : MS (blkL ao39 ++ ([g31] ++ (blkL ao16 ++ ([g12] ++ (M))))) w38 := (MS.app (fun x h => hMn x (ml h)) (hM.chg hc38))
    have hC := hC.trans hc38 (fun x h => .inr (e_i13 x h))
    have d_iD000039 : Ok (blkL ao39) ([g12] ++ [g31]) w30.heap.size := fun x hx => .inr (Nat.le_trans hS.size (ne_iD000039 x hx))
    have hS := hS.trans hc38 (fun x h => .inl ((List.mem_append_left _ h)))
    have hBg12 := qhBg12
    refine ae hK37 hS ?_; clear hK37 K37
    refine ac 3 (by kernel_rfl) (by rfl) fun K41 hK41 => ?_
    refine cpyA (T := 5) (k := .u8) (x0 := (List.replicate 8 (0 : Int))) (N := 8) ([] : List Value) ([] : List Value) ha (by kernel_rfl) (by kernel_rfl) rfl rfl rfl rfl rfl hBg31 (by kernel_rfl) (Own.toRSl (M' := []) f39 (Ok.nil _ _) (fun _ _ h => nomatch h)) fun a w42 hb2 hc43 ha => ?_
    have o1 : Ok [g31] (blkL ao39 ++ ([g31] ++ (blkL ao16 ++ ([g12] ++ (M))))) w38.heap.size := (fun _ h => .inl (mr (ml h)))
    have o2 : Ok (blkL ao39 ++ ([g31] ++ (blkL ao16 ++ ([g12] ++ (M))))) (blkL ao39 ++ ([g31] ++ (blkL ao16 ++ ([g12] ++ (M))))) w38.heap.size := (Ok.refl _ _)
    have f16 := f16.chg hc43 o1 o2 (fun x (hx : x ∈ blkL ao16) (hy : x ∈ [g31]) => p_i33_i16 x hy hx) (fun _ h => mr (mr (ml h)))
    have f39 := f39.chg hc43 o1 o2 p_iD000039_i33 (fun _ h => ml h)
    have f40 := f40.chg hc43 o1 o2
    have hBg12 := hBg12.chg hc43 ((fun x (hx : x ∈ [g12]) (hy : x ∈ [g31]) => p_i33_i13 x hy hx) g12 (by simp))
    have hM : MS (blkL ao39 ++ ([g31] ++ (blkL ao16 ++ ([g12] ++ (M))))) w42 := (hM.chg hc43)
    have hC := hC.trans hc43 (fun x h => .inr (e_i33 x h))
    have hS := hS.trans hc43 (fun x h => .inl ((List.mem_append_right _ h)))
    have hBg31 : Box w42 g31 (cA .u8 8 (arC 8 (List.replicate 8 (0 : Int)) t38.1)) := hb2.cast (by kernel_rfl)
    refine ae hK41 hS ?_; clear hK41 K41
    refine dn (by kernel_rfl) ?_
    refine hK34 _ _ ?_; try clear hK34 K34
    refine wp_region_lit ?_
    refine seg ha 1 [(5, .pointer (some ⟨g12, 0, none⟩)), (6, .pointer (some ⟨g31, 0, none⟩)), (22, .slice ao16 x18.length cap16)] (by kernel_rfl) fun a ha => ?_
    refine ldA (cs := (cA .u8 8 (arC 8 (List.replicate 8 (0 : Int)) t38.1))) ha rfl (by kernel_rfl) rfl rfl rfl (cells_sub (Box.cells hBg31) (all := (cA .u8 8 (arC 8 (List.replicate 8 (0 : Int)) t38.1))) [] [] (by kernel_rfl)) fun a ha => ?_
    refine bslA (vals := ([.agg (cA .u8 8 (arC 8 (List.replicate 8 (0 : Int)) t38.1)).toArray] : List Value)) (T := 27) (z := .agg (cA .u8 8 (List.replicate 8 (0 : Int))).toArray) ha rfl (by kernel_rfl) rfl (by kernel_rfl) (s := 8) (by kernel_rfl) rfl rfl (fun w => by kernel_rfl) (by kernel_rfl) rfl rfl rfl fun a w44 g45 hN46 ha => ?_
    have hN46 := (show New _ _ _ (.cells (((cA .u8 8 (arC 8 (List.replicate 8 (0 : Int)) t38.1)) ++ ([] : List Value))).toArray 27 (0, 0)) from hN46)
    have o1 : Ok [] (blkL ao39 ++ ([g31] ++ (blkL ao16 ++ ([g12] ++ (M))))) w42.heap.size := Ok.nil _ _
    have o2 : Ok ([g45] ++ (blkL ao39 ++ ([g31] ++ (blkL ao16 ++ ([g12] ++ (M)))))) (blkL ao39 ++ ([g31] ++ (blkL ao16 ++ ([g12] ++ (M))))) w42.heap.size := (Ok.app (hN46.ok _) (Ok.refl _ _))
    have f16 := f16.chg hN46.chg o1 o2 (fun _ _ h => nomatch h) (fun _ h => mr (mr (mr (ml h))))
    have f40 := f40.chg hN46.chg o1 o2
    have hBg12 := hBg12.chg hN46.chg (fun h => nomatch h)
    have hBg31 := hBg31.chg hN46.chg (fun h => nomatch h)
    have p_i47_iD000039 : ∀ x ∈ [g45], x ∉ (blkL ao39) := fun x hx hy => absurd (hM x (ml hy)) (Nat.not_lt.2 ((hN46.ge1) x hx))
    have p_i47_i33 : ∀ x ∈ [g45], x ∉ ([g31]) := fun x hx hy => absurd (hM x (mr (ml hy))) (Nat.not_lt.2 ((hN46.ge1) x hx))
    have p_i47_i16 : ∀ x ∈ [g45], x ∉ (blkL ao16) := fun x hx hy => absurd (hM x (mr (mr (ml hy)))) (Nat.not_lt.2 ((hN46.ge1) x hx))
    have p_i47_i13 : ∀ x ∈ [g45], x ∉ ([g12]) := fun x hx hy => absurd (hM x (mr (mr (mr (ml hy))))) (Nat.not_lt.2 ((hN46.ge1) x hx))
    have p_i47_M : ∀ x ∈ [g45], x ∉ M := fun x hx hy => absurd (hM x (mr (mr (mr (mr (hy)))))) (Nat.not_lt.2 ((hN46.ge1) x hx))
    have e_i47 : ∀ x ∈ [g45], w.heap.size ≤ x := fun x hx => Nat.le_trans hC.size ((hN46.ge1) x hx)
    have hM : MS ([g45] ++ (blkL ao39 ++ ([g31] ++ (blkL ao16 ++ ([g12] ++ (M)))))) w44 := (MS.app hN46.ms (hM.chg hN46.chg))
    have hC := hC.trans hN46.chg (Ok.nil _ _)
    have f48 : Own (rArr .u8 8) 27 w44 ([g45] ++ (blkL ao39 ++ ([g31] ++ (blkL ao16 ++ ([g12] ++ (M)))))) (some ⟨g45, 0, none⟩) 1 ([(arC 8 (List.replicate 8 (0 : Int)) t38.1)] : List (List Int)) := hN46.own ⟨(cA .u8 8 (arC 8 (List.replicate 8 (0 : Int)) t38.1)), _, rfl, rfl, rfl⟩ (Nat.le_of_ble_eq_true rfl)
    obtain ⟨hx49, H⟩ := ite_some H
    refine app (r := (rArr .u8 8)) (xs := x18) (ys := ([(arC 8 (List.replicate 8 (0 : Int)) t38.1)] : List (List Int))) ha (ElemT.mk' (bytes := 8) (by kernel_rfl)) rfl rfl rfl rfl rfl f16 f48.src hx49 (by decide) fun a w50 ao51 cap51 hO51 hc51 hk51 hl51 ha => ?_
    have o1 : Ok (blkL ao16) ([g45] ++ (blkL ao39 ++ ([g31] ++ (blkL ao16 ++ ([g12] ++ (M)))))) w44.heap.size := (fun _ h => .inl (mr (mr (mr (ml h)))))
    have o2 : Ok (blkL ao51 ++ ([g45] ++ (blkL ao39 ++ ([g31] ++ ([g12] ++ (M)))))) ([g45] ++ (blkL ao39 ++ ([g31] ++ (blkL ao16 ++ ([g12] ++ (M)))))) w44.heap.size := (Ok.app (Ok.to hk51 (fun _ h => mr (mr (mr (ml h))))) (Ok.app (fun _ h => .inl (ml h)) (Ok.app (fun _ h => .inl (mr (ml h))) (Ok.app (fun _ h => .inl (mr (mr (ml h)))) (fun _ h => .inl (mr (mr (mr (mr (h))))))))))
    have f48 := f48.chg hc51 o1 o2 p_i47_i16 (fun _ h => mr (ml h))
    have f40 := f40.chg hc51 o1 o2
    have hBg12 := hBg12.chg hc51 ((fun x (hx : x ∈ [g12]) (hy : x ∈ blkL ao16) => p_i16_i13 x hy hx) g12 (by simp))
    have hBg31 := hBg31.chg hc51 (p_i33_i16 g31 (by simp))
    have p_i51_i47 : ∀ x ∈ blkL ao51, x ∉ ([g45]) := fun x hx hy => (hk51 x hx).elim (fun h => (fun x hx hy => p_i47_i16 x hy hx) x h hy) (fun h => absurd (hM x (ml hy)) (Nat.not_lt.2 h))
    have p_i51_iD000039 : ∀ x ∈ blkL ao51, x ∉ (blkL ao39) := fun x hx hy => (hk51 x hx).elim (fun h => (fun x hx hy => p_iD000039_i16 x hy hx) x h hy) (fun h => absurd (hM x (mr (ml hy))) (Nat.not_lt.2 h))
    have p_i51_i33 : ∀ x ∈ blkL ao51, x ∉ ([g31]) := fun x hx hy => (hk51 x hx).elim (fun h => (fun x hx hy => p_i33_i16 x hy hx) x h hy) (fun h => absurd (hM x (mr (mr (ml hy)))) (Nat.not_lt.2 h))
    have p_i51_i13 : ∀ x ∈ blkL ao51, x ∉ ([g12]) := fun x hx hy => (hk51 x hx).elim (fun h => p_i16_i13 x h hy) (fun h => absurd (hM x (mr (mr (mr (mr (ml hy)))))) (Nat.not_lt.2 h))
    have p_i51_M : ∀ x ∈ blkL ao51, x ∉ M := fun x hx hy => (hk51 x hx).elim (fun h => p_i16_M x h hy) (fun h => absurd (hM x (mr (mr (mr (mr (mr (hy))))))) (Nat.not_lt.2 h))
    have e_i51 : ∀ x ∈ blkL ao51, w.heap.size ≤ x := fun x hx => (hk51 x hx).elim (e_i16 x) (Nat.le_trans hC.size)
    have hM : MS (blkL ao51 ++ ([g45] ++ (blkL ao39 ++ ([g31] ++ ([g12] ++ (M)))))) w50 := (MS.app hl51 (MS.app (fun x h => hM.chg hc51 x (ml h)) (MS.app (fun x h => hM.chg hc51 x (mr (ml h))) (MS.app (fun x h => hM.chg hc51 x (mr (mr (ml h)))) (fun x h => hM.chg hc51 x (mr (mr (mr (mr (h))))))))))
    have hC := hC.trans hc51 (fun x h => .inr (e_i16 x h))
    have f51 := hO51.chg (M' := blkL ao51 ++ ([g45] ++ (blkL ao39 ++ ([g31] ++ ([g12] ++ (M)))))) (Chg.refl [] _) (Ok.nil _ _) (Ok.app (fun _ h => .inl (ml h)) (Ok.to (Ok.app (fun _ h => .inl (ml h)) (Ok.app (fun _ h => .inl (mr (ml h))) (Ok.app (fun _ h => .inl (mr (mr (ml h)))) (fun _ h => .inl (mr (mr (mr (mr (h))))))))) (fun _ h => mr h))) (fun _ _ h => nomatch h) (fun _ h => ml h)
    refine seg ha 1 [(4, .slice ao51 (x18 ++ ([(arC 8 (List.replicate 8 (0 : Int)) t38.1)] : List (List Int))).length cap51), (5, .pointer (some ⟨g12, 0, none⟩))] (by kernel_rfl) fun a ha => ?_
    have o1 : Ok [] (blkL ao51 ++ ([g45] ++ (blkL ao39 ++ ([g31] ++ ([g12] ++ (M)))))) w50.heap.size := Ok.nil _ _
    have o2 : Ok (blkL ao51 ++ ([g12] ++ (M))) (blkL ao51 ++ ([g45] ++ (blkL ao39 ++ ([g31] ++ ([g12] ++ (M)))))) w50.heap.size := (Ok.app (fun _ h => .inl (ml h)) (fun _ h => .inl (mr (mr (mr (mr (h)))))))
    have f51 := f51.chg (Chg.refl [] _) o1 o2 (fun _ _ h => nomatch h) (fun _ h => ml h)
    have f40 := f40.chg (Chg.refl [] _) o1 o2
    have hM : MS (blkL ao51 ++ ([g12] ++ (M))) w50 := (MS.app (fun x h => hM.chg (Chg.refl [] _) x (ml h)) (fun x h => hM.chg (Chg.refl [] _) x (mr (mr (mr (mr (h)))))))
    exact ⟨kk, Nat.lt_succ_self _, ⟨(x18 ++ ([(arC 8 (List.replicate 8 (0 : Int)) t38.1)] : List (List Int))), t38.2.rest.left, t38.2.rest.bad, ao51, cap51, ao40, cap40, H, (ha.sel (by kernel_rfl)), f51, f40, hBg12, e_i51, p_i51_i13, p_i51_M, hC, hM⟩⟩
   ·have H := ite_f hc28 H
    refine wp_exit ?_
    simp only [Exit.then, Exit.inBlock, ↓reduceIte, Nat.reduceEqDiff]
    obtain rfl := Option.some.inj H
    exact J15 _ _ ao16 cap16 ao17 cap17 (ha.sel (by kernel_rfl)) f16 f17 hBg12 e_i16 p_i16_i13 p_i16_M hC hM
def vineryref04_of.l0 (a0 : List Int) : Nat → Int → (List Int) → Option (List Int)
  | 0, _, _ => none
  | kk + 1, x15, x16 => (if (if (decide (x15 < (8 : Int))) = true then (decide (x15 < (a0.length : Int))) else false) = true then (if 0 ≤ x15 ∧ x15 < (a0.length : Int) then (if 0 ≤ x15 ∧ x15 < (8 : Int) then vineryref04_of.l0 a0 kk (IntKind.i64.wrap (x15 + (1 : Int))) ((arL 8 x16).set (Int.toNat x15) (rd a0 x15)) else none) else none) else some (x16 : List Int))
def vineryref04_of.f (k : Nat) (a0 : List Int) : Option (List Int) := (vineryref04_of.l0 a0 k (0 : Int) (List.replicate 8 (0 : Int))).bind fun s14 => some ((s14 : List Int))
set_option maxRecDepth 100000 in
theorem vineryref04_of.walk (w : World) (M : List Nat) (hM : MS M w) (a0 : List Int) (ao1 : Option Addr) (cap1 : Nat) (f1 : RSl (rInt .u8) 5 w M ao1 cap1 a0) (k : Nat) (r : List Int) (H : vineryref04_of.f k a0 = some r) :
    To Tryz.prog 43 [.slice ao1 a0.length cap1] w fun v w' => v = .agg (cA .u8 8 r).toArray ∧ Chg [] w w' ∧ MS (M) w' := by
 unfold vineryref04_of.f at H
 refine ent Tryz.func43 rfl [(0, .slice ao1 a0.length cap1)] rfl (by rfl) fun a ha => ?_
 have hC : Chg [] w w := Chg.refl _ _
 refine wp_seq_k fun K2 hK2 => ?_
 refine wp_region_lit ?_
 refine al (cs := (cA .u8 8 (List.replicate 8 (0 : Int)))) (z := .agg (cA .u8 8 (List.replicate 8 (0 : Int))).toArray) ha (fun w => by kernel_rfl) rfl rfl rfl rfl fun a w3 g4 hN5 ha => ?_
 have o1 : Ok [] (M) w.heap.size := Ok.nil _ _
 have o2 : Ok ([g4] ++ (M)) (M) w.heap.size := (Ok.app (hN5.ok _) (Ok.refl _ _))
 have f1 := f1.chg hN5.chg o1 o2
 have p_i6_M : ∀ x ∈ [g4], x ∉ M := fun x hx hy => absurd (hM x (hy)) (Nat.not_lt.2 ((hN5.ge1) x hx))
 have e_i6 : ∀ x ∈ [g4], w.heap.size ≤ x := fun x hx => Nat.le_trans hC.size ((hN5.ge1) x hx)
 have hM : MS ([g4] ++ (M)) w3 := (MS.app hN5.ms (hM.chg hN5.chg))
 have hC := hC.trans hN5.chg (Ok.nil _ _)
 have hBg4 : Box w3 g4 (cA .u8 8 (List.replicate 8 (0 : Int))) := hN5.box
 refine hK2 _ _ ?_; try clear hK2 K2
 refine wp_seq_k fun K7 hK7 => ?_
 refine wp_region_lit ?_
 refine al (cs := (cA .u8 8 (List.replicate 8 (0 : Int)))) (z := .agg (cA .u8 8 (List.replicate 8 (0 : Int))).toArray) ha (fun w => by kernel_rfl) rfl rfl rfl rfl fun a w8 g9 hN10 ha => ?_
 have o1 : Ok [] ([g4] ++ (M)) w3.heap.size := Ok.nil _ _
 have o2 : Ok ([g9] ++ ([g4] ++ (M))) ([g4] ++ (M)) w3.heap.size := (Ok.app (hN10.ok _) (Ok.refl _ _))
 have f1 := f1.chg hN10.chg o1 o2
 have hBg4 := hBg4.chg hN10.chg (fun h => nomatch h)
 have p_i11_i6 : ∀ x ∈ [g9], x ∉ ([g4]) := fun x hx hy => absurd (hM x (ml hy)) (Nat.not_lt.2 ((hN10.ge1) x hx))
 have p_i11_M : ∀ x ∈ [g9], x ∉ M := fun x hx hy => absurd (hM x (mr (hy))) (Nat.not_lt.2 ((hN10.ge1) x hx))
 have e_i11 : ∀ x ∈ [g9], w.heap.size ≤ x := fun x hx => Nat.le_trans hC.size ((hN10.ge1) x hx)
 have hM : MS ([g9] ++ ([g4] ++ (M))) w8 := (MS.app hN10.ms (hM.chg hN10.chg))
 have hC := hC.trans hN10.chg (Ok.nil _ _)
 have hBg9 : Box w8 g9 (cA .u8 8 (List.replicate 8 (0 : Int))) := hN10.box
 refine hK7 _ _ ?_; try clear hK7 K7
 refine wp_seq_k fun K12 hK12 => ?_
 refine wp_seq_k fun K13 hK13 => ?_
 refine wp_region_lit ?_
 refine seg ha 1 [(0, .slice ao1 a0.length cap1), (2, .pointer (some ⟨g4, 0, none⟩)), (3, .pointer (some ⟨g9, 0, none⟩)), (4, .int .i64 (0 : Int))] (by kernel_rfl) fun a ha => ?_
 refine hK13 _ _ ?_; try clear hK13 K13
 refine wp_block ?_
 obtain ⟨s14, H14, H⟩ := bind_some H
 have J14 : ∀ (a : Act) (wx14 : World), Has a Tryz.f43.ntmps [(2, .pointer (some ⟨g4, 0, none⟩)), (3, .pointer (some ⟨g9, 0, none⟩))] → (Box wx14 g4 (cA .u8 8 (List.replicate 8 (0 : Int)))) → (Box wx14 g9 (cA .u8 8 s14)) → (Chg [] w wx14) → (MS ([g9] ++ ([g4] ++ (M))) wx14) → K12 a wx14 := by
  intro a wx14 ha hBg4 hBg9 hC hM
  refine hK12 _ _ ?_; try clear hK12 K12
  refine wp_seq_k fun K17 hK17 => ?_
  refine wp_region_lit ?_
  refine ldA (cs := (cA .u8 8 s14)) ha rfl (by kernel_rfl) rfl rfl rfl (cells_sub (Box.cells hBg9) (all := (cA .u8 8 s14)) [] [] (by kernel_rfl)) fun a ha => ?_
  refine stA (l := (cA .u8 8 s14)) ha rfl rfl rfl (by kernel_rfl) rfl rfl hBg4 rfl fun a w18 ha hb2 hc19 _ => ?_
  have hBg9 := hBg9.chg hc19 (p_i11_i6 g9 (by simp))
  have hM : MS ([g9] ++ ([g4] ++ (M))) w18 := (hM.chg hc19)
  have hC := hC.trans hc19 (fun x h => .inr (e_i6 x h))
  have hBg4 : Box w18 g4 (cA .u8 8 s14) := hb2
  refine hK17 _ _ ?_; try clear hK17 K17
  refine wp_ret ?_
  try simp only [Exit.then, Exit.inBlock]
  have hM : MS (M) w18 := (fun x h => hM.chg (Chg.refl [] _) x (mr (mr (h))))
  obtain rfl := Option.some.inj H
  refine rtr ha (res1 rfl (roA ha rfl hBg4 (by kernel_rfl))) ?_
  exact ⟨rfl, hC, hM⟩
 have Hc14 := H
 have H := H14
 refine wp_loop_ghost (fun kk a w14 => ∃ (x15 : Int) (x16 : List Int), vineryref04_of.l0 a0 kk x15 x16 = some s14 ∧ Has a Tryz.f43.ntmps [(0, .slice ao1 a0.length cap1), (2, .pointer (some ⟨g4, 0, none⟩)), (3, .pointer (some ⟨g9, 0, none⟩)), (4, .int .i64 x15)] ∧ (RSl (rInt .u8) 5 w14 ([g9] ++ ([g4] ++ (M))) ao1 cap1 a0) ∧ (Box w14 g4 (cA .u8 8 (List.replicate 8 (0 : Int)))) ∧ (Box w14 g9 (cA .u8 8 x16)) ∧ (Chg [] w w14) ∧ (MS ([g9] ++ ([g4] ++ (M))) w14)) k ?_ ?_
 ·skip
  exact ⟨(0 : Int), (List.replicate 8 (0 : Int)), H, (ha.sel (by kernel_rfl)), f1, hBg4, hBg9, hC, hM⟩
 ·rintro kk a w14 ⟨x15, x16, H, ha, f1, hBg4, hBg9, hC, hM⟩
  obtain _ | kk := kk
  ·exact nomatch (show none = some _ from H)
  rw [vineryref04_of.l0] at H
  refine wp_seq_k fun K20 hK20 => ?_
  refine wp_seq_k fun K21 hK21 => ?_
  refine wp_region_lit ?_
  refine seg ha 8 [(0, .slice ao1 a0.length cap1), (2, .pointer (some ⟨g4, 0, none⟩)), (3, .pointer (some ⟨g9, 0, none⟩)), (4, .int .i64 x15), (12, .bool (if (decide (x15 < (8 : Int))) = true then (decide (x15 < (a0.length : Int))) else false))] (by kernel_rfl) fun a ha => ?_
  refine hK21 _ _ ?_; try clear hK21 K21
  refine cnd ha rfl (fun hc22 => ?_) (fun hc22 => ?_)
  ·have H := ite_t hc22 H
   refine wp_skip ?_
   refine hK20 _ _ ?_; try clear hK20 K20
   refine wp_seq_k fun K23 hK23 => ?_
   refine wp_block ?_
   refine wp_region_lit ?_
   refine seg ha 3 [(0, .slice ao1 a0.length cap1), (2, .pointer (some ⟨g4, 0, none⟩)), (3, .pointer (some ⟨g9, 0, none⟩)), (4, .int .i64 x15), (15, .int .i64 x15), (16, .slice ao1 a0.length cap1), (17, .int .i64 x15)] (by kernel_rfl) fun a ha => ?_
   obtain ⟨⟨hx24, hx24'⟩, H⟩ := ite_some H
   refine ix (r := (rInt .u8)) ha (by kernel_rfl) (by kernel_rfl) rfl rfl rfl rfl rfl f1 hx24 hx24' fun a ge25 oe26 cs27 hn30 hR28 hE29 ha => ?_
   rw [rd_get] at hR28
   obtain rfl := hR28
   have hE29 : ∀ j v, ([.int .u8 (rd a0 x15)] : List Value)[j]? = some v → w14.cell? ⟨ge25, oe26 + j, none⟩ = some v := hE29
   refine ld ha rfl (by kernel_rfl) rfl rfl rfl (hE29 0 (.int .u8 (rd a0 x15)) (by kernel_rfl)) fun a ha => ?_
   obtain ⟨⟨hx31, hx31'⟩, H⟩ := ite_some H
   have hi31 : (Int.toNat x15) < 8 := by omega
   refine hop (v := .pointer (some ⟨g9, 0 + (Int.toNat x15), none⟩)) (w' := w14) ha rfl rfl rfl (ixA_run (T := 5) (N := 8) (g := g9) (o' := 0) (k := .i64) (i := x15) ha (by kernel_rfl) (by kernel_rfl) (by rfl) (by rfl) hx31 hx31' _) fun a ha => ?_
   refine st (o' := 0 + (Int.toNat x15)) ha rfl rfl rfl (by kernel_rfl) rfl rfl hBg9 (arr_lt (k := .u8) (m := 8) (x := x16) ([] : List Value) ([] : List Value) (by kernel_rfl) hi31) fun a w32 ha hb2 hc33 _ => ?_
   have o1 : Ok [g9] ([g9] ++ ([g4] ++ (M))) w14.heap.size := (fun _ h => .inl (ml h))
   have o2 : Ok ([g9] ++ ([g4] ++ (M))) ([g9] ++ ([g4] ++ (M))) w14.heap.size := (Ok.refl _ _)
   have f1 := f1.chg hc33 o1 o2
   have hBg4 := hBg4.chg hc33 ((fun x (hx : x ∈ [g4]) (hy : x ∈ [g9]) => p_i11_i6 x hy hx) g4 (by simp))
   have hM : MS ([g9] ++ ([g4] ++ (M))) w32 := (hM.chg hc33)
   have hC := hC.trans hc33 (fun x h => .inr (e_i11 x h))
   have hBg9 : Box w32 g9 (cA .u8 8 ((arL 8 x16).set (Int.toNat x15) (rd a0 x15))) := Box.setA (k := .u8) (m := 8) (x := x16) ([] : List Value) ([] : List Value) hb2 (by kernel_rfl) hi31 (by kernel_rfl)
   refine hK23 _ _ ?_; try clear hK23 K23
   refine wp_region_lit ?_
   refine seg ha 3 [(0, .slice ao1 a0.length cap1), (2, .pointer (some ⟨g4, 0, none⟩)), (3, .pointer (some ⟨g9, 0, none⟩)), (4, .int .i64 (IntKind.i64.wrap (x15 + (1 : Int))))] (by kernel_rfl) fun a ha => ?_
   exact ⟨kk, Nat.lt_succ_self _, ⟨IntKind.i64.wrap (x15 + (1 : Int)), ((arL 8 x16).set (Int.toNat x15) (rd a0 x15)), H, (ha.sel (by kernel_rfl)), f1, hBg4, hBg9, hC, hM⟩⟩
  ·have H := ite_f hc22 H
   refine wp_exit ?_
   simp only [Exit.then, Exit.inBlock, ↓reduceIte, Nat.reduceEqDiff]
   obtain rfl := Option.some.inj H
   exact J14 _ _ (ha.sel (by kernel_rfl)) hBg4 hBg9 hC hM
def vineryref04_Read.l0 (k : Nat) (a0 : List Int) : Nat → (List (List Int)) → Int → Option (List (List Int))
  | 0, _, _ => none
  | kk + 1, x13, x14 => (if (decide (x14 < (a0.length : Int))) = true then (if 0 ≤ x14 ∧ x14 ≤ (IntKind.i64.wrap (x14 + (8 : Int))) ∧ (IntKind.i64.wrap (x14 + (8 : Int))) ≤ (a0.length : Int) then (vineryref04_of.f k ((a0.take (Int.toNat (IntKind.i64.wrap (x14 + (8 : Int))))).drop (Int.toNat x14))).bind fun t24 => (if (x13.length + ([t24] : List (List Int)).length) * 8 ≤ 140737488355328 then vineryref04_Read.l0 k a0 kk (x13 ++ ([t24] : List (List Int))) (IntKind.i64.wrap (x14 + (8 : Int))) else none) else none) else some (x13 : List (List Int)))
def vineryref04_Read.f (k : Nat) (a0 : List Int) : Option (List (List Int) × Int) := (if ((Int.tmod (a0.length : Int) (8 : Int)) != (0 : Int)) = true then some ((([] : List (List Int)) : List (List Int)), ((4 : Int) : Int)) else (vineryref04_Read.l0 k a0 k ([] : List (List Int)) (0 : Int)).bind fun s11 => some ((s11 : List (List Int)), ((0 : Int) : Int)))
set_option maxRecDepth 100000 in
theorem vineryref04_Read.walk (w : World) (M : List Nat) (hM : MS M w) (a0 : List Int) (ao1 : Option Addr) (cap1 : Nat) (f1 : RSl (rInt .u8) 5 w M ao1 cap1 a0) (k : Nat) (r : List (List Int) × Int) (H : vineryref04_Read.f k a0 = some r) :
    To Tryz.prog 21 [.slice ao1 a0.length cap1] w fun v w' => ∃ (ao33 : Option Addr) (cap33 : Nat), v = .tuple #[.slice ao33 r.1.length cap33, .int .i64 r.2] ∧ (Own (rArr .u8 8) 27 w' (blkL ao33 ++ (M)) ao33 cap33 r.1) ∧ (∀ x ∈ blkL ao33, w.heap.size ≤ x) ∧ Chg [] w w' ∧ MS (blkL ao33 ++ (M)) w' := by
 unfold vineryref04_Read.f at H
 refine ent Tryz.func21 rfl [(0, .slice ao1 a0.length cap1)] rfl (by rfl) fun a ha => ?_
 have hC : Chg [] w w := Chg.refl _ _
 refine wp_seq_k fun K2 hK2 => ?_
 refine wp_region_lit ?_
 refine seg ha 2 [(0, .slice ao1 a0.length cap1)] (by kernel_rfl) fun a ha => ?_
 refine hK2 _ _ ?_; try clear hK2 K2
 refine wp_seq_k fun K3 hK3 => ?_
 refine wp_seq_k fun K4 hK4 => ?_
 refine wp_region_lit ?_
 refine seg ha 4 [(0, .slice ao1 a0.length cap1), (9, .bool ((Int.tmod (a0.length : Int) (8 : Int)) != (0 : Int)))] (by kernel_rfl) fun a ha => ?_
 refine hK4 _ _ ?_; try clear hK4 K4
 refine cnd ha rfl (fun hc5 => ?_) (fun hc5 => ?_)
 ·have H := ite_t hc5 H
  refine wp_seq_k fun K6 hK6 => ?_
  refine wp_region_lit ?_
  refine seg ha 2 [(2, .slice none 0 0), (3, .int .i64 (4 : Int))] (by kernel_rfl) fun a ha => ?_
  refine hK6 _ _ ?_; try clear hK6 K6
  refine wp_ret ?_
  try simp only [Exit.then, Exit.inBlock]
  have p_z7_M : ∀ x ∈ blkL none, x ∉ M := fun x hx hy => absurd (hM x (hy)) (Nat.not_lt.2 ((fun _ h => nomatch h) x hx))
  have e_z7 : ∀ x ∈ blkL none, w.heap.size ≤ x := fun x hx => Nat.le_trans hC.size ((fun _ h => nomatch h) x hx)
  have hM : MS (blkL none ++ (M)) w := (MS.app (fun _ h => nomatch h) (hM.chg (Chg.refl [] _)))
  obtain rfl := Option.some.inj H
  refine rt2 ha rfl rfl rfl ?_
  exact ⟨none, 0, rfl, Own.nil, e_z7, hC, hM⟩
 ·have H := ite_f hc5 H
  refine wp_skip ?_
  refine hK3 _ _ ?_; try clear hK3 K3
  refine wp_seq_k fun K8 hK8 => ?_
  refine wp_region_lit ?_
  refine seg ha 1 [(0, .slice ao1 a0.length cap1), (4, .slice none 0 0)] (by kernel_rfl) fun a ha => ?_
  refine hK8 _ _ ?_; try clear hK8 K8
  refine wp_seq_k fun K9 hK9 => ?_
  refine wp_seq_k fun K10 hK10 => ?_
  refine wp_region_lit ?_
  refine seg ha 1 [(0, .slice ao1 a0.length cap1), (4, .slice none 0 0), (5, .int .i64 (0 : Int))] (by kernel_rfl) fun a ha => ?_
  refine hK10 _ _ ?_; try clear hK10 K10
  refine wp_block ?_
  obtain ⟨s11, H11, H⟩ := bind_some H
  have J11 : ∀ (a : Act) (wx11 : World) (ao15 : Option Addr) (cap15 : Nat), Has a Tryz.f21.ntmps [(4, .slice ao15 s11.length cap15)] → (Own (rArr .u8 8) 27 wx11 (blkL ao15 ++ (M)) ao15 cap15 s11) → (∀ x ∈ blkL ao15, w.heap.size ≤ x) → (∀ x ∈ blkL ao15, x ∉ M) → (Chg [] w wx11) → (MS (blkL ao15 ++ (M)) wx11) → K9 a wx11 := by
   intro a wx11 ao15 cap15 ha f15 e_i15 p_i15_M hC hM
   refine hK9 _ _ ?_; try clear hK9 K9
   refine wp_seq_k fun K16 hK16 => ?_
   refine wp_region_lit ?_
   refine seg ha 3 [(2, .slice ao15 s11.length cap15), (3, .int .i64 (0 : Int))] (by kernel_rfl) fun a ha => ?_
   refine hK16 _ _ ?_; try clear hK16 K16
   refine wp_ret ?_
   try simp only [Exit.then, Exit.inBlock]
   obtain rfl := Option.some.inj H
   refine rt2 ha rfl rfl rfl ?_
   exact ⟨ao15, cap15, rfl, f15, e_i15, hC, hM⟩
  have Hc11 := H
  have H := H11
  refine wp_loop_ghost (fun kk a w11 => ∃ (x13 : List (List Int)) (x14 : Int) (ao12 : Option Addr) (cap12 : Nat), vineryref04_Read.l0 k a0 kk x13 x14 = some s11 ∧ Has a Tryz.f21.ntmps [(0, .slice ao1 a0.length cap1), (4, .slice ao12 x13.length cap12), (5, .int .i64 x14)] ∧ (RSl (rInt .u8) 5 w11 (blkL ao12 ++ (M)) ao1 cap1 a0) ∧ (Own (rArr .u8 8) 27 w11 (blkL ao12 ++ (M)) ao12 cap12 x13) ∧ (∀ x ∈ blkL ao12, w.heap.size ≤ x) ∧ (∀ x ∈ blkL ao12, x ∉ M) ∧ (Chg [] w w11) ∧ (MS (blkL ao12 ++ (M)) w11)) k ?_ ?_
  ·skip
   have o1 : Ok [] (M) w.heap.size := Ok.nil _ _
   have o2 : Ok (blkL none ++ (M)) (M) w.heap.size := (Ok.app (fun _ h => nomatch h) (Ok.refl _ _))
   have f1 := f1.chg (Chg.refl [] _) o1 o2
   have p_z17_M : ∀ x ∈ blkL none, x ∉ M := fun x hx hy => absurd (hM x (hy)) (Nat.not_lt.2 ((fun _ h => nomatch h) x hx))
   have e_z17 : ∀ x ∈ blkL none, w.heap.size ≤ x := fun x hx => Nat.le_trans hC.size ((fun _ h => nomatch h) x hx)
   have hM : MS (blkL none ++ (M)) w := (MS.app (fun _ h => nomatch h) (hM.chg (Chg.refl [] _)))
   exact ⟨([] : List (List Int)), (0 : Int), none, 0, H, (ha.sel (by kernel_rfl)), f1, Own.nil, e_z17, p_z17_M, hC, hM⟩
  ·rintro kk a w11 ⟨x13, x14, ao12, cap12, H, ha, f1, f12, e_i12, p_i12_M, hC, hM⟩
   obtain _ | kk := kk
   ·exact nomatch (show none = some _ from H)
   rw [vineryref04_Read.l0] at H
   refine wp_seq_k fun K18 hK18 => ?_
   refine wp_seq_k fun K19 hK19 => ?_
   refine wp_region_lit ?_
   refine seg ha 4 [(0, .slice ao1 a0.length cap1), (4, .slice ao12 x13.length cap12), (5, .int .i64 x14), (13, .bool (decide (x14 < (a0.length : Int))))] (by kernel_rfl) fun a ha => ?_
   refine hK19 _ _ ?_; try clear hK19 K19
   refine cnd ha rfl (fun hc20 => ?_) (fun hc20 => ?_)
   ·have H := ite_t hc20 H
    refine wp_skip ?_
    refine hK18 _ _ ?_; try clear hK18 K18
    refine wp_seq_k fun K21 hK21 => ?_
    refine wp_block ?_
    refine wp_region_lit ?_
    refine seg ha 5 [(0, .slice ao1 a0.length cap1), (5, .int .i64 x14), (16, .slice ao12 x13.length cap12), (17, .slice ao1 a0.length cap1), (18, .int .i64 x14), (20, .int .i64 (IntKind.i64.wrap (x14 + (8 : Int))))] (by kernel_rfl) fun a ha => ?_
    obtain ⟨⟨hx22, hx22', hx22''⟩, H⟩ := ite_some H
    refine slc (r := (rInt .u8)) (l := x14) (h := (IntKind.i64.wrap (x14 + (8 : Int)))) ha (by kernel_rfl) (by kernel_rfl) rfl rfl rfl rfl rfl rfl f1 hx22 hx22' hx22'' fun a ao23 cap23 f23 ha => ?_
    obtain ⟨t24, H24, H⟩ := bind_some H
    refine cl ha (by rfl) (by kernel_rfl) (by rfl) (by rfl) (by rfl) (vineryref04_of.walk w11 _ hM ((a0.take (Int.toNat (IntKind.i64.wrap (x14 + (8 : Int))))).drop (Int.toNat x14)) ao23 cap23 f23 k _ H24) ?_
    rintro _ w24 ⟨rfl, hc24, hMn⟩ a ha
    have o1 : Ok [] (blkL ao12 ++ (M)) w11.heap.size := Ok.nil _ _
    have o2 : Ok (blkL ao12 ++ (M)) (blkL ao12 ++ (M)) w11.heap.size := (Ok.refl _ _)
    have f1 := f1.chg hc24 o1 o2
    have f12 := f12.chg hc24 o1 o2 (fun _ _ h => nomatch h) (fun _ h => ml h)
    have f23 := f23.chg hc24 o1 o2
    have hM : MS (blkL ao12 ++ (M)) w24 := (hM.chg hc24)
    have hC := hC.trans hc24 (Ok.nil _ _)
    refine bslA (vals := ([.agg (cA .u8 8 t24).toArray] : List Value)) (T := 27) (z := .agg (cA .u8 8 (List.replicate 8 (0 : Int))).toArray) ha rfl (by kernel_rfl) rfl (by kernel_rfl) (s := 8) (by kernel_rfl) rfl rfl (fun w => by kernel_rfl) (by kernel_rfl) rfl rfl rfl fun a w25 g26 hN27 ha => ?_
    have hN27 := (show New _ _ _ (.cells (((cA .u8 8 t24) ++ ([] : List Value))).toArray 27 (0, 0)) from hN27)
    have o1 : Ok [] (blkL ao12 ++ (M)) w24.heap.size := Ok.nil _ _
    have o2 : Ok ([g26] ++ (blkL ao12 ++ (M))) (blkL ao12 ++ (M)) w24.heap.size := (Ok.app (hN27.ok _) (Ok.refl _ _))
    have f1 := f1.chg hN27.chg o1 o2
    have f12 := f12.chg hN27.chg o1 o2 (fun _ _ h => nomatch h) (fun _ h => mr (ml h))
    have p_i28_i12 : ∀ x ∈ [g26], x ∉ (blkL ao12) := fun x hx hy => absurd (hM x (ml hy)) (Nat.not_lt.2 ((hN27.ge1) x hx))
    have p_i28_M : ∀ x ∈ [g26], x ∉ M := fun x hx hy => absurd (hM x (mr (hy))) (Nat.not_lt.2 ((hN27.ge1) x hx))
    have e_i28 : ∀ x ∈ [g26], w.heap.size ≤ x := fun x hx => Nat.le_trans hC.size ((hN27.ge1) x hx)
    have hM : MS ([g26] ++ (blkL ao12 ++ (M))) w25 := (MS.app hN27.ms (hM.chg hN27.chg))
    have hC := hC.trans hN27.chg (Ok.nil _ _)
    have f29 : Own (rArr .u8 8) 27 w25 ([g26] ++ (blkL ao12 ++ (M))) (some ⟨g26, 0, none⟩) 1 ([t24] : List (List Int)) := hN27.own ⟨(cA .u8 8 t24), _, rfl, rfl, rfl⟩ (Nat.le_of_ble_eq_true rfl)
    obtain ⟨hx30, H⟩ := ite_some H
    refine app (r := (rArr .u8 8)) (xs := x13) (ys := ([t24] : List (List Int))) ha (ElemT.mk' (bytes := 8) (by kernel_rfl)) rfl rfl rfl rfl rfl f12 f29.src hx30 (by decide) fun a w31 ao32 cap32 hO32 hc32 hk32 hl32 ha => ?_
    have o1 : Ok (blkL ao12) ([g26] ++ (blkL ao12 ++ (M))) w25.heap.size := (fun _ h => .inl (mr (ml h)))
    have o2 : Ok (blkL ao32 ++ ([g26] ++ (M))) ([g26] ++ (blkL ao12 ++ (M))) w25.heap.size := (Ok.app (Ok.to hk32 (fun _ h => mr (ml h))) (Ok.app (fun _ h => .inl (ml h)) (fun _ h => .inl (mr (mr (h))))))
    have f1 := f1.chg hc32 o1 o2
    have f29 := f29.chg hc32 o1 o2 p_i28_i12 (fun _ h => mr (ml h))
    have p_i32_i28 : ∀ x ∈ blkL ao32, x ∉ ([g26]) := fun x hx hy => (hk32 x hx).elim (fun h => (fun x hx hy => p_i28_i12 x hy hx) x h hy) (fun h => absurd (hM x (ml hy)) (Nat.not_lt.2 h))
    have p_i32_M : ∀ x ∈ blkL ao32, x ∉ M := fun x hx hy => (hk32 x hx).elim (fun h => p_i12_M x h hy) (fun h => absurd (hM x (mr (mr (hy)))) (Nat.not_lt.2 h))
    have e_i32 : ∀ x ∈ blkL ao32, w.heap.size ≤ x := fun x hx => (hk32 x hx).elim (e_i12 x) (Nat.le_trans hC.size)
    have hM : MS (blkL ao32 ++ ([g26] ++ (M))) w31 := (MS.app hl32 (MS.app (fun x h => hM.chg hc32 x (ml h)) (fun x h => hM.chg hc32 x (mr (mr (h))))))
    have hC := hC.trans hc32 (fun x h => .inr (e_i12 x h))
    have f32 := hO32.chg (M' := blkL ao32 ++ ([g26] ++ (M))) (Chg.refl [] _) (Ok.nil _ _) (Ok.app (fun _ h => .inl (ml h)) (Ok.to (Ok.app (fun _ h => .inl (ml h)) (fun _ h => .inl (mr (mr (h))))) (fun _ h => mr h))) (fun _ _ h => nomatch h) (fun _ h => ml h)
    refine seg ha 1 [(0, .slice ao1 a0.length cap1), (4, .slice ao32 (x13 ++ ([t24] : List (List Int))).length cap32), (5, .int .i64 x14)] (by kernel_rfl) fun a ha => ?_
    refine hK21 _ _ ?_; try clear hK21 K21
    refine wp_region_lit ?_
    refine seg ha 3 [(0, .slice ao1 a0.length cap1), (4, .slice ao32 (x13 ++ ([t24] : List (List Int))).length cap32), (5, .int .i64 (IntKind.i64.wrap (x14 + (8 : Int))))] (by kernel_rfl) fun a ha => ?_
    have o1 : Ok [] (blkL ao32 ++ ([g26] ++ (M))) w31.heap.size := Ok.nil _ _
    have o2 : Ok (blkL ao32 ++ (M)) (blkL ao32 ++ ([g26] ++ (M))) w31.heap.size := (Ok.app (fun _ h => .inl (ml h)) (fun _ h => .inl (mr (mr (h)))))
    have f1 := f1.chg (Chg.refl [] _) o1 o2
    have f32 := f32.chg (Chg.refl [] _) o1 o2 (fun _ _ h => nomatch h) (fun _ h => ml h)
    have hM : MS (blkL ao32 ++ (M)) w31 := (MS.app (fun x h => hM.chg (Chg.refl [] _) x (ml h)) (fun x h => hM.chg (Chg.refl [] _) x (mr (mr (h)))))
    exact ⟨kk, Nat.lt_succ_self _, ⟨(x13 ++ ([t24] : List (List Int))), IntKind.i64.wrap (x14 + (8 : Int)), ao32, cap32, H, (ha.sel (by kernel_rfl)), f1, f32, e_i32, p_i32_M, hC, hM⟩⟩
   ·have H := ite_f hc20 H
    refine wp_exit ?_
    simp only [Exit.then, Exit.inBlock, ↓reduceIte, Nat.reduceEqDiff]
    obtain rfl := Option.some.inj H
    exact J11 _ _ ao12 cap12 (ha.sel (by kernel_rfl)) f12 e_i12 p_i12_M hC hM
def vineryref04_Same.l0 (a0 : List (List Int)) (a1 : List (List Int)) : Nat → Int → Option ((Bool) ⊕ (Unit))
  | 0, _ => none
  | kk + 1, x11 => (if (decide (x11 < (a0.length : Int))) = true then (if 0 ≤ x11 ∧ x11 < (a0.length : Int) then (if 0 ≤ x11 ∧ x11 < (a1.length : Int) then (if (!(eqA 8 (rd a0 x11) (rd a1 x11))) = true then some (.inl ((false : Bool))) else vineryref04_Same.l0 a0 a1 kk (IntKind.i64.wrap (x11 + (1 : Int)))) else none) else none) else some (.inr (() : Unit)))
def vineryref04_Same.f (k : Nat) (a0 : List (List Int)) (a1 : List (List Int)) : Option (Bool) := (if ((a0.length : Int) != (a1.length : Int)) = true then some ((false : Bool)) else (vineryref04_Same.l0 a0 a1 k (0 : Int)).bind fun s10 => match s10 with | .inl r => some r | .inr s10' => some ((true : Bool)))
set_option maxRecDepth 100000 in
theorem vineryref04_Same.walk (w : World) (M : List Nat) (hM : MS M w) (a0 : List (List Int)) (ao1 : Option Addr) (cap1 : Nat) (f1 : RSl (rArr .u8 8) 27 w M ao1 cap1 a0) (a1 : List (List Int)) (ao2 : Option Addr) (cap2 : Nat) (f2 : RSl (rArr .u8 8) 27 w M ao2 cap2 a1) (k : Nat) (r : Bool) (H : vineryref04_Same.f k a0 a1 = some r) :
    To Tryz.prog 17 [.slice ao1 a0.length cap1, .slice ao2 a1.length cap2] w fun v w' => v = .bool r ∧ Chg [] w w' ∧ MS (M) w' := by
 unfold vineryref04_Same.f at H
 refine ent Tryz.func17 rfl [(0, .slice ao1 a0.length cap1), (1, .slice ao2 a1.length cap2)] rfl (by rfl) fun a ha => ?_
 have hC : Chg [] w w := Chg.refl _ _
 refine wp_seq_k fun K3 hK3 => ?_
 refine wp_region_lit ?_
 refine seg ha 1 [(0, .slice ao1 a0.length cap1), (1, .slice ao2 a1.length cap2)] (by kernel_rfl) fun a ha => ?_
 refine hK3 _ _ ?_; try clear hK3 K3
 refine wp_seq_k fun K4 hK4 => ?_
 refine wp_seq_k fun K5 hK5 => ?_
 refine wp_region_lit ?_
 refine seg ha 5 [(0, .slice ao1 a0.length cap1), (1, .slice ao2 a1.length cap2), (10, .bool ((a0.length : Int) != (a1.length : Int)))] (by kernel_rfl) fun a ha => ?_
 refine hK5 _ _ ?_; try clear hK5 K5
 refine cnd ha rfl (fun hc6 => ?_) (fun hc6 => ?_)
 ·have H := ite_t hc6 H
  refine wp_seq_k fun K7 hK7 => ?_
  refine wp_region_lit ?_
  refine seg ha 1 [(4, .bool false)] (by kernel_rfl) fun a ha => ?_
  refine hK7 _ _ ?_; try clear hK7 K7
  refine wp_ret ?_
  try simp only [Exit.then, Exit.inBlock]
  obtain rfl := Option.some.inj H
  refine rt1 ha rfl rfl ?_
  exact ⟨rfl, hC, hM⟩
 ·have H := ite_f hc6 H
  refine wp_skip ?_
  refine hK4 _ _ ?_; try clear hK4 K4
  refine wp_seq_k fun K8 hK8 => ?_
  refine wp_seq_k fun K9 hK9 => ?_
  refine wp_region_lit ?_
  refine seg ha 1 [(0, .slice ao1 a0.length cap1), (1, .slice ao2 a1.length cap2), (5, .int .i64 (0 : Int))] (by kernel_rfl) fun a ha => ?_
  refine hK9 _ _ ?_; try clear hK9 K9
  refine wp_block ?_
  obtain ⟨s10, H10, H⟩ := bind_some H
  have J10 : ∀ s10' (a : Act) (wx10 : World), s10 = .inr s10' → Has a Tryz.f17.ntmps [] → (Chg [] w wx10) → (MS (M) wx10) → K8 a wx10 := by
   intro s10' a wx10 hs ha hC hM
   subst hs
   refine hK8 _ _ ?_; try clear hK8 K8
   refine wp_seq_k fun K12 hK12 => ?_
   refine wp_region_lit ?_
   refine seg ha 1 [(4, .bool true)] (by kernel_rfl) fun a ha => ?_
   refine hK12 _ _ ?_; try clear hK12 K12
   refine wp_ret ?_
   try simp only [Exit.then, Exit.inBlock]
   obtain rfl := Option.some.inj H
   refine rt1 ha rfl rfl ?_
   exact ⟨rfl, hC, hM⟩
  have Hc10 := H
  have H := H10
  refine wp_loop_ghost (fun kk a w10 => ∃ (x11 : Int), vineryref04_Same.l0 a0 a1 kk x11 = some s10 ∧ Has a Tryz.f17.ntmps [(0, .slice ao1 a0.length cap1), (1, .slice ao2 a1.length cap2), (5, .int .i64 x11)] ∧ (RSl (rArr .u8 8) 27 w10 (M) ao1 cap1 a0) ∧ (RSl (rArr .u8 8) 27 w10 (M) ao2 cap2 a1) ∧ (Chg [] w w10) ∧ (MS (M) w10)) k ?_ ?_
  ·skip
   exact ⟨(0 : Int), H, (ha.sel (by kernel_rfl)), f1, f2, hC, hM⟩
  ·rintro kk a w10 ⟨x11, H, ha, f1, f2, hC, hM⟩
   obtain _ | kk := kk
   ·exact nomatch (show none = some _ from H)
   rw [vineryref04_Same.l0] at H
   refine wp_seq_k fun K13 hK13 => ?_
   refine wp_seq_k fun K14 hK14 => ?_
   refine wp_region_lit ?_
   refine seg ha 4 [(0, .slice ao1 a0.length cap1), (1, .slice ao2 a1.length cap2), (5, .int .i64 x11), (14, .bool (decide (x11 < (a0.length : Int))))] (by kernel_rfl) fun a ha => ?_
   refine hK14 _ _ ?_; try clear hK14 K14
   refine cnd ha rfl (fun hc15 => ?_) (fun hc15 => ?_)
   ·have H := ite_t hc15 H
    refine wp_skip ?_
    refine hK13 _ _ ?_; try clear hK13 K13
    refine wp_seq_k fun K16 hK16 => ?_
    refine wp_block ?_
    refine wp_seq_k fun K17 hK17 => ?_
    refine drq0 (fun w' => Chg [] w10 w') (by kernel_rfl) (by kernel_rfl) (fun _ h => h) ?_
    refine qp 0 (.slice ao1 a0.length cap1) ha rfl rfl rfl (by kernel_rfl) fun a ha => ?_
    refine qp 0 (.int .i64 x11) ha rfl rfl rfl (by kernel_rfl) fun a ha => ?_
    obtain ⟨⟨hx18, hx18'⟩, H⟩ := ite_some H
    obtain ⟨ge19, oe200, cs21, hx18eq, hn24, hR22, hE23⟩ := RSl.elem f1 (Int.toNat x11) (by omega)
    rw [rd_get] at hR22
    obtain rfl := hR22
    have hE23 : ∀ j v, (cA .u8 8 (rd a0 x11))[j]? = some v → w10.cell? ⟨ge19, (oe200 + (Int.toNat x11) * (rArr .u8 8).sz) + j, none⟩ = some v := hE23
    refine qv (v := .pointer (some ⟨ge19, (oe200 + (Int.toNat x11) * (rArr .u8 8).sz), none⟩)) ha rfl rfl rfl (fun w' hs => ix_run (r := (rArr .u8 8)) (T := 27) ha (by kernel_rfl) (by kernel_rfl) (by rfl) (by rfl) hx18eq hx18 hx18') fun a ha => ?_
    refine qv (v := .agg (cA .u8 8 (rd a0 x11)).toArray) ha rfl rfl rfl (fun w' hs => ldA_run (cs := (cA .u8 8 (rd a0 x11))) ha rfl (by kernel_rfl) (cells_sub (fun j v hv => hs.keep (hE23 j v hv)) (all := (cA .u8 8 (rd a0 x11))) [] [] (by kernel_rfl))) fun a ha => ?_
    refine qp 0 (.slice ao2 a1.length cap2) ha rfl rfl rfl (by kernel_rfl) fun a ha => ?_
    refine qp 0 (.int .i64 x11) ha rfl rfl rfl (by kernel_rfl) fun a ha => ?_
    obtain ⟨⟨hx25, hx25'⟩, H⟩ := ite_some H
    obtain ⟨ge26, oe270, cs28, hx25eq, hn31, hR29, hE30⟩ := RSl.elem f2 (Int.toNat x11) (by omega)
    rw [rd_get] at hR29
    obtain rfl := hR29
    have hE30 : ∀ j v, (cA .u8 8 (rd a1 x11))[j]? = some v → w10.cell? ⟨ge26, (oe270 + (Int.toNat x11) * (rArr .u8 8).sz) + j, none⟩ = some v := hE30
    refine qv (v := .pointer (some ⟨ge26, (oe270 + (Int.toNat x11) * (rArr .u8 8).sz), none⟩)) ha rfl rfl rfl (fun w' hs => ix_run (r := (rArr .u8 8)) (T := 27) ha (by kernel_rfl) (by kernel_rfl) (by rfl) (by rfl) hx25eq hx25 hx25') fun a ha => ?_
    refine qv (v := .agg (cA .u8 8 (rd a1 x11)).toArray) ha rfl rfl rfl (fun w' hs => ldA_run (cs := (cA .u8 8 (rd a1 x11))) ha rfl (by kernel_rfl) (cells_sub (fun j v hv => hs.keep (hE30 j v hv)) (all := (cA .u8 8 (rd a1 x11))) [] [] (by kernel_rfl))) fun a ha => ?_
    refine qv (v := .bool (!(eqA 8 (rd a0 x11) (rd a1 x11)))) ha rfl rfl rfl (fun w' hs => nes_run (r := (eqA 8 (rd a0 x11) (rd a1 x11))) (m := 9) ha rfl rfl (by kernel_rfl) rfl (by kernel_rfl) w') fun a ha => ?_
    refine wpQuiet_nil ?_
    intro w32 hc33
    have o1 : Ok [] (M) w10.heap.size := Ok.nil _ _
    have o2 : Ok (M) (M) w10.heap.size := (Ok.refl _ _)
    have f1 := f1.chg hc33 o1 o2
    have f2 := f2.chg hc33 o1 o2
    have q_hn24 : ge19 ∉ M := fun h => (o2 ge19 h).elim hn24 (fun h => absurd (lt_cell (hE23 0 _ rfl)) (Nat.not_lt.2 h))
    have hE23 : ∀ j v, (cA .u8 8 (rd a0 x11))[j]? = some v → w32.cell? ⟨ge19, (oe200 + (Int.toNat x11) * (rArr .u8 8).sz) + j, none⟩ = some v := fun j v hv => (cell_keep hc33 o1 hn24 (hE23 j v hv))
    have hn24 := q_hn24
    have q_hn31 : ge26 ∉ M := fun h => (o2 ge26 h).elim hn31 (fun h => absurd (lt_cell (hE30 0 _ rfl)) (Nat.not_lt.2 h))
    have hE30 : ∀ j v, (cA .u8 8 (rd a1 x11))[j]? = some v → w32.cell? ⟨ge26, (oe270 + (Int.toNat x11) * (rArr .u8 8).sz) + j, none⟩ = some v := fun j v hv => (cell_keep hc33 o1 hn31 (hE30 j v hv))
    have hn31 := q_hn31
    have hM : MS (M) w32 := (hM.chg hc33)
    have hC := hC.trans hc33 (Ok.nil _ _)
    refine wpl_end ?_
    refine hK17 _ _ ?_; try clear hK17 K17
    refine cnd ha rfl (fun hc34 => ?_) (fun hc34 => ?_)
    ·have H := ite_t hc34 H
     refine wp_seq_k fun K35 hK35 => ?_
     refine wp_region_lit ?_
     refine seg ha 1 [(4, .bool false)] (by kernel_rfl) fun a ha => ?_
     refine hK35 _ _ ?_; try clear hK35 K35
     refine wp_ret ?_
     try simp only [Exit.then, Exit.inBlock]
     obtain rfl := Option.some.inj H
     have H := (show some _ = some _ from Hc10)
     obtain rfl := Option.some.inj H
     refine rt1 ha rfl rfl ?_
     exact ⟨rfl, hC, hM⟩
    ·have H := ite_f hc34 H
     refine wp_skip ?_
     refine hK16 _ _ ?_; try clear hK16 K16
     refine wp_region_lit ?_
     refine seg ha 3 [(0, .slice ao1 a0.length cap1), (1, .slice ao2 a1.length cap2), (5, .int .i64 (IntKind.i64.wrap (x11 + (1 : Int))))] (by kernel_rfl) fun a ha => ?_
     exact ⟨kk, Nat.lt_succ_self _, ⟨IntKind.i64.wrap (x11 + (1 : Int)), H, (ha.sel (by kernel_rfl)), f1, f2, hC, hM⟩⟩
   ·have H := ite_f hc15 H
    refine wp_exit ?_
    simp only [Exit.then, Exit.inBlock, ↓reduceIte, Nat.reduceEqDiff]
    obtain rfl := Option.some.inj H
    exact J10 _ _ _ rfl (ha.sel (by kernel_rfl)) hC hM

theorem Kept.go (w : World) (M : List Nat) (hM : MS M w) (a0 : List Int) (g : Nat) (hB : Box w g (a0.map (.int .u8) ++ [.int .u8 77])) (hl : a0.length ≤ 281474976710655) (a1 : List Int) (ao1 : Option Addr) (cap1 : Nat) (f1 : RSl (rInt .u8) 5 w M ao1 cap1 a1) :
    To Tryz.prog 22 [.slice (some ⟨g, 0, none⟩) a0.length (a0.length + 1), .slice ao1 a1.length cap1] w fun v w' => v = .bool ((bstr (b2s a0)).toList == (bstr (b2s a1)).toList) ∧ Chg [] w w' ∧ MS M w' := by
  have hmax : maxLen = 9223372036854775807 := rfl
  have f0 : RSl (rInt .u8) 5 w [] (some ⟨g, 0, none⟩) (a0.length + 1) a0 := Box.bytes hB (by simp) (by omega) (by omega)
  refine ent Tryz.func22 rfl [(0, .slice (some ⟨g, 0, none⟩) a0.length (a0.length + 1)), (1, .slice ao1 a1.length cap1)] rfl rfl fun a ha => ?_
  refine wp_seq_k fun K hK => ?_
  refine wp_region_lit ?_
  refine seg ha 1 [(0, .slice (some ⟨g, 0, none⟩) a0.length (a0.length + 1)), (1, .slice ao1 a1.length cap1)] (by kernel_rfl) fun a ha => ?_
  refine hK _ _ ?_; clear hK K
  refine wp_seq_k fun K hK => ?_
  refine wp_region_lit ?_
  refine seg ha 1 [(0, .slice (some ⟨g, 0, none⟩) a0.length (a0.length + 1)), (1, .slice ao1 a1.length cap1), (5, .slice (some ⟨g, 0, none⟩) a0.length (a0.length + 1))] (by kernel_rfl) fun a ha => ?_
  refine cvs ha rfl (by kernel_rfl) (by kernel_rfl) (by kernel_rfl) rfl rfl rfl f0 fun a ha => ?_
  refine seg ha 1 [(0, .slice (some ⟨g, 0, none⟩) a0.length (a0.length + 1)), (1, .slice ao1 a1.length cap1), (6, .string (bstr (b2s a0))), (7, .slice ao1 a1.length cap1)] (by kernel_rfl) fun a ha => ?_
  refine cvs ha rfl (by kernel_rfl) (by kernel_rfl) (by kernel_rfl) rfl rfl rfl f1 fun a ha => ?_
  refine seg ha 2 [(10, .bool ((bstr (b2s a0)).toList == (bstr (b2s a1)).toList)), (0, .slice (some ⟨g, 0, none⟩) a0.length (a0.length + 1)), (1, .slice ao1 a1.length cap1)] (by kernel_rfl) fun a ha => ?_
  rcases Bool.eq_false_or_eq_true ((bstr (b2s a0)).toList == (bstr (b2s a1)).toList) with hb | hb
  · have ha := ha.lit hb
    have hlen : a0.length = a1.length := by
      have h1 := eq_of_beq hb
      rw [ByteArray.toList_eq, ByteArray.toList_eq] at h1
      have := congrArg List.length h1
      simpa [bstr, b2s] using this
    have e8 : IntKind.i64.wrap ((a1.length : Int) + 1) = ((a1.length + 1 : Nat) : Int) := by rw [IntKind.wrap_i64]; omega
    refine sgh ha 4 [2, 2, 2, 2] [(10, .bool true), (1, .slice ao1 a1.length cap1), (11, .slice (some ⟨g, 0, none⟩) a0.length (a0.length + 1)), (14, .int .i64 (IntKind.i64.wrap ((a1.length : Int) + 1)))] (by kernel_rfl) fun a ha => ?_
    rw [e8] at ha
    refine slx (T := 5) (s := 1) ha (by kernel_rfl) (by kernel_rfl) rfl rfl (by omega) rfl rfl rfl fun a ha => ?_
    refine sgh ha 2 [2, 2] [(10, .bool true), (15, .slice (some ⟨g, 0, none⟩) (a1.length + 1) (a0.length + 1)), (17, .int .i64 a1.length)] (by kernel_rfl) fun a ha => ?_
    have hl2 : (List.replicate (a1.length + 1) (0 : Int)).length = a1.length + 1 := by simp
    refine hop (v := .pointer (some ⟨g, 0 + Int.toNat (a1.length : Int) * (rInt .u8).sz, none⟩)) (w' := w) ha rfl rfl rfl (ix_run (r := rInt .u8) (T := 5) (xs := List.replicate (a1.length + 1) (0 : Int)) (k := .i64) (i := (a1.length : Int)) ha (by kernel_rfl) (by kernel_rfl) (by rw [hl2]; rfl) rfl rfl (by omega) (by rw [hl2]; omega)) fun a ha => ?_
    refine ld (v := .int .u8 77) ha rfl (by kernel_rfl) rfl rfl rfl (hB.cell' (o := a0.length) (by simp [rInt, hlen]) (by rw [List.getElem?_append_right (by simp)]; simp)) fun a ha => ?_
    refine sgh ha 3 [2, 3, 0] [(4, .bool ((77 : Int) == 77))] (by kernel_rfl) fun a ha => ?_
    refine hK _ _ ?_; clear hK K
    refine wp_ret ?_
    refine rt1 ha rfl rfl ⟨?_, Chg.refl _ _, hM⟩
    rw [hb]; rfl
  · have ha := ha.lit hb
    refine sgh ha 12 [1, 1, 1, 1, 1, 1, 1, 1, 1, 1, 4, 0] [(4, .bool false)] (by kernel_rfl) fun a ha => ?_
    refine hK _ _ ?_; clear hK K
    refine wp_ret ?_
    refine rt1 ha rfl rfl ⟨?_, Chg.refl _ _, hM⟩
    rw [hb]
def Kept.f (a0 a1 : List Int) : Option Bool := some ((bstr (b2s a0)).toList == (bstr (b2s a1)).toList)
theorem Kept.walk (w : World) (M : List Nat) (hM : MS M w) (a0 : List Int) (ao0 : Option Addr) (cap0 : Nat) {M1 : List Nat} (f0 : Len w M1 ao0 cap0 a0) (a1 : List Int) (ao1 : Option Addr) (cap1 : Nat) (f1 : RSl (rInt .u8) 5 w M ao1 cap1 a1) (r : Bool) (H : Kept.f a0 a1 = some r) :
    To Tryz.prog 22 [.slice ao0 a0.length cap0, .slice ao1 a1.length cap1] w fun v w' => v = .bool r ∧ Chg [] w w' ∧ MS M w' := by
  obtain ⟨g, rfl, _, rfl, hl, hB⟩ := f0
  obtain rfl := Option.some.inj H
  exact Kept.go w M hM a0 g hB hl a1 ao1 cap1 f1

def vineryref04_Set.l1 (a0 : List (List Int)) (x8 : List (List Int)) (x9 : Int) : Nat → Int → Option (Int)
  | 0, _ => none
  | kk + 1, x20 => ((if (decide (x20 < (x8.length : Int))) = true then (if 0 ≤ x20 ∧ x20 < (x8.length : Int) then (if 0 ≤ x9 ∧ x9 < (a0.length : Int) then some (Op.bytesLess (bstr (b2s (arL 8 (rd x8 x20)))).toList (bstr (b2s (arL 8 (rd a0 x9)))).toList : Bool) else none) else none) else some (false : Bool))).bind fun s74 => (if s74 = true then vineryref04_Set.l1 a0 x8 x9 kk (IntKind.i64.wrap (x20 + (1 : Int))) else some (x20 : Int))
def vineryref04_Set.l0 (k : Nat) (a0 : List (List Int)) : Nat → (List (List Int)) → Int → Option (List (List Int))
  | 0, _, _ => none
  | kk + 1, x8, x9 => (if (decide (x9 < (a0.length : Int))) = true then (vineryref04_Set.l1 a0 x8 x9 k (0 : Int)).bind fun s19 => ((if (decide (s19 < (x8.length : Int))) = true then (if 0 ≤ s19 ∧ s19 < (x8.length : Int) then (if 0 ≤ x9 ∧ x9 < (a0.length : Int) then some ((eqA 8 (rd x8 s19) (rd a0 x9)) : Bool) else none) else none) else some (false : Bool))).bind fun s23 => (if s23 = true then vineryref04_Set.l0 k a0 kk x8 (IntKind.i64.wrap (x9 + (1 : Int))) else (if 0 ≤ (0 : Int) ∧ (0 : Int) ≤ s19 ∧ s19 ≤ (x8.length : Int) then (if (([] : List (List Int)).length + ((x8.take (Int.toNat s19)).drop (Int.toNat (0 : Int))).length) * 8 ≤ 140737488355328 then (if 0 ≤ x9 ∧ x9 < (a0.length : Int) then (if ((([] : List (List Int)) ++ ((x8.take (Int.toNat s19)).drop (Int.toNat (0 : Int)))).length + ([rd a0 x9] : List (List Int)).length) * 8 ≤ 140737488355328 then (if 0 ≤ s19 ∧ s19 ≤ (x8.length : Int) ∧ (x8.length : Int) ≤ (x8.length : Int) then (if (((([] : List (List Int)) ++ ((x8.take (Int.toNat s19)).drop (Int.toNat (0 : Int)))) ++ ([rd a0 x9] : List (List Int))).length + ((x8.take (Int.toNat (x8.length : Int))).drop (Int.toNat s19)).length) * 8 ≤ 140737488355328 then vineryref04_Set.l0 k a0 kk (((([] : List (List Int)) ++ ((x8.take (Int.toNat s19)).drop (Int.toNat (0 : Int)))) ++ ([rd a0 x9] : List (List Int))) ++ ((x8.take (Int.toNat (x8.length : Int))).drop (Int.toNat s19))) (IntKind.i64.wrap (x9 + (1 : Int))) else none) else none) else none) else none) else none) else none)) else some (x8 : List (List Int)))
def vineryref04_Set.f (k : Nat) (a0 : List (List Int)) : Option (List (List Int)) := (vineryref04_Set.l0 k a0 k ([] : List (List Int)) (0 : Int)).bind fun s6 => some ((s6 : List (List Int)))
set_option maxRecDepth 100000 in
theorem vineryref04_Set.walk (w : World) (M : List Nat) (hM : MS M w) (a0 : List (List Int)) (ao1 : Option Addr) (cap1 : Nat) (f1 : RSl (rArr .u8 8) 27 w M ao1 cap1 a0) (k : Nat) (r : List (List Int)) (H : vineryref04_Set.f k a0 = some r) :
    To Tryz.prog 23 [.slice ao1 a0.length cap1] w fun v w' => ∃ (ao97 : Option Addr) (cap97 : Nat), v = .slice ao97 r.length cap97 ∧ (Own (rArr .u8 8) 27 w' (blkL ao97 ++ (M)) ao97 cap97 r) ∧ (∀ x ∈ blkL ao97, w.heap.size ≤ x) ∧ Chg [] w w' ∧ MS (blkL ao97 ++ (M)) w' := by
 unfold vineryref04_Set.f at H
 refine ent Tryz.func23 rfl [(0, .slice ao1 a0.length cap1)] rfl (by rfl) fun a ha => ?_
 have hC : Chg [] w w := Chg.refl _ _
 refine wp_seq_k fun K2 hK2 => ?_
 refine wp_region_lit ?_
 refine seg ha 1 [(0, .slice ao1 a0.length cap1)] (by kernel_rfl) fun a ha => ?_
 refine hK2 _ _ ?_; try clear hK2 K2
 refine wp_seq_k fun K3 hK3 => ?_
 refine wp_region_lit ?_
 refine seg ha 1 [(0, .slice ao1 a0.length cap1), (3, .slice none 0 0)] (by kernel_rfl) fun a ha => ?_
 refine hK3 _ _ ?_; try clear hK3 K3
 refine wp_seq_k fun K4 hK4 => ?_
 refine wp_seq_k fun K5 hK5 => ?_
 refine wp_region_lit ?_
 refine seg ha 1 [(0, .slice ao1 a0.length cap1), (3, .slice none 0 0), (4, .int .i64 (0 : Int))] (by kernel_rfl) fun a ha => ?_
 refine hK5 _ _ ?_; try clear hK5 K5
 refine wp_block ?_
 obtain ⟨s6, H6, H⟩ := bind_some H
 have J6 : ∀ (a : Act) (wx6 : World) (ao10 : Option Addr) (cap10 : Nat), Has a Tryz.f23.ntmps [(3, .slice ao10 s6.length cap10)] → (Own (rArr .u8 8) 27 wx6 (blkL ao10 ++ (M)) ao10 cap10 s6) → (∀ x ∈ blkL ao10, w.heap.size ≤ x) → (∀ x ∈ blkL ao10, x ∉ M) → (Chg [] w wx6) → (MS (blkL ao10 ++ (M)) wx6) → K4 a wx6 := by
  intro a wx6 ao10 cap10 ha f10 e_i10 p_i10_M hC hM
  refine hK4 _ _ ?_; try clear hK4 K4
  refine wp_seq_k fun K11 hK11 => ?_
  refine wp_region_lit ?_
  refine seg ha 2 [(2, .slice ao10 s6.length cap10)] (by kernel_rfl) fun a ha => ?_
  refine hK11 _ _ ?_; try clear hK11 K11
  refine wp_ret ?_
  try simp only [Exit.then, Exit.inBlock]
  obtain rfl := Option.some.inj H
  refine rt1 ha rfl rfl ?_
  exact ⟨ao10, cap10, rfl, f10, e_i10, hC, hM⟩
 have Hc6 := H
 have H := H6
 refine wp_loop_ghost (fun kk a w6 => ∃ (x8 : List (List Int)) (x9 : Int) (ao7 : Option Addr) (cap7 : Nat), vineryref04_Set.l0 k a0 kk x8 x9 = some s6 ∧ Has a Tryz.f23.ntmps [(0, .slice ao1 a0.length cap1), (3, .slice ao7 x8.length cap7), (4, .int .i64 x9)] ∧ (RSl (rArr .u8 8) 27 w6 (blkL ao7 ++ (M)) ao1 cap1 a0) ∧ (Own (rArr .u8 8) 27 w6 (blkL ao7 ++ (M)) ao7 cap7 x8) ∧ (∀ x ∈ blkL ao7, w.heap.size ≤ x) ∧ (∀ x ∈ blkL ao7, x ∉ M) ∧ (Chg [] w w6) ∧ (MS (blkL ao7 ++ (M)) w6)) k ?_ ?_
 ·skip
  have o1 : Ok [] (M) w.heap.size := Ok.nil _ _
  have o2 : Ok (blkL none ++ (M)) (M) w.heap.size := (Ok.app (fun _ h => nomatch h) (Ok.refl _ _))
  have f1 := f1.chg (Chg.refl [] _) o1 o2
  have p_z12_M : ∀ x ∈ blkL none, x ∉ M := fun x hx hy => absurd (hM x (hy)) (Nat.not_lt.2 ((fun _ h => nomatch h) x hx))
  have e_z12 : ∀ x ∈ blkL none, w.heap.size ≤ x := fun x hx => Nat.le_trans hC.size ((fun _ h => nomatch h) x hx)
  have hM : MS (blkL none ++ (M)) w := (MS.app (fun _ h => nomatch h) (hM.chg (Chg.refl [] _)))
  exact ⟨([] : List (List Int)), (0 : Int), none, 0, H, (ha.sel (by kernel_rfl)), f1, Own.nil, e_z12, p_z12_M, hC, hM⟩
 ·rintro kk a w6 ⟨x8, x9, ao7, cap7, H, ha, f1, f7, e_i7, p_i7_M, hC, hM⟩
  obtain _ | kk := kk
  ·exact nomatch (show none = some _ from H)
  rw [vineryref04_Set.l0] at H
  refine wp_seq_k fun K13 hK13 => ?_
  refine wp_seq_k fun K14 hK14 => ?_
  refine wp_region_lit ?_
  refine seg ha 4 [(0, .slice ao1 a0.length cap1), (3, .slice ao7 x8.length cap7), (4, .int .i64 x9), (10, .bool (decide (x9 < (a0.length : Int))))] (by kernel_rfl) fun a ha => ?_
  refine hK14 _ _ ?_; try clear hK14 K14
  refine cnd ha rfl (fun hc15 => ?_) (fun hc15 => ?_)
  ·have H := ite_t hc15 H
   refine wp_skip ?_
   refine hK13 _ _ ?_; try clear hK13 K13
   refine wp_seq_k fun K16 hK16 => ?_
   refine wp_block ?_
   refine wp_seq_k fun K17 hK17 => ?_
   refine wp_region_lit ?_
   refine seg ha 1 [(0, .slice ao1 a0.length cap1), (3, .slice ao7 x8.length cap7), (4, .int .i64 x9), (5, .int .i64 (0 : Int))] (by kernel_rfl) fun a ha => ?_
   refine hK17 _ _ ?_; try clear hK17 K17
   refine wp_seq_k fun K18 hK18 => ?_
   refine wp_block ?_
   obtain ⟨s19, H19, H⟩ := bind_some H
   have J19 : ∀ (a : Act) (wx19 : World), Has a Tryz.f23.ntmps [(0, .slice ao1 a0.length cap1), (3, .slice ao7 x8.length cap7), (4, .int .i64 x9), (5, .int .i64 s19)] → (RSl (rArr .u8 8) 27 wx19 (blkL ao7 ++ (M)) ao1 cap1 a0) → (Own (rArr .u8 8) 27 wx19 (blkL ao7 ++ (M)) ao7 cap7 x8) → (Chg [] w wx19) → (MS (blkL ao7 ++ (M)) wx19) → K18 a wx19 := by
    intro a wx19 ha f1 f7 hC hM
    refine hK18 _ _ ?_; try clear hK18 K18
    refine wp_seq_k fun K21 hK21 => ?_
    refine wp_seq_k fun K22 hK22 => ?_
    refine drq0 (fun w' => Chg [] wx19 w') (by kernel_rfl) (by kernel_rfl) (fun _ h => h) ?_
    obtain ⟨s23, H23, H⟩ := bind_some H
    have J23 : ∀ (a : Act) (w23 : World), Has a Tryz.f23.ntmps [(0, .slice ao1 a0.length cap1), (3, .slice ao7 x8.length cap7), (4, .int .i64 x9), (5, .int .i64 s19), (46, .bool s23)] → (RSl (rArr .u8 8) 27 w23 (blkL ao7 ++ (M)) ao1 cap1 a0) → (Own (rArr .u8 8) 27 w23 (blkL ao7 ++ (M)) ao7 cap7 x8) → (Chg [] w w23) → (MS (blkL ao7 ++ (M)) w23) → K22 a w23 := by
     intro a w23 ha f1 f7 hC hM
     refine hK22 _ _ ?_; try clear hK22 K22
     refine cnd ha rfl (fun hc24 => ?_) (fun hc24 => ?_)
     ·have H := ite_t hc24 H
      refine wp_exit ?_
      simp only [Exit.then, Exit.inBlock, ↓reduceIte, Nat.reduceEqDiff]
      refine hK16 _ _ ?_; try clear hK16 K16
      refine wp_region_lit ?_
      refine seg ha 3 [(0, .slice ao1 a0.length cap1), (3, .slice ao7 x8.length cap7), (4, .int .i64 (IntKind.i64.wrap (x9 + (1 : Int))))] (by kernel_rfl) fun a ha => ?_
      exact ⟨kk, Nat.lt_succ_self _, ⟨x8, IntKind.i64.wrap (x9 + (1 : Int)), ao7, cap7, H, (ha.sel (by kernel_rfl)), f1, f7, e_i7, p_i7_M, hC, hM⟩⟩
     ·have H := ite_f hc24 H
      refine wp_skip ?_
      refine hK21 _ _ ?_; try clear hK21 K21
      refine wp_seq_k fun K25 hK25 => ?_
      refine wp_region_lit ?_
      refine seg ha 1 [(0, .slice ao1 a0.length cap1), (3, .slice ao7 x8.length cap7), (4, .int .i64 x9), (5, .int .i64 s19), (6, .slice none 0 0)] (by kernel_rfl) fun a ha => ?_
      refine hK25 _ _ ?_; try clear hK25 K25
      refine wp_seq_k fun K26 hK26 => ?_
      refine wp_region_lit ?_
      refine seg ha 3 [(0, .slice ao1 a0.length cap1), (3, .slice ao7 x8.length cap7), (4, .int .i64 x9), (5, .int .i64 s19), (47, .slice none 0 0), (48, .slice ao7 x8.length cap7), (49, .int .i64 s19)] (by kernel_rfl) fun a ha => ?_
      obtain ⟨⟨hx27, hx27', hx27''⟩, H⟩ := ite_some H
      have fz := f7.toRSl (M' := M) (fun _ h => .inl (mr (h))) (fun x hx hm => p_i7_M x hx hm)
      have o1 : Ok [] (blkL ao7 ++ (M)) w23.heap.size := Ok.nil _ _
      have o2 : Ok (M) (blkL ao7 ++ (M)) w23.heap.size := (fun _ h => .inl (mr (h)))
      have f1 := f1.chg (Chg.refl [] _) o1 o2
      have hM : MS (M) w23 := (fun x h => hM.chg (Chg.refl [] _) x (mr (h)))
      have f7 := fz
      refine slc (r := (rArr .u8 8)) (l := (0 : Int)) (h := s19) ha (by kernel_rfl) (by kernel_rfl) rfl rfl rfl rfl rfl rfl f7 hx27 hx27' hx27'' fun a ao28 cap28 f28 ha => ?_
      obtain ⟨hx29, H⟩ := ite_some H
      refine app (r := (rArr .u8 8)) (xs := ([] : List (List Int))) (ys := ((x8.take (Int.toNat s19)).drop (Int.toNat (0 : Int)))) ha (ElemT.mk' (bytes := 8) (by kernel_rfl)) rfl rfl rfl rfl rfl Own.nil f28.src hx29 (by decide) fun a w30 ao31 cap31 hO31 hc31 hk31 hl31 ha => ?_
      have o1 : Ok [] (M) w23.heap.size := Ok.nil _ _
      have o2 : Ok (blkL ao31 ++ (M)) (M) w23.heap.size := (Ok.app (Ok.to hk31 (fun _ h => nomatch h)) (Ok.refl _ _))
      have f1 := f1.chg hc31 o1 o2
      have f7 := f7.chg hc31 o1 o2
      have f28 := f28.chg hc31 o1 o2
      have p_i31_M : ∀ x ∈ blkL ao31, x ∉ M := fun x hx hy => absurd (hM x (hy)) (Nat.not_lt.2 ((fun x h => (hk31 x h).elim (fun h => nomatch h) id) x hx))
      have e_i31 : ∀ x ∈ blkL ao31, w.heap.size ≤ x := fun x hx => Nat.le_trans hC.size ((fun x h => (hk31 x h).elim (fun h => nomatch h) id) x hx)
      have hM : MS (blkL ao31 ++ (M)) w30 := (MS.app hl31 (hM.chg hc31))
      have hC := hC.trans hc31 (Ok.nil _ _)
      have f31 := hO31.chg (M' := blkL ao31 ++ (M)) (Chg.refl [] _) (Ok.nil _ _) (Ok.app (fun _ h => .inl (ml h)) (Ok.to (Ok.refl _ _) (fun _ h => mr h))) (fun _ _ h => nomatch h) (fun _ h => ml h)
      refine seg ha 1 [(0, .slice ao1 a0.length cap1), (3, .slice ao7 x8.length cap7), (4, .int .i64 x9), (5, .int .i64 s19), (6, .slice ao31 (([] : List (List Int)) ++ ((x8.take (Int.toNat s19)).drop (Int.toNat (0 : Int)))).length cap31)] (by kernel_rfl) fun a ha => ?_
      refine hK26 _ _ ?_; try clear hK26 K26
      refine wp_seq_k fun K32 hK32 => ?_
      refine wp_region_lit ?_
      refine seg ha 3 [(0, .slice ao1 a0.length cap1), (3, .slice ao7 x8.length cap7), (4, .int .i64 x9), (5, .int .i64 s19), (52, .slice ao31 (([] : List (List Int)) ++ ((x8.take (Int.toNat s19)).drop (Int.toNat (0 : Int)))).length cap31), (53, .slice ao1 a0.length cap1), (54, .int .i64 x9)] (by kernel_rfl) fun a ha => ?_
      obtain ⟨⟨hx33, hx33'⟩, H⟩ := ite_some H
      refine ix (r := (rArr .u8 8)) ha (by kernel_rfl) (by kernel_rfl) rfl rfl rfl rfl rfl f1 hx33 hx33' fun a ge34 oe35 cs36 hn39 hR37 hE38 ha => ?_
      rw [rd_get] at hR37
      obtain rfl := hR37
      have hE38 : ∀ j v, (cA .u8 8 (rd a0 x9))[j]? = some v → w30.cell? ⟨ge34, oe35 + j, none⟩ = some v := hE38
      refine ldA (cs := (cA .u8 8 (rd a0 x9))) ha rfl (by kernel_rfl) rfl rfl rfl (cells_sub hE38 (all := (cA .u8 8 (rd a0 x9))) [] [] (by kernel_rfl)) fun a ha => ?_
      refine bslA (vals := ([.agg (cA .u8 8 (rd a0 x9)).toArray] : List Value)) (T := 27) (z := .agg (cA .u8 8 (List.replicate 8 (0 : Int))).toArray) ha rfl (by kernel_rfl) rfl (by kernel_rfl) (s := 8) (by kernel_rfl) rfl rfl (fun w => by kernel_rfl) (by kernel_rfl) rfl rfl rfl fun a w40 g41 hN42 ha => ?_
      have hN42 := (show New _ _ _ (.cells (((cA .u8 8 (rd a0 x9)) ++ ([] : List Value))).toArray 27 (0, 0)) from hN42)
      have o1 : Ok [] (blkL ao31 ++ (M)) w30.heap.size := Ok.nil _ _
      have o2 : Ok ([g41] ++ (blkL ao31 ++ (M))) (blkL ao31 ++ (M)) w30.heap.size := (Ok.app (hN42.ok _) (Ok.refl _ _))
      have f1 := f1.chg hN42.chg o1 o2
      have f7 := f7.chg hN42.chg o1 o2
      have f31 := f31.chg hN42.chg o1 o2 (fun _ _ h => nomatch h) (fun _ h => mr (ml h))
      have p_i43_i31 : ∀ x ∈ [g41], x ∉ (blkL ao31) := fun x hx hy => absurd (hM x (ml hy)) (Nat.not_lt.2 ((hN42.ge1) x hx))
      have p_i43_M : ∀ x ∈ [g41], x ∉ M := fun x hx hy => absurd (hM x (mr (hy))) (Nat.not_lt.2 ((hN42.ge1) x hx))
      have e_i43 : ∀ x ∈ [g41], w.heap.size ≤ x := fun x hx => Nat.le_trans hC.size ((hN42.ge1) x hx)
      have hM : MS ([g41] ++ (blkL ao31 ++ (M))) w40 := (MS.app hN42.ms (hM.chg hN42.chg))
      have hC := hC.trans hN42.chg (Ok.nil _ _)
      have f44 : Own (rArr .u8 8) 27 w40 ([g41] ++ (blkL ao31 ++ (M))) (some ⟨g41, 0, none⟩) 1 ([rd a0 x9] : List (List Int)) := hN42.own ⟨(cA .u8 8 (rd a0 x9)), _, rfl, rfl, rfl⟩ (Nat.le_of_ble_eq_true rfl)
      obtain ⟨hx45, H⟩ := ite_some H
      refine app (r := (rArr .u8 8)) (xs := (([] : List (List Int)) ++ ((x8.take (Int.toNat s19)).drop (Int.toNat (0 : Int))))) (ys := ([rd a0 x9] : List (List Int))) ha (ElemT.mk' (bytes := 8) (by kernel_rfl)) rfl rfl rfl rfl rfl f31 f44.src hx45 (by decide) fun a w46 ao47 cap47 hO47 hc47 hk47 hl47 ha => ?_
      have o1 : Ok (blkL ao31) ([g41] ++ (blkL ao31 ++ (M))) w40.heap.size := (fun _ h => .inl (mr (ml h)))
      have o2 : Ok (blkL ao47 ++ ([g41] ++ (M))) ([g41] ++ (blkL ao31 ++ (M))) w40.heap.size := (Ok.app (Ok.to hk47 (fun _ h => mr (ml h))) (Ok.app (fun _ h => .inl (ml h)) (fun _ h => .inl (mr (mr (h))))))
      have f1 := f1.chg hc47 o1 o2
      have f7 := f7.chg hc47 o1 o2
      have f44 := f44.chg hc47 o1 o2 p_i43_i31 (fun _ h => mr (ml h))
      have p_i47_i43 : ∀ x ∈ blkL ao47, x ∉ ([g41]) := fun x hx hy => (hk47 x hx).elim (fun h => (fun x hx hy => p_i43_i31 x hy hx) x h hy) (fun h => absurd (hM x (ml hy)) (Nat.not_lt.2 h))
      have p_i47_M : ∀ x ∈ blkL ao47, x ∉ M := fun x hx hy => (hk47 x hx).elim (fun h => p_i31_M x h hy) (fun h => absurd (hM x (mr (mr (hy)))) (Nat.not_lt.2 h))
      have e_i47 : ∀ x ∈ blkL ao47, w.heap.size ≤ x := fun x hx => (hk47 x hx).elim (e_i31 x) (Nat.le_trans hC.size)
      have hM : MS (blkL ao47 ++ ([g41] ++ (M))) w46 := (MS.app hl47 (MS.app (fun x h => hM.chg hc47 x (ml h)) (fun x h => hM.chg hc47 x (mr (mr (h))))))
      have hC := hC.trans hc47 (fun x h => .inr (e_i31 x h))
      have f47 := hO47.chg (M' := blkL ao47 ++ ([g41] ++ (M))) (Chg.refl [] _) (Ok.nil _ _) (Ok.app (fun _ h => .inl (ml h)) (Ok.to (Ok.app (fun _ h => .inl (ml h)) (fun _ h => .inl (mr (mr (h))))) (fun _ h => mr h))) (fun _ _ h => nomatch h) (fun _ h => ml h)
      refine seg ha 1 [(0, .slice ao1 a0.length cap1), (3, .slice ao7 x8.length cap7), (4, .int .i64 x9), (5, .int .i64 s19), (6, .slice ao47 ((([] : List (List Int)) ++ ((x8.take (Int.toNat s19)).drop (Int.toNat (0 : Int)))) ++ ([rd a0 x9] : List (List Int))).length cap47)] (by kernel_rfl) fun a ha => ?_
      refine hK32 _ _ ?_; try clear hK32 K32
      refine wp_region_lit ?_
      refine seg ha 3 [(0, .slice ao1 a0.length cap1), (4, .int .i64 x9), (59, .slice ao47 ((([] : List (List Int)) ++ ((x8.take (Int.toNat s19)).drop (Int.toNat (0 : Int)))) ++ ([rd a0 x9] : List (List Int))).length cap47), (60, .slice ao7 x8.length cap7), (61, .int .i64 s19)] (by kernel_rfl) fun a ha => ?_
      obtain ⟨⟨hx48, hx48', hx48''⟩, H⟩ := ite_some H
      refine slc (r := (rArr .u8 8)) (l := s19) (h := (x8.length : Int)) ha (by kernel_rfl) (by kernel_rfl) rfl rfl rfl rfl rfl rfl f7 hx48 hx48' hx48'' fun a ao49 cap49 f49 ha => ?_
      obtain ⟨hx50, H⟩ := ite_some H
      refine app (r := (rArr .u8 8)) (xs := ((([] : List (List Int)) ++ ((x8.take (Int.toNat s19)).drop (Int.toNat (0 : Int)))) ++ ([rd a0 x9] : List (List Int)))) (ys := ((x8.take (Int.toNat (x8.length : Int))).drop (Int.toNat s19))) ha (ElemT.mk' (bytes := 8) (by kernel_rfl)) rfl rfl rfl rfl rfl f47 f49.src hx50 (by decide) fun a w51 ao52 cap52 hO52 hc52 hk52 hl52 ha => ?_
      have o1 : Ok (blkL ao47) (blkL ao47 ++ ([g41] ++ (M))) w46.heap.size := (fun _ h => .inl (ml h))
      have o2 : Ok (blkL ao52 ++ ([g41] ++ (M))) (blkL ao47 ++ ([g41] ++ (M))) w46.heap.size := (Ok.app (Ok.to hk52 (fun _ h => ml h)) (fun _ h => .inl (mr (h))))
      have f1 := f1.chg hc52 o1 o2
      have f49 := f49.chg hc52 o1 o2
      have p_i52_i43 : ∀ x ∈ blkL ao52, x ∉ ([g41]) := fun x hx hy => (hk52 x hx).elim (fun h => p_i47_i43 x h hy) (fun h => absurd (hM x (mr (ml hy))) (Nat.not_lt.2 h))
      have p_i52_M : ∀ x ∈ blkL ao52, x ∉ M := fun x hx hy => (hk52 x hx).elim (fun h => p_i47_M x h hy) (fun h => absurd (hM x (mr (mr (hy)))) (Nat.not_lt.2 h))
      have e_i52 : ∀ x ∈ blkL ao52, w.heap.size ≤ x := fun x hx => (hk52 x hx).elim (e_i47 x) (Nat.le_trans hC.size)
      have hM : MS (blkL ao52 ++ ([g41] ++ (M))) w51 := (MS.app hl52 (fun x h => hM.chg hc52 x (mr (h))))
      have hC := hC.trans hc52 (fun x h => .inr (e_i47 x h))
      have f52 := hO52.chg (M' := blkL ao52 ++ ([g41] ++ (M))) (Chg.refl [] _) (Ok.nil _ _) (Ok.app (fun _ h => .inl (ml h)) (Ok.to (fun _ h => .inl (mr (h))) (fun _ h => mr h))) (fun _ _ h => nomatch h) (fun _ h => ml h)
      refine seg ha 1 [(0, .slice ao1 a0.length cap1), (3, .slice ao52 (((([] : List (List Int)) ++ ((x8.take (Int.toNat s19)).drop (Int.toNat (0 : Int)))) ++ ([rd a0 x9] : List (List Int))) ++ ((x8.take (Int.toNat (x8.length : Int))).drop (Int.toNat s19))).length cap52), (4, .int .i64 x9)] (by kernel_rfl) fun a ha => ?_
      refine hK16 _ _ ?_; try clear hK16 K16
      refine wp_region_lit ?_
      refine seg ha 3 [(0, .slice ao1 a0.length cap1), (3, .slice ao52 (((([] : List (List Int)) ++ ((x8.take (Int.toNat s19)).drop (Int.toNat (0 : Int)))) ++ ([rd a0 x9] : List (List Int))) ++ ((x8.take (Int.toNat (x8.length : Int))).drop (Int.toNat s19))).length cap52), (4, .int .i64 (IntKind.i64.wrap (x9 + (1 : Int))))] (by kernel_rfl) fun a ha => ?_
      have o1 : Ok [] (blkL ao52 ++ ([g41] ++ (M))) w51.heap.size := Ok.nil _ _
      have o2 : Ok (blkL ao52 ++ (M)) (blkL ao52 ++ ([g41] ++ (M))) w51.heap.size := (Ok.app (fun _ h => .inl (ml h)) (fun _ h => .inl (mr (mr (h)))))
      have f1 := f1.chg (Chg.refl [] _) o1 o2
      have f52 := f52.chg (Chg.refl [] _) o1 o2 (fun _ _ h => nomatch h) (fun _ h => ml h)
      have hM : MS (blkL ao52 ++ (M)) w51 := (MS.app (fun x h => hM.chg (Chg.refl [] _) x (ml h)) (fun x h => hM.chg (Chg.refl [] _) x (mr (mr (h)))))
      exact ⟨kk, Nat.lt_succ_self _, ⟨(((([] : List (List Int)) ++ ((x8.take (Int.toNat s19)).drop (Int.toNat (0 : Int)))) ++ ([rd a0 x9] : List (List Int))) ++ ((x8.take (Int.toNat (x8.length : Int))).drop (Int.toNat s19))), IntKind.i64.wrap (x9 + (1 : Int)), ao52, cap52, H, (ha.sel (by kernel_rfl)), f1, f52, e_i52, p_i52_M, hC, hM⟩⟩
    have H := H23
    refine qp 0 (.int .i64 s19) ha rfl rfl rfl (by kernel_rfl) fun a ha => ?_
    refine qp 0 (.slice ao7 x8.length cap7) ha rfl rfl rfl (by kernel_rfl) fun a ha => ?_
    refine qp 0 (.int .i64 (x8.length : Int)) ha rfl rfl rfl (by kernel_rfl) fun a ha => ?_
    refine qp 0 (.bool (decide (s19 < (x8.length : Int)))) ha rfl rfl rfl (by kernel_rfl) fun a ha => ?_
    refine qp 0 (.bool (decide (s19 < (x8.length : Int)))) ha rfl rfl rfl (by kernel_rfl) fun a ha => ?_
    have ha := ha.sel (env' := [(36, .bool (decide (s19 < (x8.length : Int)))), (0, .slice ao1 a0.length cap1), (3, .slice ao7 x8.length cap7), (4, .int .i64 x9), (5, .int .i64 s19)]) (by kernel_rfl)
    rcases Bool.eq_false_or_eq_true (decide (s19 < (x8.length : Int))) with hb53 | hb53
    ·have ha := ha.lit hb53
     have H := ite_t hb53 H
     refine qp 0 (.slice ao7 x8.length cap7) ha rfl rfl rfl (by kernel_rfl) fun a ha => ?_
     refine qp 0 (.int .i64 s19) ha rfl rfl rfl (by kernel_rfl) fun a ha => ?_
     obtain ⟨⟨hx54, hx54'⟩, H⟩ := ite_some H
     obtain ⟨ge55, oe560, cs57, hx54eq, hn60, hR58, hE59⟩ := RSl.elem (Own.toRSl (M' := []) f7 (Ok.nil _ _) (fun _ _ h => nomatch h)) (Int.toNat s19) (by omega)
     rw [rd_get] at hR58
     obtain rfl := hR58
     have hE59 : ∀ j v, (cA .u8 8 (rd x8 s19))[j]? = some v → wx19.cell? ⟨ge55, (oe560 + (Int.toNat s19) * (rArr .u8 8).sz) + j, none⟩ = some v := hE59
     refine qv (v := .pointer (some ⟨ge55, (oe560 + (Int.toNat s19) * (rArr .u8 8).sz), none⟩)) ha rfl rfl rfl (fun w' hs => ix_run (r := (rArr .u8 8)) (T := 27) ha (by kernel_rfl) (by kernel_rfl) (by rfl) (by rfl) hx54eq hx54 hx54') fun a ha => ?_
     refine qv (v := .agg (cA .u8 8 (rd x8 s19)).toArray) ha rfl rfl rfl (fun w' hs => ldA_run (cs := (cA .u8 8 (rd x8 s19))) ha rfl (by kernel_rfl) (cells_sub (fun j v hv => hs.keep (hE59 j v hv)) (all := (cA .u8 8 (rd x8 s19))) [] [] (by kernel_rfl))) fun a ha => ?_
     refine qp 0 (.slice ao1 a0.length cap1) ha rfl rfl rfl (by kernel_rfl) fun a ha => ?_
     refine qp 0 (.int .i64 x9) ha rfl rfl rfl (by kernel_rfl) fun a ha => ?_
     obtain ⟨⟨hx61, hx61'⟩, H⟩ := ite_some H
     obtain ⟨ge62, oe630, cs64, hx61eq, hn67, hR65, hE66⟩ := RSl.elem f1 (Int.toNat x9) (by omega)
     rw [rd_get] at hR65
     obtain rfl := hR65
     have hE66 : ∀ j v, (cA .u8 8 (rd a0 x9))[j]? = some v → wx19.cell? ⟨ge62, (oe630 + (Int.toNat x9) * (rArr .u8 8).sz) + j, none⟩ = some v := hE66
     refine qv (v := .pointer (some ⟨ge62, (oe630 + (Int.toNat x9) * (rArr .u8 8).sz), none⟩)) ha rfl rfl rfl (fun w' hs => ix_run (r := (rArr .u8 8)) (T := 27) ha (by kernel_rfl) (by kernel_rfl) (by rfl) (by rfl) hx61eq hx61 hx61') fun a ha => ?_
     refine qv (v := .agg (cA .u8 8 (rd a0 x9)).toArray) ha rfl rfl rfl (fun w' hs => ldA_run (cs := (cA .u8 8 (rd a0 x9))) ha rfl (by kernel_rfl) (cells_sub (fun j v hv => hs.keep (hE66 j v hv)) (all := (cA .u8 8 (rd a0 x9))) [] [] (by kernel_rfl))) fun a ha => ?_
     refine qv (v := .bool (eqA 8 (rd x8 s19) (rd a0 x9))) ha rfl rfl rfl (fun w' hs => eqs_run (r := (eqA 8 (rd x8 s19) (rd a0 x9))) (m := 9) ha rfl rfl (by kernel_rfl) rfl (by kernel_rfl) w') fun a ha => ?_
     refine qp 3 (.bool (eqA 8 (rd x8 s19) (rd a0 x9))) ha rfl rfl rfl (by kernel_rfl) fun a ha => ?_
     refine wpQuiet_nil ?_
     intro w68 hc69
     have o1 : Ok [] (blkL ao7 ++ (M)) wx19.heap.size := Ok.nil _ _
     have o2 : Ok (blkL ao7 ++ (M)) (blkL ao7 ++ (M)) wx19.heap.size := (Ok.refl _ _)
     have f1 := f1.chg hc69 o1 o2
     have f7 := f7.chg hc69 o1 o2 (fun _ _ h => nomatch h) (fun _ h => ml h)
     have q_hn67 : ge62 ∉ blkL ao7 ++ (M) := fun h => (o2 ge62 h).elim hn67 (fun h => absurd (lt_cell (hE66 0 _ rfl)) (Nat.not_lt.2 h))
     have hE66 : ∀ j v, (cA .u8 8 (rd a0 x9))[j]? = some v → w68.cell? ⟨ge62, (oe630 + (Int.toNat x9) * (rArr .u8 8).sz) + j, none⟩ = some v := fun j v hv => (cell_keep hc69 o1 hn67 (hE66 j v hv))
     have hn67 := q_hn67
     have hM : MS (blkL ao7 ++ (M)) w68 := (hM.chg hc69)
     have hC := hC.trans hc69 (Ok.nil _ _)
     refine wpl_end ?_
     obtain rfl := Option.some.inj H
     exact J23 _ _ (ha.sel (by kernel_rfl)) f1 f7 hC hM
    ·have ha := ha.lit hb53
     have H := ite_f hb53 H
     refine qo ha rfl rfl rfl fun a ha => ?_
     refine qo ha rfl rfl rfl fun a ha => ?_
     refine qo ha rfl rfl rfl fun a ha => ?_
     refine qo ha rfl rfl rfl fun a ha => ?_
     refine qo ha rfl rfl rfl fun a ha => ?_
     refine qo ha rfl rfl rfl fun a ha => ?_
     refine qo ha rfl rfl rfl fun a ha => ?_
     refine qo ha rfl rfl rfl fun a ha => ?_
     refine qo ha rfl rfl rfl fun a ha => ?_
     refine qp 4 (.bool false) ha rfl rfl rfl (by kernel_rfl) fun a ha => ?_
     refine wpQuiet_nil ?_
     intro w70 hc71
     have o1 : Ok [] (blkL ao7 ++ (M)) wx19.heap.size := Ok.nil _ _
     have o2 : Ok (blkL ao7 ++ (M)) (blkL ao7 ++ (M)) wx19.heap.size := (Ok.refl _ _)
     have f1 := f1.chg hc71 o1 o2
     have f7 := f7.chg hc71 o1 o2 (fun _ _ h => nomatch h) (fun _ h => ml h)
     have hM : MS (blkL ao7 ++ (M)) w70 := (hM.chg hc71)
     have hC := hC.trans hc71 (Ok.nil _ _)
     refine wpl_end ?_
     obtain rfl := Option.some.inj H
     exact J23 _ _ (ha.sel (by kernel_rfl)) f1 f7 hC hM
   have Hc19 := H
   have H := H19
   refine wp_loop_ghost (fun kk a w19 => ∃ (x20 : Int), vineryref04_Set.l1 a0 x8 x9 kk x20 = some s19 ∧ Has a Tryz.f23.ntmps [(0, .slice ao1 a0.length cap1), (3, .slice ao7 x8.length cap7), (4, .int .i64 x9), (5, .int .i64 x20)] ∧ (RSl (rArr .u8 8) 27 w19 (blkL ao7 ++ (M)) ao1 cap1 a0) ∧ (Own (rArr .u8 8) 27 w19 (blkL ao7 ++ (M)) ao7 cap7 x8) ∧ (Chg [] w w19) ∧ (MS (blkL ao7 ++ (M)) w19)) k ?_ ?_
   ·skip
    exact ⟨(0 : Int), H, (ha.sel (by kernel_rfl)), f1, f7, hC, hM⟩
   ·rintro kk a w19 ⟨x20, H, ha, f1, f7, hC, hM⟩
    obtain _ | kk := kk
    ·exact nomatch (show none = some _ from H)
    rw [vineryref04_Set.l1] at H
    refine wp_seq_k fun K72 hK72 => ?_
    refine wp_seq_k fun K73 hK73 => ?_
    refine drq0 (fun w' => Chg [] w19 w') (by kernel_rfl) (by kernel_rfl) (fun _ h => h) ?_
    obtain ⟨s74, H74, H⟩ := bind_some H
    have J74 : ∀ (a : Act) (w74 : World), Has a Tryz.f23.ntmps [(0, .slice ao1 a0.length cap1), (3, .slice ao7 x8.length cap7), (4, .int .i64 x9), (5, .int .i64 x20), (29, .bool s74)] → (RSl (rArr .u8 8) 27 w74 (blkL ao7 ++ (M)) ao1 cap1 a0) → (Own (rArr .u8 8) 27 w74 (blkL ao7 ++ (M)) ao7 cap7 x8) → (Chg [] w w74) → (MS (blkL ao7 ++ (M)) w74) → K73 a w74 := by
     intro a w74 ha f1 f7 hC hM
     refine hK73 _ _ ?_; try clear hK73 K73
     refine cnd ha rfl (fun hc75 => ?_) (fun hc75 => ?_)
     ·have H := ite_t hc75 H
      refine wp_skip ?_
      refine hK72 _ _ ?_; try clear hK72 K72
      refine wp_block ?_
      refine wp_region_lit ?_
      refine seg ha 3 [(0, .slice ao1 a0.length cap1), (3, .slice ao7 x8.length cap7), (4, .int .i64 x9), (5, .int .i64 (IntKind.i64.wrap (x20 + (1 : Int))))] (by kernel_rfl) fun a ha => ?_
      exact ⟨kk, Nat.lt_succ_self _, ⟨IntKind.i64.wrap (x20 + (1 : Int)), H, (ha.sel (by kernel_rfl)), f1, f7, hC, hM⟩⟩
     ·have H := ite_f hc75 H
      refine wp_exit ?_
      simp only [Exit.then, Exit.inBlock, ↓reduceIte, Nat.reduceEqDiff]
      obtain rfl := Option.some.inj H
      exact J19 _ _ (ha.sel (by kernel_rfl)) f1 f7 hC hM
    have H := H74
    refine qp 0 (.int .i64 x20) ha rfl rfl rfl (by kernel_rfl) fun a ha => ?_
    refine qp 0 (.slice ao7 x8.length cap7) ha rfl rfl rfl (by kernel_rfl) fun a ha => ?_
    refine qp 0 (.int .i64 (x8.length : Int)) ha rfl rfl rfl (by kernel_rfl) fun a ha => ?_
    refine qp 0 (.bool (decide (x20 < (x8.length : Int)))) ha rfl rfl rfl (by kernel_rfl) fun a ha => ?_
    refine qp 0 (.bool (decide (x20 < (x8.length : Int)))) ha rfl rfl rfl (by kernel_rfl) fun a ha => ?_
    have ha := ha.sel (env' := [(17, .bool (decide (x20 < (x8.length : Int)))), (0, .slice ao1 a0.length cap1), (3, .slice ao7 x8.length cap7), (4, .int .i64 x9), (5, .int .i64 x20)]) (by kernel_rfl)
    rcases Bool.eq_false_or_eq_true (decide (x20 < (x8.length : Int))) with hb76 | hb76
    ·have ha := ha.lit hb76
     have H := ite_t hb76 H
     refine qp 0 (.slice ao7 x8.length cap7) ha rfl rfl rfl (by kernel_rfl) fun a ha => ?_
     refine qp 0 (.int .i64 x20) ha rfl rfl rfl (by kernel_rfl) fun a ha => ?_
     obtain ⟨⟨hx77, hx77'⟩, H⟩ := ite_some H
     obtain ⟨ge78, oe790, cs80, hx77eq, hn83, hR81, hE82⟩ := RSl.elem (Own.toRSl (M' := []) f7 (Ok.nil _ _) (fun _ _ h => nomatch h)) (Int.toNat x20) (by omega)
     rw [rd_get] at hR81
     obtain rfl := hR81
     have hE82 : ∀ j v, (cA .u8 8 (rd x8 x20))[j]? = some v → w19.cell? ⟨ge78, (oe790 + (Int.toNat x20) * (rArr .u8 8).sz) + j, none⟩ = some v := hE82
     refine qv (v := .pointer (some ⟨ge78, (oe790 + (Int.toNat x20) * (rArr .u8 8).sz), none⟩)) ha rfl rfl rfl (fun w' hs => ix_run (r := (rArr .u8 8)) (T := 27) ha (by kernel_rfl) (by kernel_rfl) (by rfl) (by rfl) hx77eq hx77 hx77') fun a ha => ?_
     have f84 : RSl (rInt .u8) 5 w19 ([]) (some ⟨ge78, (oe790 + (Int.toNat x20) * (rArr .u8 8).sz) + 0, none⟩) 8 (arL 8 (rd x8 x20)) := RSl.ofA [] [] hE82 hn83 (by kernel_rfl) rfl
     refine qv (v := .slice (some ⟨ge78, (oe790 + (Int.toNat x20) * (rArr .u8 8).sz) + 0, none⟩) (arL 8 (rd x8 x20)).length 8) ha rfl rfl rfl (fun w' hs => opk_run ha rfl rfl (fun w => by kernel_rfl)) fun a ha => ?_
     refine qv (v := .string (bstr (b2s (arL 8 (rd x8 x20))))) ha rfl rfl rfl (fun w' hs => cvs_run ha rfl (by kernel_rfl) (by kernel_rfl) (by kernel_rfl) (RSl.chg (M' := []) f84 hs (Ok.nil _ _) (Ok.nil _ _))) fun a ha => ?_
     refine qp 0 (.slice ao1 a0.length cap1) ha rfl rfl rfl (by kernel_rfl) fun a ha => ?_
     refine qp 0 (.int .i64 x9) ha rfl rfl rfl (by kernel_rfl) fun a ha => ?_
     obtain ⟨⟨hx85, hx85'⟩, H⟩ := ite_some H
     obtain ⟨ge86, oe870, cs88, hx85eq, hn91, hR89, hE90⟩ := RSl.elem f1 (Int.toNat x9) (by omega)
     rw [rd_get] at hR89
     obtain rfl := hR89
     have hE90 : ∀ j v, (cA .u8 8 (rd a0 x9))[j]? = some v → w19.cell? ⟨ge86, (oe870 + (Int.toNat x9) * (rArr .u8 8).sz) + j, none⟩ = some v := hE90
     refine qv (v := .pointer (some ⟨ge86, (oe870 + (Int.toNat x9) * (rArr .u8 8).sz), none⟩)) ha rfl rfl rfl (fun w' hs => ix_run (r := (rArr .u8 8)) (T := 27) ha (by kernel_rfl) (by kernel_rfl) (by rfl) (by rfl) hx85eq hx85 hx85') fun a ha => ?_
     have f92 : RSl (rInt .u8) 5 w19 (blkL ao7 ++ (M)) (some ⟨ge86, (oe870 + (Int.toNat x9) * (rArr .u8 8).sz) + 0, none⟩) 8 (arL 8 (rd a0 x9)) := RSl.ofA [] [] hE90 hn91 (by kernel_rfl) rfl
     refine qv (v := .slice (some ⟨ge86, (oe870 + (Int.toNat x9) * (rArr .u8 8).sz) + 0, none⟩) (arL 8 (rd a0 x9)).length 8) ha rfl rfl rfl (fun w' hs => opk_run ha rfl rfl (fun w => by kernel_rfl)) fun a ha => ?_
     refine qv (v := .string (bstr (b2s (arL 8 (rd a0 x9))))) ha rfl rfl rfl (fun w' hs => cvs_run ha rfl (by kernel_rfl) (by kernel_rfl) (by kernel_rfl) (RSl.chg (M' := []) f92 hs (Ok.nil _ _) (Ok.nil _ _))) fun a ha => ?_
     refine qp 0 (.bool (Op.bytesLess (bstr (b2s (arL 8 (rd x8 x20)))).toList (bstr (b2s (arL 8 (rd a0 x9)))).toList)) ha rfl rfl rfl (by kernel_rfl) fun a ha => ?_
     refine qp 3 (.bool (Op.bytesLess (bstr (b2s (arL 8 (rd x8 x20)))).toList (bstr (b2s (arL 8 (rd a0 x9)))).toList)) ha rfl rfl rfl (by kernel_rfl) fun a ha => ?_
     refine wpQuiet_nil ?_
     intro w93 hc94
     have o1 : Ok [] (blkL ao7 ++ (M)) w19.heap.size := Ok.nil _ _
     have o2 : Ok (blkL ao7 ++ (M)) (blkL ao7 ++ (M)) w19.heap.size := (Ok.refl _ _)
     have f1 := f1.chg hc94 o1 o2
     have f7 := f7.chg hc94 o1 o2 (fun _ _ h => nomatch h) (fun _ h => ml h)
     have f92 := f92.chg hc94 o1 o2
     have q_hn91 : ge86 ∉ blkL ao7 ++ (M) := fun h => (o2 ge86 h).elim hn91 (fun h => absurd (lt_cell (hE90 0 _ rfl)) (Nat.not_lt.2 h))
     have hE90 : ∀ j v, (cA .u8 8 (rd a0 x9))[j]? = some v → w93.cell? ⟨ge86, (oe870 + (Int.toNat x9) * (rArr .u8 8).sz) + j, none⟩ = some v := fun j v hv => (cell_keep hc94 o1 hn91 (hE90 j v hv))
     have hn91 := q_hn91
     have hM : MS (blkL ao7 ++ (M)) w93 := (hM.chg hc94)
     have hC := hC.trans hc94 (Ok.nil _ _)
     refine wpl_end ?_
     obtain rfl := Option.some.inj H
     exact J74 _ _ (ha.sel (by kernel_rfl)) f1 f7 hC hM
    ·have ha := ha.lit hb76
     have H := ite_f hb76 H
     refine qo ha rfl rfl rfl fun a ha => ?_
     refine qo ha rfl rfl rfl fun a ha => ?_
     refine qo ha rfl rfl rfl fun a ha => ?_
     refine qo ha rfl rfl rfl fun a ha => ?_
     refine qo ha rfl rfl rfl fun a ha => ?_
     refine qo ha rfl rfl rfl fun a ha => ?_
     refine qo ha rfl rfl rfl fun a ha => ?_
     refine qo ha rfl rfl rfl fun a ha => ?_
     refine qo ha rfl rfl rfl fun a ha => ?_
     refine qo ha rfl rfl rfl fun a ha => ?_
     refine qo ha rfl rfl rfl fun a ha => ?_
     refine qp 4 (.bool false) ha rfl rfl rfl (by kernel_rfl) fun a ha => ?_
     refine wpQuiet_nil ?_
     intro w95 hc96
     have o1 : Ok [] (blkL ao7 ++ (M)) w19.heap.size := Ok.nil _ _
     have o2 : Ok (blkL ao7 ++ (M)) (blkL ao7 ++ (M)) w19.heap.size := (Ok.refl _ _)
     have f1 := f1.chg hc96 o1 o2
     have f7 := f7.chg hc96 o1 o2 (fun _ _ h => nomatch h) (fun _ h => ml h)
     have hM : MS (blkL ao7 ++ (M)) w95 := (hM.chg hc96)
     have hC := hC.trans hc96 (Ok.nil _ _)
     refine wpl_end ?_
     obtain rfl := Option.some.inj H
     exact J74 _ _ (ha.sel (by kernel_rfl)) f1 f7 hC hM
  ·have H := ite_f hc15 H
   refine wp_exit ?_
   simp only [Exit.then, Exit.inBlock, ↓reduceIte, Nat.reduceEqDiff]
   obtain rfl := Option.some.inj H
   exact J6 _ _ ao7 cap7 (ha.sel (by kernel_rfl)) f7 e_i7 p_i7_M hC hM
def vineryref04_Bytes.l0 (a0 : List (List Int)) : Nat → (List Int) → Int → Option (List Int)
  | 0, _, _ => none
  | kk + 1, x8, x9 => (if (decide (x9 < (a0.length : Int))) = true then (if 0 ≤ x9 ∧ x9 < (a0.length : Int) then (if (x8.length + (arL 8 (rd a0 x9)).length) * 1 ≤ 140737488355328 then vineryref04_Bytes.l0 a0 kk (x8 ++ (arL 8 (rd a0 x9))) (IntKind.i64.wrap (x9 + (1 : Int))) else none) else none) else some (x8 : List Int))
def vineryref04_Bytes.f (k : Nat) (a0 : List (List Int)) : Option (List Int) := (vineryref04_Bytes.l0 a0 k ([] : List Int) (0 : Int)).bind fun s6 => some ((s6 : List Int))
set_option maxRecDepth 100000 in
theorem vineryref04_Bytes.walk (w : World) (M : List Nat) (hM : MS M w) (a0 : List (List Int)) (ao1 : Option Addr) (cap1 : Nat) (f1 : RSl (rArr .u8 8) 27 w M ao1 cap1 a0) (k : Nat) (r : List Int) (H : vineryref04_Bytes.f k a0 = some r) :
    To Tryz.prog 24 [.slice ao1 a0.length cap1] w fun v w' => ∃ (ao35 : Option Addr) (cap35 : Nat), v = .slice ao35 r.length cap35 ∧ (Own (rInt .u8) 5 w' (blkL ao35 ++ (M)) ao35 cap35 r) ∧ (∀ x ∈ blkL ao35, w.heap.size ≤ x) ∧ Chg [] w w' ∧ MS (blkL ao35 ++ (M)) w' := by
 unfold vineryref04_Bytes.f at H
 refine ent Tryz.func24 rfl [(0, .slice ao1 a0.length cap1)] rfl (by rfl) fun a ha => ?_
 have hC : Chg [] w w := Chg.refl _ _
 refine wp_seq_k fun K2 hK2 => ?_
 refine wp_region_lit ?_
 refine seg ha 1 [(0, .slice ao1 a0.length cap1)] (by kernel_rfl) fun a ha => ?_
 refine hK2 _ _ ?_; try clear hK2 K2
 refine wp_seq_k fun K3 hK3 => ?_
 refine wp_region_lit ?_
 refine seg ha 1 [(0, .slice ao1 a0.length cap1), (3, .slice none 0 0)] (by kernel_rfl) fun a ha => ?_
 refine hK3 _ _ ?_; try clear hK3 K3
 refine wp_seq_k fun K4 hK4 => ?_
 refine wp_seq_k fun K5 hK5 => ?_
 refine wp_region_lit ?_
 refine seg ha 1 [(0, .slice ao1 a0.length cap1), (3, .slice none 0 0), (4, .int .i64 (0 : Int))] (by kernel_rfl) fun a ha => ?_
 refine hK5 _ _ ?_; try clear hK5 K5
 refine wp_block ?_
 obtain ⟨s6, H6, H⟩ := bind_some H
 have J6 : ∀ (a : Act) (wx6 : World) (ao10 : Option Addr) (cap10 : Nat), Has a Tryz.f24.ntmps [(3, .slice ao10 s6.length cap10)] → (Own (rInt .u8) 5 wx6 (blkL ao10 ++ (M)) ao10 cap10 s6) → (∀ x ∈ blkL ao10, w.heap.size ≤ x) → (∀ x ∈ blkL ao10, x ∉ M) → (Chg [] w wx6) → (MS (blkL ao10 ++ (M)) wx6) → K4 a wx6 := by
  intro a wx6 ao10 cap10 ha f10 e_i10 p_i10_M hC hM
  refine hK4 _ _ ?_; try clear hK4 K4
  refine wp_seq_k fun K11 hK11 => ?_
  refine wp_region_lit ?_
  refine seg ha 2 [(2, .slice ao10 s6.length cap10)] (by kernel_rfl) fun a ha => ?_
  refine hK11 _ _ ?_; try clear hK11 K11
  refine wp_ret ?_
  try simp only [Exit.then, Exit.inBlock]
  obtain rfl := Option.some.inj H
  refine rt1 ha rfl rfl ?_
  exact ⟨ao10, cap10, rfl, f10, e_i10, hC, hM⟩
 have Hc6 := H
 have H := H6
 refine wp_loop_ghost (fun kk a w6 => ∃ (x8 : List Int) (x9 : Int) (ao7 : Option Addr) (cap7 : Nat), vineryref04_Bytes.l0 a0 kk x8 x9 = some s6 ∧ Has a Tryz.f24.ntmps [(0, .slice ao1 a0.length cap1), (3, .slice ao7 x8.length cap7), (4, .int .i64 x9)] ∧ (RSl (rArr .u8 8) 27 w6 (blkL ao7 ++ (M)) ao1 cap1 a0) ∧ (Own (rInt .u8) 5 w6 (blkL ao7 ++ (M)) ao7 cap7 x8) ∧ (∀ x ∈ blkL ao7, w.heap.size ≤ x) ∧ (∀ x ∈ blkL ao7, x ∉ M) ∧ (Chg [] w w6) ∧ (MS (blkL ao7 ++ (M)) w6)) k ?_ ?_
 ·skip
  have o1 : Ok [] (M) w.heap.size := Ok.nil _ _
  have o2 : Ok (blkL none ++ (M)) (M) w.heap.size := (Ok.app (fun _ h => nomatch h) (Ok.refl _ _))
  have f1 := f1.chg (Chg.refl [] _) o1 o2
  have p_z12_M : ∀ x ∈ blkL none, x ∉ M := fun x hx hy => absurd (hM x (hy)) (Nat.not_lt.2 ((fun _ h => nomatch h) x hx))
  have e_z12 : ∀ x ∈ blkL none, w.heap.size ≤ x := fun x hx => Nat.le_trans hC.size ((fun _ h => nomatch h) x hx)
  have hM : MS (blkL none ++ (M)) w := (MS.app (fun _ h => nomatch h) (hM.chg (Chg.refl [] _)))
  exact ⟨([] : List Int), (0 : Int), none, 0, H, (ha.sel (by kernel_rfl)), f1, Own.nil, e_z12, p_z12_M, hC, hM⟩
 ·rintro kk a w6 ⟨x8, x9, ao7, cap7, H, ha, f1, f7, e_i7, p_i7_M, hC, hM⟩
  obtain _ | kk := kk
  ·exact nomatch (show none = some _ from H)
  rw [vineryref04_Bytes.l0] at H
  refine wp_seq_k fun K13 hK13 => ?_
  refine wp_seq_k fun K14 hK14 => ?_
  refine wp_region_lit ?_
  refine seg ha 4 [(0, .slice ao1 a0.length cap1), (3, .slice ao7 x8.length cap7), (4, .int .i64 x9), (9, .bool (decide (x9 < (a0.length : Int))))] (by kernel_rfl) fun a ha => ?_
  refine hK14 _ _ ?_; try clear hK14 K14
  refine cnd ha rfl (fun hc15 => ?_) (fun hc15 => ?_)
  ·have H := ite_t hc15 H
   refine wp_skip ?_
   refine hK13 _ _ ?_; try clear hK13 K13
   refine wp_seq_k fun K16 hK16 => ?_
   refine wp_block ?_
   refine wp_seq_k fun K17 hK17 => ?_
   refine wp_region_lit ?_
   refine seg ha 2 [(0, .slice ao1 a0.length cap1), (3, .slice ao7 x8.length cap7), (4, .int .i64 x9), (12, .slice ao1 a0.length cap1), (13, .int .i64 x9)] (by kernel_rfl) fun a ha => ?_
   obtain ⟨⟨hx18, hx18'⟩, H⟩ := ite_some H
   refine ix (r := (rArr .u8 8)) ha (by kernel_rfl) (by kernel_rfl) rfl rfl rfl rfl rfl f1 hx18 hx18' fun a ge19 oe20 cs21 hn24 hR22 hE23 ha => ?_
   rw [rd_get] at hR22
   obtain rfl := hR22
   have hE23 : ∀ j v, (cA .u8 8 (rd a0 x9))[j]? = some v → w6.cell? ⟨ge19, oe20 + j, none⟩ = some v := hE23
   refine ldA (cs := (cA .u8 8 (rd a0 x9))) ha rfl (by kernel_rfl) rfl rfl rfl (cells_sub hE23 (all := (cA .u8 8 (rd a0 x9))) [] [] (by kernel_rfl)) fun a ha => ?_
   refine al (cs := (cA .u8 8 (List.replicate 8 (0 : Int)))) (z := .agg (cA .u8 8 (List.replicate 8 (0 : Int))).toArray) ha (fun w => by kernel_rfl) rfl rfl rfl rfl fun a w25 g26 hN27 ha => ?_
   have o1 : Ok [] (blkL ao7 ++ (M)) w6.heap.size := Ok.nil _ _
   have o2 : Ok ([g26] ++ (blkL ao7 ++ (M))) (blkL ao7 ++ (M)) w6.heap.size := (Ok.app (hN27.ok _) (Ok.refl _ _))
   have f1 := f1.chg hN27.chg o1 o2
   have f7 := f7.chg hN27.chg o1 o2 (fun _ _ h => nomatch h) (fun _ h => mr (ml h))
   have p_i28_i7 : ∀ x ∈ [g26], x ∉ (blkL ao7) := fun x hx hy => absurd (hM x (ml hy)) (Nat.not_lt.2 ((hN27.ge1) x hx))
   have p_i28_M : ∀ x ∈ [g26], x ∉ M := fun x hx hy => absurd (hM x (mr (hy))) (Nat.not_lt.2 ((hN27.ge1) x hx))
   have e_i28 : ∀ x ∈ [g26], w.heap.size ≤ x := fun x hx => Nat.le_trans hC.size ((hN27.ge1) x hx)
   have hM : MS ([g26] ++ (blkL ao7 ++ (M))) w25 := (MS.app hN27.ms (hM.chg hN27.chg))
   have hC := hC.trans hN27.chg (Ok.nil _ _)
   have hBg26 : Box w25 g26 (cA .u8 8 (List.replicate 8 (0 : Int))) := hN27.box
   refine stA (l := (cA .u8 8 (rd a0 x9))) ha rfl rfl rfl (by kernel_rfl) rfl rfl hBg26 rfl fun a w29 ha hb2 hc30 _ => ?_
   have o1 : Ok [g26] ([g26] ++ (blkL ao7 ++ (M))) w25.heap.size := (fun _ h => .inl (ml h))
   have o2 : Ok ([g26] ++ (blkL ao7 ++ (M))) ([g26] ++ (blkL ao7 ++ (M))) w25.heap.size := (Ok.refl _ _)
   have f1 := f1.chg hc30 o1 o2
   have f7 := f7.chg hc30 o1 o2 (fun x (hx : x ∈ blkL ao7) (hy : x ∈ [g26]) => p_i28_i7 x hy hx) (fun _ h => mr (ml h))
   have hM : MS ([g26] ++ (blkL ao7 ++ (M))) w29 := (hM.chg hc30)
   have hC := hC.trans hc30 (fun x h => .inr (e_i28 x h))
   have hBg26 : Box w29 g26 (cA .u8 8 (rd a0 x9)) := hb2
   refine hK17 _ _ ?_; try clear hK17 K17
   refine wp_region_lit ?_
   refine seg ha 1 [(0, .slice ao1 a0.length cap1), (4, .int .i64 x9), (5, .pointer (some ⟨g26, 0, none⟩)), (16, .slice ao7 x8.length cap7)] (by kernel_rfl) fun a ha => ?_
   refine opk (v := .slice (some ⟨g26, 0, none⟩) 8 8) ha rfl rfl rfl rfl rfl (fun w => by kernel_rfl) fun a ha => ?_
   have fw31 : RSl (rInt .u8) 5 w29 (butL g26 w29) (some ⟨g26, 0, none⟩) 8 (arL 8 (rd a0 x9)) := RSl.ofA ([] : List Value) ([] : List Value) (Box.cells hBg26) butL_self (by kernel_rfl) rfl
   obtain ⟨hx32, H⟩ := ite_some H
   refine app (r := (rInt .u8)) (xs := x8) (ys := (arL 8 (rd a0 x9))) ha (ElemT.mk' (bytes := 1) (by kernel_rfl)) rfl rfl rfl rfl rfl f7 fw31.src hx32 (by decide) fun a w33 ao34 cap34 hO34 hc34 hk34 hl34 ha => ?_
   have o1 : Ok (blkL ao7) ([g26] ++ (blkL ao7 ++ (M))) w29.heap.size := (fun _ h => .inl (mr (ml h)))
   have o2 : Ok (blkL ao34 ++ ([g26] ++ (M))) ([g26] ++ (blkL ao7 ++ (M))) w29.heap.size := (Ok.app (Ok.to hk34 (fun _ h => mr (ml h))) (Ok.app (fun _ h => .inl (ml h)) (fun _ h => .inl (mr (mr (h))))))
   have f1 := f1.chg hc34 o1 o2
   have fw31 := fw31.chg (M' := butL g26 w33) hc34 (butL_ok (fun x hx0 e0 => p_i28_i7 x (by rw [e0]; exact List.mem_singleton.2 rfl) hx0)) butL_chg
   have hBg26 := hBg26.chg hc34 (p_i28_i7 g26 (by simp))
   have p_i34_i28 : ∀ x ∈ blkL ao34, x ∉ ([g26]) := fun x hx hy => (hk34 x hx).elim (fun h => (fun x hx hy => p_i28_i7 x hy hx) x h hy) (fun h => absurd (hM x (ml hy)) (Nat.not_lt.2 h))
   have p_i34_M : ∀ x ∈ blkL ao34, x ∉ M := fun x hx hy => (hk34 x hx).elim (fun h => p_i7_M x h hy) (fun h => absurd (hM x (mr (mr (hy)))) (Nat.not_lt.2 h))
   have e_i34 : ∀ x ∈ blkL ao34, w.heap.size ≤ x := fun x hx => (hk34 x hx).elim (e_i7 x) (Nat.le_trans hC.size)
   have hM : MS (blkL ao34 ++ ([g26] ++ (M))) w33 := (MS.app hl34 (MS.app (fun x h => hM.chg hc34 x (ml h)) (fun x h => hM.chg hc34 x (mr (mr (h))))))
   have hC := hC.trans hc34 (fun x h => .inr (e_i7 x h))
   have f34 := hO34.chg (M' := blkL ao34 ++ ([g26] ++ (M))) (Chg.refl [] _) (Ok.nil _ _) (Ok.app (fun _ h => .inl (ml h)) (Ok.to (Ok.app (fun _ h => .inl (ml h)) (fun _ h => .inl (mr (mr (h))))) (fun _ h => mr h))) (fun _ _ h => nomatch h) (fun _ h => ml h)
   refine seg ha 1 [(0, .slice ao1 a0.length cap1), (3, .slice ao34 (x8 ++ (arL 8 (rd a0 x9))).length cap34), (4, .int .i64 x9)] (by kernel_rfl) fun a ha => ?_
   refine hK16 _ _ ?_; try clear hK16 K16
   refine wp_region_lit ?_
   refine seg ha 3 [(0, .slice ao1 a0.length cap1), (3, .slice ao34 (x8 ++ (arL 8 (rd a0 x9))).length cap34), (4, .int .i64 (IntKind.i64.wrap (x9 + (1 : Int))))] (by kernel_rfl) fun a ha => ?_
   have o1 : Ok [] (blkL ao34 ++ ([g26] ++ (M))) w33.heap.size := Ok.nil _ _
   have o2 : Ok (blkL ao34 ++ (M)) (blkL ao34 ++ ([g26] ++ (M))) w33.heap.size := (Ok.app (fun _ h => .inl (ml h)) (fun _ h => .inl (mr (mr (h)))))
   have f1 := f1.chg (Chg.refl [] _) o1 o2
   have f34 := f34.chg (Chg.refl [] _) o1 o2 (fun _ _ h => nomatch h) (fun _ h => ml h)
   have hM : MS (blkL ao34 ++ (M)) w33 := (MS.app (fun x h => hM.chg (Chg.refl [] _) x (ml h)) (fun x h => hM.chg (Chg.refl [] _) x (mr (mr (h)))))
   exact ⟨kk, Nat.lt_succ_self _, ⟨(x8 ++ (arL 8 (rd a0 x9))), IntKind.i64.wrap (x9 + (1 : Int)), ao34, cap34, H, (ha.sel (by kernel_rfl)), f1, f34, e_i34, p_i34_M, hC, hM⟩⟩
  ·have H := ite_f hc15 H
   refine wp_exit ?_
   simp only [Exit.then, Exit.inBlock, ↓reduceIte, Nat.reduceEqDiff]
   obtain rfl := Option.some.inj H
   exact J6 _ _ ao7 cap7 (ha.sel (by kernel_rfl)) f7 e_i7 p_i7_M hC hM

theorem Owned.go (w : World) (M : List Nat) (hM : MS M w) (gr : Nat) (rows : List Row) (hR : Rows w gr rows) (hl : rows.length ≤ 1000) (h0 : Cells w rows fun _ _ => True) :
    To Tryz.prog 25 [.slice (some ⟨gr, 0, none⟩) rows.length rows.length] w fun v w' => v = .bool true ∧ Chg (gsOf rows) w w' ∧ MS M w' ∧ Cells w' rows (fun i cur => ∃ c, cur = List.replicate c (.int .u8 (IntKind.u8.wrap ((i : Int) + 1)))) := by
  refine ent Tryz.func25 rfl [(0, .slice (some ⟨gr, 0, none⟩) rows.length rows.length)] rfl rfl fun a ha => ?_
  refine wp_seq_k fun K hK => ?_
  refine wp_region_lit ?_
  refine seg ha 1 [(0, .slice (some ⟨gr, 0, none⟩) rows.length rows.length)] (by kernel_rfl) fun a ha => ?_
  refine hK _ _ ?_; clear hK K
  refine wp_seq_k fun KA hKA => ?_
  refine wp_seq_k fun K hK => ?_
  refine wp_region_lit ?_
  refine seg ha 1 [(0, .slice (some ⟨gr, 0, none⟩) rows.length rows.length), (3, .int .i64 0)] (by kernel_rfl) fun a ha => ?_
  refine hK _ _ ?_; clear hK K
  have J1 : ∀ (a : Act) (w1 : World), Has a Tryz.f25.ntmps [(0, .slice (some ⟨gr, 0, none⟩) rows.length rows.length)] → Chg (gsOf rows) w w1 → Cells w1 rows (fun i cur => cur = List.replicate cur.length (.int .u8 (IntKind.u8.wrap ((i : Int) + 1)))) → KA a w1 := by
    intro a w1 ha hC hS
    refine hKA _ _ ?_
    have ewb : ∀ (j : Nat), j < rows.length → IntKind.u8.wrap (IntKind.i64.wrap ((j : Int) + 1)) = IntKind.u8.wrap ((j : Int) + 1) := fun j hj => by
      have : IntKind.i64.wrap ((j : Int) + 1) = (j : Int) + 1 := by rw [IntKind.wrap_i64]; omega
      rw [this]
    have hm : maxLen = 9223372036854775807 := rfl
    refine wp_seq_k fun KB hKB => ?_
    refine wp_seq_k fun K hK => ?_
    refine wp_region_lit ?_
    refine seg ha 1 [(0, .slice (some ⟨gr, 0, none⟩) rows.length rows.length), (6, .int .i64 0)] (by kernel_rfl) fun a ha => ?_
    refine hK _ _ ?_; clear hK K
    refine wp_block ?_
    refine wp_loop_ghost (fun kk a w1 => ∃ (i : Nat), kk + i = rows.length + 1 ∧ i ≤ rows.length ∧ Has a Tryz.f25.ntmps [(0, .slice (some ⟨gr, 0, none⟩) rows.length rows.length), (6, .int .i64 (i : Int))] ∧ Chg (gsOf rows) w w1 ∧ Cells w1 rows (fun j cur => cur = List.replicate cur.length (.int .u8 (IntKind.u8.wrap ((j : Int) + 1))))) (rows.length + 1) ?_ ?_
    · exact ⟨0, by omega, by omega, ha, hC, hS⟩
    · rintro kk a w1 ⟨i, hk, hi, ha, hC, hS⟩
      have hR1 := hR.keep hC
      refine wp_seq_k fun K1 hK1 => ?_
      refine wp_seq_k fun K2 hK2 => ?_
      refine wp_region_lit ?_
      refine seg ha 4 [(0, .slice (some ⟨gr, 0, none⟩) rows.length rows.length), (6, .int .i64 (i : Int)), (40, .bool (decide ((i : Int) < (rows.length : Int))))] (by kernel_rfl) fun a ha => ?_
      refine hK2 _ _ ?_; clear hK2 K2
      refine cnd ha rfl (fun hc => ?_) (fun hc => ?_)
      · refine wp_skip ?_
        refine hK1 _ _ ?_; clear hK1 K1
        have hlt : i < rows.length := by simpa using hc
        obtain ⟨r, hr⟩ : ∃ r, rows[i]? = some r := ⟨rows[i], by simp [hlt]⟩
        obtain ⟨hr1, hr2, hr3⟩ := hR.cap r (List.mem_of_getElem? hr)
        refine wp_seq_k fun K3 hK3 => ?_
        refine wp_block ?_
        refine wp_seq_k fun K4 hK4 => ?_
        refine drq0 (fun w' => Chg [] w1 w') (by kernel_rfl) (by kernel_rfl) (fun _ h => h) ?_
        have hrow : (rows.map Row.v)[i]? = some r.v := by simp [hr]
        refine qp 0 (.slice (some ⟨gr, 0, none⟩) rows.length rows.length) ha rfl rfl rfl (by kernel_rfl) fun a ha => ?_
        refine qp 0 (.int .i64 (i : Int)) ha rfl rfl rfl (by kernel_rfl) fun a ha => ?_
        refine qv ha rfl rfl rfl (fun w' _ => ixa (T := 36) ha (by kernel_rfl) (by kernel_rfl) rfl rfl (by omega) (by omega) w') fun a ha => ?_
        refine qv (v := r.v) ha rfl rfl rfl (fun w' hs => ld_run ha rfl (by kernel_rfl) ((Box.chg hR1.row hs (fun h => nomatch h)).cell' (o := i) (by simp) hrow)) fun a ha => ?_
        refine qp 0 (.slice (some ⟨gr, 0, none⟩) rows.length rows.length) ha rfl rfl rfl (by kernel_rfl) fun a ha => ?_
        refine qp 0 (.int .i64 (i : Int)) ha rfl rfl rfl (by kernel_rfl) fun a ha => ?_
        refine qv ha rfl rfl rfl (fun w' _ => ixa (T := 36) ha (by kernel_rfl) (by kernel_rfl) rfl rfl (by omega) (by omega) w') fun a ha => ?_
        refine qv (v := r.v) ha rfl rfl rfl (fun w' hs => ld_run ha rfl (by kernel_rfl) ((Box.chg hR1.row hs (fun h => nomatch h)).cell' (o := i) (by simp) hrow)) fun a ha => ?_
        refine qp 0 (.int .i64 (r.cap : Int)) ha rfl rfl rfl (by kernel_rfl) fun a ha => ?_
        refine qv (v := .slice r.ao r.cap r.cap) ha rfl rfl rfl (fun w' _ => slx_run (T := 5) (s := 1) ha (by kernel_rfl) (by kernel_rfl) rfl rfl w') fun a ha => ?_
        refine qp 0 (.slice r.ao r.cap r.cap) ha rfl rfl rfl (by kernel_rfl) fun a ha => ?_
        refine wpQuiet_nil ?_
        intro w2 hc2
        refine wpl_end ?_
        have ha := ha.sel (env' := [(0, .slice (some ⟨gr, 0, none⟩) rows.length rows.length), (6, .int .i64 (i : Int)), (7, .slice r.ao r.cap r.cap)]) (by kernel_rfl)
        refine hK4 _ _ ?_; clear hK4 K4
        have hC2 := hC.trans hc2 (Ok.nil _ _)
        have hS2 : Cells w2 rows (fun j cur => cur = List.replicate cur.length (.int .u8 (IntKind.u8.wrap ((j : Int) + 1)))) := fun j q g h1 h2 => by
          obtain ⟨cur, c1, c2, c3⟩ := hS j q g h1 h2
          exact ⟨cur, c1.chg hc2 (by simp), c2, c3⟩
        refine wp_seq_k fun K4 hK4 => ?_
        refine wp_region_lit ?_
        refine seg ha 1 [(0, .slice (some ⟨gr, 0, none⟩) rows.length rows.length), (6, .int .i64 (i : Int)), (7, .slice r.ao r.cap r.cap), (8, .int .i64 0)] (by kernel_rfl) fun a ha => ?_
        refine hK4 _ _ ?_; clear hK4 K4
        refine wp_block ?_
        refine wp_loop_ghost (fun kk a w3 => ∃ (k : Nat), kk + k = r.cap + 1 ∧ k ≤ r.cap ∧ w3 = w2 ∧ Has a Tryz.f25.ntmps [(0, .slice (some ⟨gr, 0, none⟩) rows.length rows.length), (6, .int .i64 (i : Int)), (7, .slice r.ao r.cap r.cap), (8, .int .i64 (k : Int))]) (r.cap + 1) ?_ ?_
        · exact ⟨0, by omega, by omega, rfl, ha⟩
        · rintro kk2 a w3 ⟨k, hkk, hkc, rfl, ha⟩
          refine wp_seq_k fun K5 hK5 => ?_
          refine wp_seq_k fun K6 hK6 => ?_
          refine wp_region_lit ?_
          refine seg ha 4 [(0, .slice (some ⟨gr, 0, none⟩) rows.length rows.length), (6, .int .i64 (i : Int)), (7, .slice r.ao r.cap r.cap), (8, .int .i64 (k : Int)), (56, .bool (decide ((k : Int) < (r.cap : Int))))] (by kernel_rfl) fun a ha => ?_
          refine hK6 _ _ ?_; clear hK6 K6
          refine cnd ha rfl (fun hc => ?_) (fun hc => ?_)
          · refine wp_skip ?_
            refine hK5 _ _ ?_; clear hK5 K5
            have hkl : k < r.cap := by simpa using hc
            obtain ⟨g, hg⟩ : ∃ g, r.g = some g := by
              cases hgg : r.g with
              | none => have := hr3 hgg; omega
              | some g => exact ⟨g, rfl⟩
            have hao : r.ao = some ⟨g, 0, none⟩ := by simp [Row.ao, hg]
            rw [hao] at ha
            obtain ⟨cur, c1, c2, c3⟩ := hS2 i r g hr hg
            refine wp_seq_k fun K6 hK6 => ?_
            refine wp_block ?_
            refine wp_seq_k fun K7 hK7 => ?_
            refine wp_region_lit ?_
            refine seg ha 2 [(0, .slice (some ⟨gr, 0, none⟩) rows.length rows.length), (6, .int .i64 (i : Int)), (7, .slice (some ⟨g, 0, none⟩) r.cap r.cap), (8, .int .i64 (k : Int)), (59, .slice (some ⟨g, 0, none⟩) r.cap r.cap), (60, .int .i64 (k : Int))] (by kernel_rfl) fun a ha => ?_
            refine hop ha rfl rfl rfl (ixa (T := 5) ha (by kernel_rfl) (by kernel_rfl) rfl rfl (by omega) (by omega) _) fun a ha => ?_
            refine ld (v := .int .u8 (IntKind.u8.wrap ((i : Int) + 1))) ha rfl (by kernel_rfl) rfl rfl rfl (c1.cell' (o := k) (by rw [Nat.zero_add, Int.toNat_natCast]) (by rw [c3, List.getElem?_replicate, if_pos (by omega)])) fun a ha => ?_
            refine seg ha 4 [(0, .slice (some ⟨gr, 0, none⟩) rows.length rows.length), (6, .int .i64 (i : Int)), (7, .slice (some ⟨g, 0, none⟩) r.cap r.cap), (8, .int .i64 (k : Int)), (66, .bool (IntKind.u8.wrap ((i : Int) + 1) != IntKind.u8.wrap (IntKind.i64.wrap ((i : Int) + 1))))] (by kernel_rfl) fun a ha => ?_
            refine hK7 _ _ ?_; clear hK7 K7
            refine cnd ha rfl (fun hx => ?_) (fun hx => ?_)
            · rw [ewb i hlt] at hx
              simp at hx
            · refine wp_skip ?_
              refine hK6 _ _ ?_; clear hK6 K6
              refine wp_region_lit ?_
              have e5 : IntKind.i64.wrap ((k : Int) + 1) = ((k + 1 : Nat) : Int) := by rw [IntKind.wrap_i64]; omega
              refine seg ha 3 [(0, .slice (some ⟨gr, 0, none⟩) rows.length rows.length), (6, .int .i64 (i : Int)), (7, .slice (some ⟨g, 0, none⟩) r.cap r.cap), (8, .int .i64 (IntKind.i64.wrap ((k : Int) + 1)))] (by kernel_rfl) fun a ha => ?_
              rw [e5, ← hao] at ha
              exact ⟨kk2 - 1, by omega, k + 1, by omega, by omega, rfl, ha⟩
          · refine wp_exit ?_
            simp only [Exit.then, Exit.inBlock, ↓reduceIte, Nat.reduceEqDiff]
            refine hK3 _ _ ?_
            refine wp_region_lit ?_
            have e3 : IntKind.i64.wrap ((i : Int) + 1) = ((i + 1 : Nat) : Int) := by rw [IntKind.wrap_i64]; omega
            refine seg ha 3 [(0, .slice (some ⟨gr, 0, none⟩) rows.length rows.length), (6, .int .i64 (IntKind.i64.wrap ((i : Int) + 1)))] (by kernel_rfl) fun a ha => ?_
            rw [e3] at ha
            exact ⟨kk - 1, by omega, i + 1, by omega, by omega, ha, hC2, hS2⟩
      · refine wp_exit ?_
        simp only [Exit.then, Exit.inBlock, ↓reduceIte, Nat.reduceEqDiff]
        refine hKB _ _ ?_
        refine wp_seq_k fun K hK => ?_
        refine wp_region_lit ?_
        refine seg ha 1 [(2, .bool true)] (by kernel_rfl) fun a ha => ?_
        refine hK _ _ ?_; clear hK K
        refine wp_ret ?_
        refine rt1 ha rfl rfl ⟨rfl, hC, hM.chg hC, fun j q g h1 h2 => ?_⟩
        obtain ⟨cur, c1, c2, c3⟩ := hS j q g h1 h2
        exact ⟨cur, c1, c2, _, c3⟩
  refine wp_block ?_
  refine wp_loop_ghost (fun kk a w1 => ∃ (i : Nat), kk + i = rows.length + 1 ∧ i ≤ rows.length ∧ Has a Tryz.f25.ntmps [(0, .slice (some ⟨gr, 0, none⟩) rows.length rows.length), (3, .int .i64 (i : Int))] ∧ Chg (gsOf rows) w w1 ∧ Cells w1 rows (fun j cur => j < i → cur = List.replicate cur.length (.int .u8 (IntKind.u8.wrap ((j : Int) + 1))))) (rows.length + 1) ?_ ?_
  · exact ⟨0, by omega, by omega, ha, Chg.refl _ _, fun i r g h1 h2 => by
      obtain ⟨cur, c1, c2, _⟩ := h0 i r g h1 h2
      exact ⟨cur, c1, c2, fun h => absurd h (Nat.not_lt_zero _)⟩⟩
  · rintro kk a w1 ⟨i, hk, hi, ha, hC, hS⟩
    have hR1 := hR.keep hC
    refine wp_seq_k fun K1 hK1 => ?_
    refine wp_seq_k fun K2 hK2 => ?_
    refine wp_region_lit ?_
    refine seg ha 4 [(0, .slice (some ⟨gr, 0, none⟩) rows.length rows.length), (3, .int .i64 (i : Int)), (12, .bool (decide ((i : Int) < (rows.length : Int))))] (by kernel_rfl) fun a ha => ?_
    refine hK2 _ _ ?_; clear hK2 K2
    refine cnd ha rfl (fun hc => ?_) (fun hc => ?_)
    · refine wp_skip ?_
      refine hK1 _ _ ?_; clear hK1 K1
      have hlt : i < rows.length := by simpa using hc
      obtain ⟨r, hr⟩ : ∃ r, rows[i]? = some r := ⟨rows[i], by simp [hlt]⟩
      obtain ⟨hr1, hr2, hr3⟩ := hR.cap r (List.mem_of_getElem? hr)
      refine wp_seq_k fun K3 hK3 => ?_
      refine wp_block ?_
      refine wp_seq_k fun K4 hK4 => ?_
      refine drq0 (fun w' => Chg [] w1 w') (by kernel_rfl) (by kernel_rfl) (fun _ h => h) ?_
      have hrow : (rows.map Row.v)[i]? = some r.v := by simp [hr]
      refine qp 0 (.slice (some ⟨gr, 0, none⟩) rows.length rows.length) ha rfl rfl rfl (by kernel_rfl) fun a ha => ?_
      refine qp 0 (.int .i64 (i : Int)) ha rfl rfl rfl (by kernel_rfl) fun a ha => ?_
      refine qv ha rfl rfl rfl (fun w' _ => ixa (T := 36) ha (by kernel_rfl) (by kernel_rfl) rfl rfl (by omega) (by omega) w') fun a ha => ?_
      refine qv (v := r.v) ha rfl rfl rfl (fun w' hs => ld_run ha rfl (by kernel_rfl) ((Box.chg hR1.row hs (fun h => nomatch h)).cell' (o := i) (by simp) hrow)) fun a ha => ?_
      refine qp 0 (.slice (some ⟨gr, 0, none⟩) rows.length rows.length) ha rfl rfl rfl (by kernel_rfl) fun a ha => ?_
      refine qp 0 (.int .i64 (i : Int)) ha rfl rfl rfl (by kernel_rfl) fun a ha => ?_
      refine qv ha rfl rfl rfl (fun w' _ => ixa (T := 36) ha (by kernel_rfl) (by kernel_rfl) rfl rfl (by omega) (by omega) w') fun a ha => ?_
      refine qv (v := r.v) ha rfl rfl rfl (fun w' hs => ld_run ha rfl (by kernel_rfl) ((Box.chg hR1.row hs (fun h => nomatch h)).cell' (o := i) (by simp) hrow)) fun a ha => ?_
      refine qp 0 (.int .i64 (r.cap : Int)) ha rfl rfl rfl (by kernel_rfl) fun a ha => ?_
      refine qv (v := .slice r.ao r.cap r.cap) ha rfl rfl rfl (fun w' _ => slx_run (T := 5) (s := 1) ha (by kernel_rfl) (by kernel_rfl) rfl rfl w') fun a ha => ?_
      refine qp 0 (.slice r.ao r.cap r.cap) ha rfl rfl rfl (by kernel_rfl) fun a ha => ?_
      refine wpQuiet_nil ?_
      intro w2 hc2
      refine wpl_end ?_
      have ha := ha.sel (env' := [(0, .slice (some ⟨gr, 0, none⟩) rows.length rows.length), (3, .int .i64 (i : Int)), (4, .slice r.ao r.cap r.cap)]) (by kernel_rfl)
      refine hK4 _ _ ?_; clear hK4 K4
      have hC2 := hC.trans hc2 (Ok.nil _ _)
      have hS2 : Cells w2 rows (fun j cur => j < i → cur = List.replicate cur.length (.int .u8 (IntKind.u8.wrap ((j : Int) + 1)))) := fun j q g h1 h2 => by
        obtain ⟨cur, c1, c2, c3⟩ := hS j q g h1 h2
        exact ⟨cur, c1.chg hc2 (by simp), c2, c3⟩
      refine wp_seq_k fun K4 hK4 => ?_
      refine wp_region_lit ?_
      refine seg ha 1 [(0, .slice (some ⟨gr, 0, none⟩) rows.length rows.length), (3, .int .i64 (i : Int)), (4, .slice r.ao r.cap r.cap), (5, .int .i64 0)] (by kernel_rfl) fun a ha => ?_
      refine hK4 _ _ ?_; clear hK4 K4
      have ewb : ∀ (j : Nat), j < rows.length → IntKind.u8.wrap (IntKind.i64.wrap ((j : Int) + 1)) = IntKind.u8.wrap ((j : Int) + 1) := fun j hj => by
        have : IntKind.i64.wrap ((j : Int) + 1) = (j : Int) + 1 := by rw [IntKind.wrap_i64]; omega
        rw [this]
      have hm : maxLen = 9223372036854775807 := rfl
      refine wp_block ?_
      refine wp_loop_ghost (fun kk a w3 => ∃ (k : Nat), kk + k = r.cap + 1 ∧ k ≤ r.cap ∧ Has a Tryz.f25.ntmps [(0, .slice (some ⟨gr, 0, none⟩) rows.length rows.length), (3, .int .i64 (i : Int)), (4, .slice r.ao r.cap r.cap), (5, .int .i64 (k : Int))] ∧ Chg (gsOf rows) w w3 ∧
        Cells w3 rows (fun j cur => (j < i → cur = List.replicate cur.length (.int .u8 (IntKind.u8.wrap ((j : Int) + 1)))) ∧ (j = i → cur.take k = List.replicate k (.int .u8 (IntKind.u8.wrap ((j : Int) + 1)))))) (r.cap + 1) ?_ ?_
      · exact ⟨0, by omega, by omega, ha, hC2, fun j q g h1 h2 => by
          obtain ⟨cur, c1, c2, c3⟩ := hS2 j q g h1 h2
          exact ⟨cur, c1, c2, c3, fun _ => by simp⟩⟩
      · rintro kk2 a w3 ⟨k, hkk, hkc, ha, hC3, hS3⟩
        refine wp_seq_k fun K5 hK5 => ?_
        refine wp_seq_k fun K6 hK6 => ?_
        refine wp_region_lit ?_
        refine seg ha 4 [(0, .slice (some ⟨gr, 0, none⟩) rows.length rows.length), (3, .int .i64 (i : Int)), (4, .slice r.ao r.cap r.cap), (5, .int .i64 (k : Int)), (28, .bool (decide ((k : Int) < (r.cap : Int))))] (by kernel_rfl) fun a ha => ?_
        refine hK6 _ _ ?_; clear hK6 K6
        refine cnd ha rfl (fun hc => ?_) (fun hc => ?_)
        · refine wp_skip ?_
          refine hK5 _ _ ?_; clear hK5 K5
          have hkl : k < r.cap := by simpa using hc
          obtain ⟨g, hg⟩ : ∃ g, r.g = some g := by
            cases hgg : r.g with
            | none => have := hr3 hgg; omega
            | some g => exact ⟨g, rfl⟩
          have hao : r.ao = some ⟨g, 0, none⟩ := by simp [Row.ao, hg]
          rw [hao] at ha
          obtain ⟨cur, c1, c2, c3, c4⟩ := hS3 i r g hr hg
          refine wp_seq_k fun K6 hK6 => ?_
          refine wp_block ?_
          refine wp_region_lit ?_
          refine seg ha 5 [(0, .slice (some ⟨gr, 0, none⟩) rows.length rows.length), (3, .int .i64 (i : Int)), (4, .slice (some ⟨g, 0, none⟩) r.cap r.cap), (5, .int .i64 (k : Int)), (31, .slice (some ⟨g, 0, none⟩) r.cap r.cap), (32, .int .i64 (k : Int)), (35, .int .u8 (IntKind.u8.wrap (IntKind.i64.wrap ((i : Int) + 1))))] (by kernel_rfl) fun a ha => ?_
          refine hop ha rfl rfl rfl (ixa (T := 5) ha (by kernel_rfl) (by kernel_rfl) rfl rfl (by omega) (by omega) _) fun a ha => ?_
          refine st (cs := cur) (g := g) (o' := k) ha rfl rfl (by simp) (by kernel_rfl) rfl rfl c1 (by omega) fun a w4 ha hB4 hc4 _ => ?_
          refine wpl_end ?_
          have ha := ha.sel (env' := [(0, .slice (some ⟨gr, 0, none⟩) rows.length rows.length), (3, .int .i64 (i : Int)), (4, .slice (some ⟨g, 0, none⟩) r.cap r.cap), (5, .int .i64 (k : Int))]) (by kernel_rfl)
          refine hK6 _ _ ?_; clear hK6 K6
          refine wp_region_lit ?_
          have e5 : IntKind.i64.wrap ((k : Int) + 1) = ((k + 1 : Nat) : Int) := by rw [IntKind.wrap_i64]; omega
          refine seg ha 3 [(0, .slice (some ⟨gr, 0, none⟩) rows.length rows.length), (3, .int .i64 (i : Int)), (4, .slice (some ⟨g, 0, none⟩) r.cap r.cap), (5, .int .i64 (IntKind.i64.wrap ((k : Int) + 1)))] (by kernel_rfl) fun a ha => ?_
          rw [e5, ← hao] at ha
          refine ⟨kk2 - 1, by omega, k + 1, by omega, by omega, ha, hC3.trans hc4 (Ok.one (.inl (gs_mem hr hg))), fun j q g2 h1 h2 => ?_⟩
          by_cases hji : j = i
          · subst hji
            have hq : q = r := Option.some.inj (h1.symm.trans hr)
            subst hq
            have hgg : g2 = g := Option.some.inj (h2.symm.trans hg)
            subst hgg
            refine ⟨_, hB4, by simp [c2], fun h => absurd h (Nat.lt_irrefl _), fun _ => ?_⟩
            rw [ewb j hlt, List.replicate_succ', ← c4 rfl]
            rw [List.take_add_one]
            have hklen : k < cur.length := by omega
            rw [List.take_set_of_le (Nat.le_refl _)]
            simp [hklen]
          · have hne : g2 ≠ g := fun e => hji (hR.one j i q r g h1 hr (e ▸ h2) hg)
            obtain ⟨cu, b1, b2, b3, b4⟩ := hS3 j q g2 h1 h2
            exact ⟨cu, b1.chg hc4 (by simpa using hne), b2, b3, fun e => absurd e hji⟩
        · refine wp_exit ?_
          simp only [Exit.then, Exit.inBlock, ↓reduceIte, Nat.reduceEqDiff]
          have hkc' : k = r.cap := by
            have : ¬ k < r.cap := by simpa using hc
            omega
          subst hkc'
          refine hK3 _ _ ?_
          refine wp_region_lit ?_
          have e3 : IntKind.i64.wrap ((i : Int) + 1) = ((i + 1 : Nat) : Int) := by rw [IntKind.wrap_i64]; omega
          refine seg ha 3 [(0, .slice (some ⟨gr, 0, none⟩) rows.length rows.length), (3, .int .i64 (IntKind.i64.wrap ((i : Int) + 1)))] (by kernel_rfl) fun a ha => ?_
          rw [e3] at ha
          refine ⟨kk - 1, by omega, i + 1, by omega, by omega, ha, hC3, fun j q g2 h1 h2 => ?_⟩
          obtain ⟨cu, b1, b2, b3, b4⟩ := hS3 j q g2 h1 h2
          refine ⟨cu, b1, b2, fun hj => ?_⟩
          by_cases hji : j = i
          · have hq : q = r := by subst hji; exact Option.some.inj (h1.symm.trans hr)
            subst hq
            have := b4 hji
            rw [← b2, List.take_length] at this
            exact this
          · exact b3 (by omega)
    · refine wp_exit ?_
      simp only [Exit.then, Exit.inBlock, ↓reduceIte, Nat.reduceEqDiff]
      have hge : i = rows.length := by
        have : ¬ i < rows.length := by simpa using hc
        omega
      subst hge
      exact J1 _ _ (ha.sel (by kernel_rfl)) hC (fun j q g h1 h2 => by
        obtain ⟨cur, c1, c2, c3⟩ := hS j q g h1 h2
        exact ⟨cur, c1, c2, c3 (List.getElem?_eq_some_iff.1 h1).1⟩)
theorem Owned.call (w : World) (M : List Nat) (hM : MS M w) (gr : Nat) (l : List (Option Addr × Nat × Nat)) (gs : List Nat) (h : ∀ q ∈ l, RowOk w q) (hp : l.Pairwise (fun p q => ∀ x ∈ blkL p.1, x ∉ blkL q.1)) (ho : ∀ q ∈ l, gr ∉ blkL q.1) (hB : Box w gr (l.map fun q => .slice q.1 q.2.1 q.2.2)) (hl : l.length ≤ 1000) (hgs : ∀ q ∈ l, ∀ x ∈ blkL q.1, x ∈ gs) :
    To Tryz.prog 25 [.slice (some ⟨gr, 0, none⟩) l.length l.length] w fun v w' => v = .bool true ∧ Chg gs w w' ∧ MS M w' := by
  obtain ⟨h1, h2, h3⟩ := rows_of l h hp ho hB
  have e : (l.map rowOf).length = l.length := by simp
  have := Owned.go w M hM gr (l.map rowOf) h1 (by omega) h2
  rw [e] at this
  exact this.mono fun v w' ⟨e, hc, hm, _⟩ => ⟨e, hc.mono (fun x hx => .inl (h3 gs hgs x hx)), hm⟩

end Go.E
