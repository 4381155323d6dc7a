/- What the functions that the law reaches compute, and the walks that show it. -/
import Derived.Test.YtcejhnpncodkjaaGreatDoorEngU
import Derived.Test.YtcejhnpncodkjaaGreatDoorShelf
import Derived.Test.YtcejhnpncodkjaaGreatDoorEngQ
import Derived.Test.YtcejhnpncodkjaaGreatDoorEngY
import Derived.Test.YtcejhnpncodkjaaGreatDoorProg
import Derived.Test.YtcejhnpncodkjaaGreatDoorGenCommunityBackP1
set_option linter.unusedVariables false
set_option linter.unusedSimpArgs false
namespace Go.E
open Go.RowKit Go.Proofs
def slices_Index_Ext.l0 (a0 : List (List Int)) (a1 : List Int) : Nat → Int → Option ((Int) ⊕ (Unit))
  | 0, _ => none
  | kk + 1, x11 => (if (decide (x11 < (a0.length : Int))) = true then (if 0 ≤ x11 ∧ x11 < (a0.length : Int) then (if (eqA 8 a1 (rd a0 x11)) = true then some (.inl ((x11 : Int))) else slices_Index_Ext.l0 a0 a1 kk (IntKind.i64.wrap (x11 + (1 : Int)))) else none) else some (.inr (() : Unit)))
def slices_Index_Ext.f (k : Nat) (a0 : List (List Int)) (a1 : List Int) : Option (Int) := (slices_Index_Ext.l0 a0 a1 k (0 : Int)).bind fun s10 => match s10 with | .inl r => some r | .inr s10' => some (((-1 : Int) : Int))
set_option maxRecDepth 100000 in
theorem slices_Index_Ext.walk (w : World) (M : List Nat) (hM : MS M w) (a0 : List (List Int)) (ao1 : Option Addr) (cap1 : Nat) (f1 : RSl (rArr .u8 8) 27 w M ao1 cap1 a0) (a1 : List Int) (k : Nat) (r : Int) (H : slices_Index_Ext.f k a0 a1 = some r) :
    To Tryz.prog 85 [.slice ao1 a0.length cap1, .agg (cA .u8 8 a1).toArray] w fun v w' => v = .int .i64 r ∧ Chg [] w w' ∧ MS (M) w' := by
 unfold slices_Index_Ext.f at H
 refine ent Tryz.func85 rfl [(0, .slice ao1 a0.length cap1), (1, .agg (cA .u8 8 a1).toArray)] rfl (by rfl) fun a ha => ?_
 have hC : Chg [] w w := Chg.refl _ _
 refine wp_seq_k fun K2 hK2 => ?_
 refine wp_region_lit ?_
 refine bx (cs := (cA .u8 8 a1)) ha rfl rfl rfl rfl rfl fun a w3 g4 hN5 ha => ?_
 have hn7 := hN5.notin hM
 have o1 : Ok [] (M) w.heap.size := Ok.nil _ _
 have o2 : Ok (M) (M) w.heap.size := (Ok.refl _ _)
 have f1 := f1.chg hN5.chg o1 o2
 have hM : MS (M) w3 := (hM.chg hN5.chg)
 have hC := hC.trans hN5.chg (Ok.nil _ _)
 have hE6 : ∀ j v, (cA .u8 8 a1)[j]? = some v → w3.cell? ⟨g4, 0 + j, none⟩ = some v := Box.cells (New.box hN5)
 refine seg ha 1 [(0, .slice ao1 a0.length cap1), (3, .pointer (some ⟨g4, 0, none⟩))] (by kernel_rfl) fun a ha => ?_
 refine hK2 _ _ ?_; try clear hK2 K2
 refine wp_seq_k fun K8 hK8 => ?_
 refine wp_seq_k fun K9 hK9 => ?_
 refine wp_region_lit ?_
 refine seg ha 3 [(0, .slice ao1 a0.length cap1), (3, .pointer (some ⟨g4, 0, none⟩)), (7, .int .i64 (a0.length : Int)), (8, .int .i64 (0 : Int))] (by kernel_rfl) fun a ha => ?_
 refine hK9 _ _ ?_; try clear hK9 K9
 refine wp_block ?_
 obtain ⟨s10, H10, H⟩ := bind_some H
 have J10 : ∀ s10' (a : Act) (wx10 : World), s10 = .inr s10' → Has a Tryz.f85.ntmps [] → (Chg [] w wx10) → (MS (M) wx10) → K8 a wx10 := by
  intro s10' a wx10 hs ha hC hM
  subst hs
  refine hK8 _ _ ?_; try clear hK8 K8
  refine wp_seq_k fun K12 hK12 => ?_
  refine wp_region_lit ?_
  refine seg ha 1 [(4, .int .i64 (-1 : Int))] (by kernel_rfl) fun a ha => ?_
  refine hK12 _ _ ?_; try clear hK12 K12
  refine wp_ret ?_
  try simp only [Exit.then, Exit.inBlock]
  obtain rfl := Option.some.inj H
  refine rt1 ha rfl rfl ?_
  exact ⟨rfl, hC, hM⟩
 have Hc10 := H
 have H := H10
 refine wp_loop_ghost (fun kk a w10 => ∃ (x11 : Int), slices_Index_Ext.l0 a0 a1 kk x11 = some s10 ∧ Has a Tryz.f85.ntmps [(0, .slice ao1 a0.length cap1), (3, .pointer (some ⟨g4, 0, none⟩)), (7, .int .i64 (a0.length : Int)), (8, .int .i64 x11)] ∧ (RSl (rArr .u8 8) 27 w10 (M) ao1 cap1 a0) ∧ (∀ j v, (cA .u8 8 a1)[j]? = some v → w10.cell? ⟨g4, 0 + j, none⟩ = some v) ∧ (g4 ∉ (M)) ∧ (Chg [] w w10) ∧ (MS (M) w10)) k ?_ ?_
 ·skip
  exact ⟨(0 : Int), H, (ha.sel (by kernel_rfl)), f1, hE6, hn7, hC, hM⟩
 ·rintro kk a w10 ⟨x11, H, ha, f1, hE6, hn7, hC, hM⟩
  obtain _ | kk := kk
  ·exact nomatch (show none = some _ from H)
  rw [slices_Index_Ext.l0] at H
  refine wp_seq_k fun K13 hK13 => ?_
  refine wp_region_lit ?_
  refine seg ha 1 [(0, .slice ao1 a0.length cap1), (3, .pointer (some ⟨g4, 0, none⟩)), (7, .int .i64 (a0.length : Int)), (8, .int .i64 x11), (9, .bool (decide (x11 < (a0.length : Int))))] (by kernel_rfl) fun a ha => ?_
  refine hK13 _ _ ?_; try clear hK13 K13
  refine wp_seq_k fun K14 hK14 => ?_
  refine cnd ha rfl (fun hc15 => ?_) (fun hc15 => ?_)
  ·have H := ite_t hc15 H
   refine wp_skip ?_
   refine hK14 _ _ ?_; try clear hK14 K14
   refine wp_seq_k fun K16 hK16 => ?_
   refine wp_block ?_
   refine wp_seq_k fun K17 hK17 => ?_
   refine wp_region_lit ?_
   refine seg ha 2 [(0, .slice ao1 a0.length cap1), (3, .pointer (some ⟨g4, 0, none⟩)), (5, .int .i64 x11), (7, .int .i64 (a0.length : Int)), (8, .int .i64 x11)] (by kernel_rfl) fun a ha => ?_
   refine hK17 _ _ ?_; try clear hK17 K17
   refine wp_seq_k fun K18 hK18 => ?_
   refine drq0 (fun w' => Chg [] w10 w') (by kernel_rfl) (by kernel_rfl) (fun _ h => h) ?_
   refine qv (v := .agg (cA .u8 8 a1).toArray) ha rfl rfl rfl (fun w' hs => ldA_run (cs := (cA .u8 8 a1)) ha rfl (by kernel_rfl) (cells_sub (fun j v hv => hs.keep (hE6 j v hv)) (all := (cA .u8 8 a1)) [] [] (by kernel_rfl))) fun a ha => ?_
   refine qp 0 (.slice ao1 a0.length cap1) ha rfl rfl rfl (by kernel_rfl) fun a ha => ?_
   refine qp 0 (.int .i64 x11) ha rfl rfl rfl (by kernel_rfl) fun a ha => ?_
   obtain ⟨⟨hx19, hx19'⟩, H⟩ := ite_some H
   obtain ⟨ge20, oe210, cs22, hx19eq, hn25, hR23, hE24⟩ := RSl.elem f1 (Int.toNat x11) (by omega)
   rw [rd_get] at hR23
   obtain rfl := hR23
   have hE24 : ∀ j v, (cA .u8 8 (rd a0 x11))[j]? = some v → w10.cell? ⟨ge20, (oe210 + (Int.toNat x11) * (rArr .u8 8).sz) + j, none⟩ = some v := hE24
   refine qv (v := .pointer (some ⟨ge20, (oe210 + (Int.toNat x11) * (rArr .u8 8).sz), none⟩)) ha rfl rfl rfl (fun w' hs => ix_run (r := (rArr .u8 8)) (T := 27) ha (by kernel_rfl) (by kernel_rfl) (by rfl) (by rfl) hx19eq hx19 hx19') fun a ha => ?_
   refine qv (v := .agg (cA .u8 8 (rd a0 x11)).toArray) ha rfl rfl rfl (fun w' hs => ldA_run (cs := (cA .u8 8 (rd a0 x11))) ha rfl (by kernel_rfl) (cells_sub (fun j v hv => hs.keep (hE24 j v hv)) (all := (cA .u8 8 (rd a0 x11))) [] [] (by kernel_rfl))) fun a ha => ?_
   refine qv (v := .bool (eqA 8 a1 (rd a0 x11))) ha rfl rfl rfl (fun w' hs => eqs_run (r := (eqA 8 a1 (rd a0 x11))) (m := 9) ha rfl rfl (by kernel_rfl) rfl (by kernel_rfl) w') fun a ha => ?_
   refine wpQuiet_nil ?_
   intro w26 hc27
   have o1 : Ok [] (M) w10.heap.size := Ok.nil _ _
   have o2 : Ok (M) (M) w10.heap.size := (Ok.refl _ _)
   have f1 := f1.chg hc27 o1 o2
   have q_hn7 : g4 ∉ M := fun h => (o2 g4 h).elim hn7 (fun h => absurd (lt_cell (hE6 0 _ rfl)) (Nat.not_lt.2 h))
   have hE6 : ∀ j v, (cA .u8 8 a1)[j]? = some v → w26.cell? ⟨g4, 0 + j, none⟩ = some v := fun j v hv => (cell_keep hc27 o1 hn7 (hE6 j v hv))
   have hn7 := q_hn7
   have q_hn25 : ge20 ∉ M := fun h => (o2 ge20 h).elim hn25 (fun h => absurd (lt_cell (hE24 0 _ rfl)) (Nat.not_lt.2 h))
   have hE24 : ∀ j v, (cA .u8 8 (rd a0 x11))[j]? = some v → w26.cell? ⟨ge20, (oe210 + (Int.toNat x11) * (rArr .u8 8).sz) + j, none⟩ = some v := fun j v hv => (cell_keep hc27 o1 hn25 (hE24 j v hv))
   have hn25 := q_hn25
   have hM : MS (M) w26 := (hM.chg hc27)
   have hC := hC.trans hc27 (Ok.nil _ _)
   refine wpl_end ?_
   refine hK18 _ _ ?_; try clear hK18 K18
   refine cnd ha rfl (fun hc28 => ?_) (fun hc28 => ?_)
   ·have H := ite_t hc28 H
    refine wp_seq_k fun K29 hK29 => ?_
    refine wp_region_lit ?_
    refine seg ha 2 [(4, .int .i64 x11)] (by kernel_rfl) fun a ha => ?_
    refine hK29 _ _ ?_; try clear hK29 K29
    refine wp_ret ?_
    try simp only [Exit.then, Exit.inBlock]
    obtain rfl := Option.some.inj H
    have H := (show some _ = some _ from Hc10)
    obtain rfl := Option.some.inj H
    refine rt1 ha rfl rfl ?_
    exact ⟨rfl, hC, hM⟩
   ·have H := ite_f hc28 H
    refine wp_skip ?_
    refine hK16 _ _ ?_; try clear hK16 K16
    refine wp_region_lit ?_
    refine seg ha 2 [(0, .slice ao1 a0.length cap1), (3, .pointer (some ⟨g4, 0, none⟩)), (7, .int .i64 (a0.length : Int)), (8, .int .i64 (IntKind.i64.wrap (x11 + (1 : Int))))] (by kernel_rfl) fun a ha => ?_
    exact ⟨kk, Nat.lt_succ_self _, ⟨IntKind.i64.wrap (x11 + (1 : Int)), H, (ha.sel (by kernel_rfl)), f1, hE6, hn7, hC, hM⟩⟩
  ·have H := ite_f hc15 H
   refine wp_exit ?_
   simp only [Exit.then, Exit.inBlock, ↓reduceIte, Nat.reduceEqDiff]
   obtain rfl := Option.some.inj H
   exact J10 _ _ _ rfl (ha.sel (by kernel_rfl)) hC hM
def slices_Contains_Ext.f (k : Nat) (a0 : List (List Int)) (a1 : List Int) : Option (Bool) := (slices_Index_Ext.f k a0 a1).bind fun t9 => some ((decide (t9 ≥ (0 : Int)) : Bool))
set_option maxRecDepth 100000 in
theorem slices_Contains_Ext.walk (w : World) (M : List Nat) (hM : MS M w) (a0 : List (List Int)) (ao1 : Option Addr) (cap1 : Nat) (f1 : RSl (rArr .u8 8) 27 w M ao1 cap1 a0) (a1 : List Int) (k : Nat) (r : Bool) (H : slices_Contains_Ext.f k a0 a1 = some r) :
    To Tryz.prog 53 [.slice ao1 a0.length cap1, .agg (cA .u8 8 a1).toArray] w fun v w' => v = .bool r ∧ Chg [] w w' ∧ MS (M) w' := by
 unfold slices_Contains_Ext.f at H
 refine ent Tryz.func53 rfl [(0, .slice ao1 a0.length cap1), (1, .agg (cA .u8 8 a1).toArray)] rfl (by rfl) fun a ha => ?_
 have hC : Chg [] w w := Chg.refl _ _
 refine wp_seq_k fun K2 hK2 => ?_
 refine wp_region_lit ?_
 refine bx (cs := (cA .u8 8 a1)) ha rfl rfl rfl rfl rfl fun a w3 g4 hN5 ha => ?_
 have hn7 := hN5.notin hM
 have o1 : Ok [] (M) w.heap.size := Ok.nil _ _
 have o2 : Ok (M) (M) w.heap.size := (Ok.refl _ _)
 have f1 := f1.chg hN5.chg o1 o2
 have hM : MS (M) w3 := (hM.chg hN5.chg)
 have hC := hC.trans hN5.chg (Ok.nil _ _)
 have hE6 : ∀ j v, (cA .u8 8 a1)[j]? = some v → w3.cell? ⟨g4, 0 + j, none⟩ = some v := Box.cells (New.box hN5)
 refine seg ha 1 [(0, .slice ao1 a0.length cap1), (3, .pointer (some ⟨g4, 0, none⟩))] (by kernel_rfl) fun a ha => ?_
 refine hK2 _ _ ?_; try clear hK2 K2
 refine wp_seq_k fun K8 hK8 => ?_
 refine wp_region_lit ?_
 refine seg ha 1 [(3, .pointer (some ⟨g4, 0, none⟩)), (5, .slice ao1 a0.length cap1)] (by kernel_rfl) fun a ha => ?_
 refine ldA (cs := (cA .u8 8 a1)) ha rfl (by kernel_rfl) rfl rfl rfl (cells_sub hE6 (all := (cA .u8 8 a1)) [] [] (by kernel_rfl)) fun a ha => ?_
 obtain ⟨t9, H9, H⟩ := bind_some H
 refine cl ha (by rfl) (by kernel_rfl) (by rfl) (by rfl) (by rfl) (slices_Index_Ext.walk w3 _ hM a0 ao1 cap1 f1 a1 k _ H9) ?_
 rintro _ w9 ⟨rfl, hc9, hMn⟩ a ha
 have o1 : Ok [] (M) w3.heap.size := Ok.nil _ _
 have o2 : Ok (M) (M) w3.heap.size := (Ok.refl _ _)
 have f1 := f1.chg hc9 o1 o2
 have hM : MS (M) w9 := (hM.chg hc9)
 have hC := hC.trans hc9 (Ok.nil _ _)
 refine seg ha 2 [(4, .bool (decide (t9 ≥ (0 : Int))))] (by kernel_rfl) fun a ha => ?_
 refine hK8 _ _ ?_; try clear hK8 K8
 refine wp_ret ?_
 try simp only [Exit.then, Exit.inBlock]
 obtain rfl := Option.some.inj H
 refine rt1 ha rfl rfl ?_
 exact ⟨rfl, hC, hM⟩
def community_Meet_1.f (k : Nat) (a0 : List Int) (a1 : List (List Int)) : Option (Bool) := ((community_Kind.f a0).bind fun t10 => (if (t10 == (1 : Int)) = true then (slices_Contains_Ext.f k a1 a0).bind fun t12 => some (t12 : Bool) else some (false : Bool))).bind fun s9 => some ((s9 : Bool))
set_option maxRecDepth 100000 in
theorem community_Meet_1.walk (w : World) (M : List Nat) (hM : MS M w) (a0 : List Int) (gp1 : Nat) (a1 : List (List Int)) (ao1 : Option Addr) (cap1 : Nat) (f1 : RSl (rArr .u8 8) 27 w M ao1 cap1 a1) (hBgp1 : Box w gp1 ([.slice ao1 a1.length cap1] : List Value)) (hg_gp1 : gp1 ∈ M) (k : Nat) (r : Bool) (H : community_Meet_1.f k a0 a1 = some r) :
    To Tryz.prog 52 [.agg (cA .u8 8 a0).toArray, .pointer (some ⟨gp1, 0, none⟩)] w fun v w' => v = .bool r ∧ Chg [] w w' ∧ MS (M) w' := by
 unfold community_Meet_1.f at H
 refine ent Tryz.func52 rfl [(0, .agg (cA .u8 8 a0).toArray), (1, .pointer (some ⟨gp1, 0, none⟩))] rfl (by rfl) fun a ha => ?_
 have hC : Chg [] w w := Chg.refl _ _
 refine wp_seq_k fun K2 hK2 => ?_
 refine wp_region_lit ?_
 refine bx (cs := (cA .u8 8 a0)) ha rfl rfl rfl rfl rfl fun a w3 g4 hN5 ha => ?_
 have hn7 := hN5.notin hM
 have o1 : Ok [] (M) w.heap.size := Ok.nil _ _
 have o2 : Ok (M) (M) w.heap.size := (Ok.refl _ _)
 have f1 := f1.chg hN5.chg o1 o2
 have hBgp1 := hBgp1.chg hN5.chg (fun h => nomatch h)
 have hM : MS (M) w3 := (hM.chg hN5.chg)
 have hC := hC.trans hN5.chg (Ok.nil _ _)
 have hE6 : ∀ j v, (cA .u8 8 a0)[j]? = some v → w3.cell? ⟨g4, 0 + j, none⟩ = some v := Box.cells (New.box hN5)
 refine seg ha 1 [(1, .pointer (some ⟨gp1, 0, none⟩)), (2, .pointer (some ⟨g4, 0, none⟩))] (by kernel_rfl) fun a ha => ?_
 refine hK2 _ _ ?_; try clear hK2 K2
 refine wp_seq_k fun K8 hK8 => ?_
 refine wp_region_lit ?_
 obtain ⟨s9, H9, H⟩ := bind_some H
 have J9 : ∀ (a : Act) (w9 : World), Has a Tryz.f52.ntmps [(3, .bool s9)] → (RSl (rArr .u8 8) 27 w9 (M) ao1 cap1 a1) → (Box w9 gp1 ([.slice ao1 a1.length cap1] : List Value)) → (Chg [] w w9) → (MS (M) w9) → K8 a w9 := by
  intro a w9 ha f1 hBgp1 hC hM
  refine hK8 _ _ ?_; try clear hK8 K8
  refine wp_ret ?_
  try simp only [Exit.then, Exit.inBlock]
  obtain rfl := Option.some.inj H
  refine rt1 ha rfl rfl ?_
  exact ⟨rfl, hC, hM⟩
 have H := H9
 refine ldA (cs := (cA .u8 8 a0)) ha rfl (by kernel_rfl) rfl rfl rfl (cells_sub hE6 (all := (cA .u8 8 a0)) [] [] (by kernel_rfl)) fun a ha => ?_
 obtain ⟨t10, H10, H⟩ := bind_some H
 refine cl ha (by rfl) (by kernel_rfl) (by rfl) (by rfl) (by rfl) (community_Kind.walk w3 _ hM a0 _ H10) ?_
 rintro _ w10 ⟨rfl, hc10, hMn⟩ a ha
 have o1 : Ok [] (M) w3.heap.size := Ok.nil _ _
 have o2 : Ok (M) (M) w3.heap.size := (Ok.refl _ _)
 have f1 := f1.chg hc10 o1 o2
 have hBgp1 := hBgp1.chg hc10 (fun h => nomatch h)
 have q_hn7 : g4 ∉ M := fun h => (o2 g4 h).elim hn7 (fun h => absurd (lt_cell (hE6 0 _ rfl)) (Nat.not_lt.2 h))
 have hE6 : ∀ j v, (cA .u8 8 a0)[j]? = some v → w10.cell? ⟨g4, 0 + j, none⟩ = some v := fun j v hv => (cell_keep hc10 o1 hn7 (hE6 j v hv))
 have hn7 := q_hn7
 have hM : MS (M) w10 := (hM.chg hc10)
 have hC := hC.trans hc10 (Ok.nil _ _)
 refine seg ha 2 [(7, .bool (t10 == (1 : Int))), (1, .pointer (some ⟨gp1, 0, none⟩)), (2, .pointer (some ⟨g4, 0, none⟩))] (by kernel_rfl) fun a ha => ?_
 rcases Bool.eq_false_or_eq_true (t10 == (1 : Int)) with hb11 | hb11
 ·have ha := ha.lit hb11
  have H := ite_t hb11 H
  refine ld (v := .slice ao1 a1.length cap1) ha rfl (by kernel_rfl) rfl rfl rfl (hBgp1.cell' (o := 0) rfl (by kernel_rfl)) fun a ha => ?_
  refine ldA (cs := (cA .u8 8 a0)) ha rfl (by kernel_rfl) rfl rfl rfl (cells_sub hE6 (all := (cA .u8 8 a0)) [] [] (by kernel_rfl)) fun a ha => ?_
  obtain ⟨t12, H12, H⟩ := bind_some H
  refine cl ha (by rfl) (by kernel_rfl) (by rfl) (by rfl) (by rfl) (slices_Contains_Ext.walk w10 _ hM a1 ao1 cap1 f1 a0 k _ H12) ?_
  rintro _ w12 ⟨rfl, hc12, hMn⟩ a ha
  have o1 : Ok [] (M) w10.heap.size := Ok.nil _ _
  have o2 : Ok (M) (M) w10.heap.size := (Ok.refl _ _)
  have f1 := f1.chg hc12 o1 o2
  have hBgp1 := hBgp1.chg hc12 (fun h => nomatch h)
  have hM : MS (M) w12 := (hM.chg hc12)
  have hC := hC.trans hc12 (Ok.nil _ _)
  refine sgh ha 2 [3, 0] [(3, .bool t12)] (by kernel_rfl) fun a ha => ?_
  obtain rfl := Option.some.inj H
  exact J9 _ _ (ha.sel (by kernel_rfl)) f1 hBgp1 hC hM
 ·have ha := ha.lit hb11
  have H := ite_f hb11 H
  refine sgh ha 5 [1, 1, 1, 4, 0] [(3, .bool false)] (by kernel_rfl) fun a ha => ?_
  obtain rfl := Option.some.inj H
  exact J9 _ _ (ha.sel (by kernel_rfl)) f1 hBgp1 hC hM
def slices_IndexFunc_Ext_community_Meet_1.l0 (k : Nat) (a0 : List (List Int)) (a2 : List (List Int)) : Nat → Int → Option ((Int) ⊕ (Unit))
  | 0, _ => none
  | kk + 1, x7 => (if (decide (x7 < (a0.length : Int))) = true then (if 0 ≤ x7 ∧ x7 < (a0.length : Int) then (community_Meet_1.f k (rd a0 x7) a2).bind fun t22 => (if t22 = true then some (.inl ((x7 : Int))) else slices_IndexFunc_Ext_community_Meet_1.l0 k a0 a2 kk (IntKind.i64.wrap (x7 + (1 : Int)))) else none) else some (.inr (() : Unit)))
def slices_IndexFunc_Ext_community_Meet_1.f (k : Nat) (a0 : List (List Int)) (a2 : List (List Int)) : Option (Int) := (slices_IndexFunc_Ext_community_Meet_1.l0 k a0 a2 k (0 : Int)).bind fun s6 => match s6 with | .inl r => some r | .inr s6' => some (((-1 : Int) : Int))
set_option maxRecDepth 100000 in
theorem slices_IndexFunc_Ext_community_Meet_1.walk (w : World) (M : List Nat) (hM : MS M w) (a0 : List (List Int)) (ao1 : Option Addr) (cap1 : Nat) (f1 : RSl (rArr .u8 8) 27 w M ao1 cap1 a0) (gp2 : Nat) (a2 : List (List Int)) (ao2 : Option Addr) (cap2 : Nat) (f2 : RSl (rArr .u8 8) 27 w M ao2 cap2 a2) (hBgp2 : Box w gp2 ([.slice ao2 a2.length cap2] : List Value)) (hg_gp2 : gp2 ∈ M) (k : Nat) (r : Int) (H : slices_IndexFunc_Ext_community_Meet_1.f k a0 a2 = some r) :
    To Tryz.prog 84 [.slice ao1 a0.length cap1, .func (.func 52) #[] #[.pointer (some ⟨gp2, 0, none⟩)]] w fun v w' => v = .int .i64 r ∧ Chg [] w w' ∧ MS (M) w' := by
 unfold slices_IndexFunc_Ext_community_Meet_1.f at H
 refine ent Tryz.func84 rfl [(0, .slice ao1 a0.length cap1), (1, .func (.func 52) #[] #[.pointer (some ⟨gp2, 0, none⟩)])] rfl (by rfl) fun a ha => ?_
 have hC : Chg [] w w := Chg.refl _ _
 refine wp_seq_k fun K3 hK3 => ?_
 refine wp_region_lit ?_
 refine seg ha 1 [(0, .slice ao1 a0.length cap1), (1, .func (.func 52) #[] #[.pointer (some ⟨gp2, 0, none⟩)])] (by kernel_rfl) fun a ha => ?_
 refine hK3 _ _ ?_; try clear hK3 K3
 refine wp_seq_k fun K4 hK4 => ?_
 refine wp_seq_k fun K5 hK5 => ?_
 refine wp_region_lit ?_
 refine seg ha 3 [(0, .slice ao1 a0.length cap1), (1, .func (.func 52) #[] #[.pointer (some ⟨gp2, 0, none⟩)]), (7, .int .i64 (a0.length : Int)), (8, .int .i64 (0 : Int))] (by kernel_rfl) fun a ha => ?_
 refine hK5 _ _ ?_; try clear hK5 K5
 refine wp_block ?_
 obtain ⟨s6, H6, H⟩ := bind_some H
 have J6 : ∀ s6' (a : Act) (wx6 : World), s6 = .inr s6' → Has a Tryz.f84.ntmps [] → (RSl (rArr .u8 8) 27 wx6 (M) ao2 cap2 a2) → (Box wx6 gp2 ([.slice ao2 a2.length cap2] : List Value)) → (Chg [] w wx6) → (MS (M) wx6) → K4 a wx6 := by
  intro s6' a wx6 hs ha f2 hBgp2 hC hM
  subst hs
  refine hK4 _ _ ?_; try clear hK4 K4
  refine wp_seq_k fun K8 hK8 => ?_
  refine wp_region_lit ?_
  refine seg ha 1 [(4, .int .i64 (-1 : Int))] (by kernel_rfl) fun a ha => ?_
  refine hK8 _ _ ?_; try clear hK8 K8
  refine wp_ret ?_
  try simp only [Exit.then, Exit.inBlock]
  obtain rfl := Option.some.inj H
  refine rt1 ha rfl rfl ?_
  exact ⟨rfl, hC, hM⟩
 have Hc6 := H
 have H := H6
 refine wp_loop_ghost (fun kk a w6 => ∃ (x7 : Int), slices_IndexFunc_Ext_community_Meet_1.l0 k a0 a2 kk x7 = some s6 ∧ Has a Tryz.f84.ntmps [(0, .slice ao1 a0.length cap1), (1, .func (.func 52) #[] #[.pointer (some ⟨gp2, 0, none⟩)]), (7, .int .i64 (a0.length : Int)), (8, .int .i64 x7)] ∧ (RSl (rArr .u8 8) 27 w6 (M) ao1 cap1 a0) ∧ (RSl (rArr .u8 8) 27 w6 (M) ao2 cap2 a2) ∧ (Box w6 gp2 ([.slice ao2 a2.length cap2] : List Value)) ∧ (Chg [] w w6) ∧ (MS (M) w6)) k ?_ ?_
 ·skip
  exact ⟨(0 : Int), H, (ha.sel (by kernel_rfl)), f1, f2, hBgp2, hC, hM⟩
 ·rintro kk a w6 ⟨x7, H, ha, f1, f2, hBgp2, hC, hM⟩
  obtain _ | kk := kk
  ·exact nomatch (show none = some _ from H)
  rw [slices_IndexFunc_Ext_community_Meet_1.l0] at H
  refine wp_seq_k fun K9 hK9 => ?_
  refine wp_region_lit ?_
  refine seg ha 1 [(0, .slice ao1 a0.length cap1), (1, .func (.func 52) #[] #[.pointer (some ⟨gp2, 0, none⟩)]), (7, .int .i64 (a0.length : Int)), (8, .int .i64 x7), (9, .bool (decide (x7 < (a0.length : Int))))] (by kernel_rfl) fun a ha => ?_
  refine hK9 _ _ ?_; try clear hK9 K9
  refine wp_seq_k fun K10 hK10 => ?_
  refine cnd ha rfl (fun hc11 => ?_) (fun hc11 => ?_)
  ·have H := ite_t hc11 H
   refine wp_skip ?_
   refine hK10 _ _ ?_; try clear hK10 K10
   refine wp_seq_k fun K12 hK12 => ?_
   refine wp_block ?_
   refine wp_seq_k fun K13 hK13 => ?_
   refine wp_region_lit ?_
   refine seg ha 2 [(0, .slice ao1 a0.length cap1), (1, .func (.func 52) #[] #[.pointer (some ⟨gp2, 0, none⟩)]), (5, .int .i64 x7), (7, .int .i64 (a0.length : Int)), (8, .int .i64 x7)] (by kernel_rfl) fun a ha => ?_
   refine hK13 _ _ ?_; try clear hK13 K13
   refine wp_seq_k fun K14 hK14 => ?_
   refine wp_region_lit ?_
   refine seg ha 3 [(0, .slice ao1 a0.length cap1), (1, .func (.func 52) #[] #[.pointer (some ⟨gp2, 0, none⟩)]), (5, .int .i64 x7), (7, .int .i64 (a0.length : Int)), (8, .int .i64 x7), (11, .func (.func 52) #[] #[.pointer (some ⟨gp2, 0, none⟩)]), (12, .slice ao1 a0.length cap1), (13, .int .i64 x7)] (by kernel_rfl) fun a ha => ?_
   obtain ⟨⟨hx15, hx15'⟩, H⟩ := ite_some H
   refine ix (r := (rArr .u8 8)) ha (by kernel_rfl) (by kernel_rfl) rfl rfl rfl rfl rfl f1 hx15 hx15' fun a ge16 oe17 cs18 hn21 hR19 hE20 ha => ?_
   rw [rd_get] at hR19
   obtain rfl := hR19
   have hE20 : ∀ j v, (cA .u8 8 (rd a0 x7))[j]? = some v → w6.cell? ⟨ge16, oe17 + j, none⟩ = some v := hE20
   refine ldA (cs := (cA .u8 8 (rd a0 x7))) ha rfl (by kernel_rfl) rfl rfl rfl (cells_sub hE20 (all := (cA .u8 8 (rd a0 x7))) [] [] (by kernel_rfl)) fun a ha => ?_
   obtain ⟨t22, H22, H⟩ := bind_some H
   refine clc (vals := [.agg (cA .u8 8 (rd a0 x7)).toArray]) (cs := #[.pointer (some ⟨gp2, 0, none⟩)]) ha (by rfl) (by rfl) (by kernel_rfl) (by rfl) (by rfl) (by rfl) (community_Meet_1.walk w6 _ hM (rd a0 x7) gp2 a2 ao2 cap2 f2 hBgp2 (hg_gp2) k _ H22) ?_
   rintro _ w22 ⟨rfl, hc22, hMn⟩ a ha
   have o1 : Ok [] (M) w6.heap.size := Ok.nil _ _
   have o2 : Ok (M) (M) w6.heap.size := (Ok.refl _ _)
   have f1 := f1.chg hc22 o1 o2
   have f2 := f2.chg hc22 o1 o2
   have hBgp2 := hBgp2.chg hc22 (fun h => nomatch h)
   have hM : MS (M) w22 := (hM.chg hc22)
   have hC := hC.trans hc22 (Ok.nil _ _)
   refine hK14 _ _ ?_; try clear hK14 K14
   refine cnd ha rfl (fun hc23 => ?_) (fun hc23 => ?_)
   ·have H := ite_t hc23 H
    refine wp_seq_k fun K24 hK24 => ?_
    refine wp_region_lit ?_
    refine seg ha 2 [(4, .int .i64 x7)] (by kernel_rfl) fun a ha => ?_
    refine hK24 _ _ ?_; try clear hK24 K24
    refine wp_ret ?_
    try simp only [Exit.then, Exit.inBlock]
    obtain rfl := Option.some.inj H
    have H := (show some _ = some _ from Hc6)
    obtain rfl := Option.some.inj H
    refine rt1 ha rfl rfl ?_
    exact ⟨rfl, hC, hM⟩
   ·have H := ite_f hc23 H
    refine wp_skip ?_
    refine hK12 _ _ ?_; try clear hK12 K12
    refine wp_region_lit ?_
    refine seg ha 2 [(0, .slice ao1 a0.length cap1), (1, .func (.func 52) #[] #[.pointer (some ⟨gp2, 0, none⟩)]), (7, .int .i64 (a0.length : Int)), (8, .int .i64 (IntKind.i64.wrap (x7 + (1 : Int))))] (by kernel_rfl) fun a ha => ?_
    exact ⟨kk, Nat.lt_succ_self _, ⟨IntKind.i64.wrap (x7 + (1 : Int)), H, (ha.sel (by kernel_rfl)), f1, f2, hBgp2, hC, hM⟩⟩
  ·have H := ite_f hc11 H
   refine wp_exit ?_
   simp only [Exit.then, Exit.inBlock, ↓reduceIte, Nat.reduceEqDiff]
   obtain rfl := Option.some.inj H
   exact J6 _ _ _ rfl (ha.sel (by kernel_rfl)) f2 hBgp2 hC hM
def slices_ContainsFunc_Ext_community_Meet_1.f (k : Nat) (a0 : List (List Int)) (a2 : List (List Int)) : Option (Bool) := (slices_IndexFunc_Ext_community_Meet_1.f k a0 a2).bind fun t5 => some ((decide (t5 ≥ (0 : Int)) : Bool))
set_option maxRecDepth 100000 in
theorem slices_ContainsFunc_Ext_community_Meet_1.walk (w : World) (M : List Nat) (hM : MS M w) (a0 : List (List Int)) (ao1 : Option Addr) (cap1 : Nat) (f1 : RSl (rArr .u8 8) 27 w M ao1 cap1 a0) (gp2 : Nat) (a2 : List (List Int)) (ao2 : Option Addr) (cap2 : Nat) (f2 : RSl (rArr .u8 8) 27 w M ao2 cap2 a2) (hBgp2 : Box w gp2 ([.slice ao2 a2.length cap2] : List Value)) (hg_gp2 : gp2 ∈ M) (k : Nat) (r : Bool) (H : slices_ContainsFunc_Ext_community_Meet_1.f k a0 a2 = some r) :
    To Tryz.prog 51 [.slice ao1 a0.length cap1, .func (.func 52) #[] #[.pointer (some ⟨gp2, 0, none⟩)]] w fun v w' => v = .bool r ∧ Chg [] w w' ∧ MS (M) w' := by
 unfold slices_ContainsFunc_Ext_community_Meet_1.f at H
 refine ent Tryz.func51 rfl [(0, .slice ao1 a0.length cap1), (1, .func (.func 52) #[] #[.pointer (some ⟨gp2, 0, none⟩)])] rfl (by rfl) fun a ha => ?_
 have hC : Chg [] w w := Chg.refl _ _
 refine wp_seq_k fun K3 hK3 => ?_
 refine wp_region_lit ?_
 refine seg ha 1 [(0, .slice ao1 a0.length cap1), (1, .func (.func 52) #[] #[.pointer (some ⟨gp2, 0, none⟩)])] (by kernel_rfl) fun a ha => ?_
 refine hK3 _ _ ?_; try clear hK3 K3
 refine wp_seq_k fun K4 hK4 => ?_
 refine wp_region_lit ?_
 refine seg ha 2 [(5, .slice ao1 a0.length cap1), (6, .func (.func 52) #[] #[.pointer (some ⟨gp2, 0, none⟩)])] (by kernel_rfl) fun a ha => ?_
 obtain ⟨t5, H5, H⟩ := bind_some H
 refine cl ha (by rfl) (by kernel_rfl) (by rfl) (by rfl) (by rfl) (slices_IndexFunc_Ext_community_Meet_1.walk w _ hM a0 ao1 cap1 f1 gp2 a2 ao2 cap2 f2 hBgp2 (hg_gp2) k _ H5) ?_
 rintro _ w5 ⟨rfl, hc5, hMn⟩ a ha
 have o1 : Ok [] (M) w.heap.size := Ok.nil _ _
 have o2 : Ok (M) (M) w.heap.size := (Ok.refl _ _)
 have f1 := f1.chg hc5 o1 o2
 have f2 := f2.chg hc5 o1 o2
 have hBgp2 := hBgp2.chg hc5 (fun h => nomatch h)
 have hM : MS (M) w5 := (hM.chg hc5)
 have hC := hC.trans hc5 (Ok.nil _ _)
 refine seg ha 2 [(4, .bool (decide (t5 ≥ (0 : Int))))] (by kernel_rfl) fun a ha => ?_
 refine hK4 _ _ ?_; try clear hK4 K4
 refine wp_ret ?_
 try simp only [Exit.then, Exit.inBlock]
 obtain rfl := Option.some.inj H
 refine rt1 ha rfl rfl ?_
 exact ⟨rfl, hC, hM⟩
def community_Meet.f (k : Nat) (a0 : List (List Int)) (a1 : List (List Int)) : Option (Bool) := (slices_ContainsFunc_Ext_community_Meet_1.f k a0 a1).bind fun t9 => some ((t9 : Bool))
set_option maxRecDepth 100000 in
theorem community_Meet.walk (w : World) (M : List Nat) (hM : MS M w) (a0 : List (List Int)) (ao1 : Option Addr) (cap1 : Nat) (f1 : RSl (rArr .u8 8) 27 w M ao1 cap1 a0) (a1 : List (List Int)) (ao2 : Option Addr) (cap2 : Nat) (f2 : RSl (rArr .u8 8) 27 w M ao2 cap2 a1) (k : Nat) (r : Bool) (H : community_Meet.f k a0 a1 = some r) :
    To Tryz.prog 16 [.slice ao1 a0.length cap1, .slice ao2 a1.length cap2] w fun v w' => v = .bool r ∧ Chg [] w w' ∧ MS (M) w' := by
 unfold community_Meet.f at H
 refine ent Tryz.func16 rfl [(0, .slice ao1 a0.length cap1), (1, .slice ao2 a1.length cap2)] rfl (by rfl) fun a ha => ?_
 have hC : Chg [] w w := Chg.refl _ _
 refine wp_seq_k fun K3 hK3 => ?_
 refine wp_region_lit ?_
 refine bx (cs := ([.slice ao2 a1.length cap2] : List Value)) ha rfl rfl rfl rfl rfl fun a w4 g5 hN6 ha => ?_
 have o1 : Ok [] (M) w.heap.size := Ok.nil _ _
 have o2 : Ok ([g5] ++ (M)) (M) w.heap.size := (Ok.app (hN6.ok _) (Ok.refl _ _))
 have f1 := f1.chg hN6.chg o1 o2
 have f2 := f2.chg hN6.chg o1 o2
 have p_i7_M : ∀ x ∈ [g5], x ∉ M := fun x hx hy => absurd (hM x (hy)) (Nat.not_lt.2 ((hN6.ge1) x hx))
 have e_i7 : ∀ x ∈ [g5], w.heap.size ≤ x := fun x hx => Nat.le_trans hC.size ((hN6.ge1) x hx)
 have hM : MS ([g5] ++ (M)) w4 := (MS.app hN6.ms (hM.chg hN6.chg))
 have hC := hC.trans hN6.chg (Ok.nil _ _)
 have hBg5 : Box w4 g5 ([.slice ao2 a1.length cap2] : List Value) := hN6.box
 refine seg ha 1 [(0, .slice ao1 a0.length cap1), (3, .pointer (some ⟨g5, 0, none⟩))] (by kernel_rfl) fun a ha => ?_
 refine hK3 _ _ ?_; try clear hK3 K3
 refine wp_seq_k fun K8 hK8 => ?_
 refine wp_region_lit ?_
 refine seg ha 1 [(3, .pointer (some ⟨g5, 0, none⟩)), (5, .slice ao1 a0.length cap1)] (by kernel_rfl) fun a ha => ?_
 refine opk (v := .func (.func 52) #[] #[.pointer (some ⟨g5, 0, none⟩)]) ha rfl rfl rfl rfl rfl (fun w => by kernel_rfl) fun a ha => ?_
 obtain ⟨t9, H9, H⟩ := bind_some H
 refine cl ha (by rfl) (by kernel_rfl) (by rfl) (by rfl) (by rfl) (slices_ContainsFunc_Ext_community_Meet_1.walk w4 _ hM a0 ao1 cap1 f1 g5 a1 ao2 cap2 f2 hBg5 (ml (List.mem_singleton.2 rfl)) k _ H9) ?_
 rintro _ w9 ⟨rfl, hc9, hMn⟩ a ha
 have o1 : Ok [] ([g5] ++ (M)) w4.heap.size := Ok.nil _ _
 have o2 : Ok ([g5] ++ (M)) ([g5] ++ (M)) w4.heap.size := (Ok.refl _ _)
 have f1 := f1.chg hc9 o1 o2
 have f2 := f2.chg hc9 o1 o2
 have hBg5 := hBg5.chg hc9 (fun h => nomatch h)
 have hM : MS ([g5] ++ (M)) w9 := (hM.chg hc9)
 have hC := hC.trans hc9 (Ok.nil _ _)
 refine seg ha 1 [(4, .bool t9)] (by kernel_rfl) fun a ha => ?_
 refine hK8 _ _ ?_; try clear hK8 K8
 refine wp_ret ?_
 try simp only [Exit.then, Exit.inBlock]
 have o1 : Ok [] ([g5] ++ (M)) w9.heap.size := Ok.nil _ _
 have o2 : Ok (M) ([g5] ++ (M)) w9.heap.size := (fun _ h => .inl (mr (h)))
 have f2 := f2.chg (Chg.refl [] _) o1 o2
 have hM : MS (M) w9 := (fun x h => hM.chg (Chg.refl [] _) x (mr (h)))
 obtain rfl := Option.some.inj H
 refine rt1 ha rfl rfl ?_
 exact ⟨rfl, hC, hM⟩
def vinerylaw04_small.f (k : Nat) : Option (Bool) := (community_Target.f k (0 : Int) (65000 : Int) (77 : Int)).bind fun t3 => (community_Import.f k (⟨(4 : Int), ([(10 : Int), (0 : Int), (0 : Int), (1 : Int), (0 : Int), (0 : Int), (0 : Int), (0 : Int), (0 : Int), (0 : Int), (0 : Int), (0 : Int), (0 : Int), (0 : Int), (0 : Int), (0 : Int)] : List Int)⟩ : S_api_Addr) (3 : Int)).bind fun t11 => (community_Source.f k (65000 : Int)).bind fun t19 => (community_Set.f ([t11.1, t3.1, t11.1] : List (List Int))).bind fun t32 => ((if (t3.2 == (0 : Int)) = true then (community_Text.f k t3.1).bind fun t40 => (if ((bstr t40).toList == (bstr ([114, 116, 58, 48, 58, 54, 53, 48, 48, 48, 58, 55, 55] : List UInt8)).toList) = true then (if (t11.2 == (0 : Int)) = true then (community_Text.f k t11.1).bind fun t44 => (if ((bstr t44).toList == (bstr ([105, 109, 112, 111, 114, 116, 58, 49, 48, 46, 48, 46, 48, 46, 49, 58, 51] : List UInt8)).toList) = true then (if (t19.2 == (0 : Int)) = true then (community_Text.f k t19.1).bind fun t48 => (if ((bstr t48).toList == (bstr ([115, 111, 117, 114, 99, 101, 58, 54, 53, 48, 48, 48] : List UInt8)).toList) = true then (if ((t32.length : Int) == (2 : Int)) = true then (if 0 ≤ (0 : Int) ∧ (0 : Int) < (t32.length : Int) then (if (eqA 8 (rd t32 (0 : Int)) t3.1) = true then (community_Meet.f k t32 ([t3.1] : List (List Int))).bind fun t66 => (if t66 = true then (community_Kind.f ([(0 : Int), (9 : Int), (0 : Int), (0 : Int), (0 : Int), (0 : Int), (0 : Int), (0 : Int)] : List Int)).bind fun t70 => some (t70 == (0 : Int) : Bool) else some (false : Bool)) else some (false : Bool)) else none) else some (false : Bool)) else some (false : Bool)) else some (false : Bool)) else some (false : Bool)) else some (false : Bool)) else some (false : Bool)) else some (false : Bool))).bind fun s37 => some ((s37 : Bool))
set_option maxRecDepth 100000 in
theorem vinerylaw04_small.walk (w : World) (M : List Nat) (hM : MS M w) (hG : GF w M)  (k : Nat) (r : Bool) (H : vinerylaw04_small.f k = some r) :
    To Tryz.prog 8 [] w fun v w' => v = .bool r ∧ Chg [] w w' ∧ MS (M) w' := by
 unfold vinerylaw04_small.f at H
 refine ent Tryz.func8 rfl [] rfl (by rfl) fun a ha => ?_
 have hC : Chg [] w w := Chg.refl _ _
 refine wp_seq_k fun K1 hK1 => ?_
 refine wp_region_lit ?_
 refine seg ha 1 [] (by kernel_rfl) fun a ha => ?_
 refine hK1 _ _ ?_; try clear hK1 K1
 refine wp_seq_k fun K2 hK2 => ?_
 refine wp_region_lit ?_
 obtain ⟨t3, H3, H⟩ := bind_some H
 refine cl ha (by rfl) (by kernel_rfl) (by rfl) (by rfl) (by rfl) (community_Target.walk w _ hM (0 : Int) (65000 : Int) (77 : Int) k _ H3) ?_
 rintro _ w3 ⟨rfl, hc3, hMn⟩ a ha
 have o1 : Ok [] (M) w.heap.size := Ok.nil _ _
 have o2 : Ok (M) (M) w.heap.size := (Ok.refl _ _)
 have hG := hG.chg hc3 o1 o2
 have hM : MS (M) w3 := (hM.chg hc3)
 have hC := hC.trans hc3 (Ok.nil _ _)
 refine seg ha 3 [(10, .agg (cA .u8 8 t3.1).toArray), (11, .int .i64 t3.2)] (by kernel_rfl) fun a ha => ?_
 refine al (cs := (cA .u8 8 (List.replicate 8 (0 : Int)))) (z := .agg (cA .u8 8 (List.replicate 8 (0 : Int))).toArray) ha (fun w => by kernel_rfl) rfl rfl rfl rfl fun a w4 g5 hN6 ha => ?_
 have o1 : Ok [] (M) w3.heap.size := Ok.nil _ _
 have o2 : Ok ([g5] ++ (M)) (M) w3.heap.size := (Ok.app (hN6.ok _) (Ok.refl _ _))
 have hG := hG.chg hN6.chg o1 o2
 have p_i7_M : ∀ x ∈ [g5], x ∉ M := fun x hx hy => absurd (hM x (hy)) (Nat.not_lt.2 ((hN6.ge1) x hx))
 have e_i7 : ∀ x ∈ [g5], w.heap.size ≤ x := fun x hx => Nat.le_trans hC.size ((hN6.ge1) x hx)
 have hM : MS ([g5] ++ (M)) w4 := (MS.app hN6.ms (hM.chg hN6.chg))
 have hC := hC.trans hN6.chg (Ok.nil _ _)
 have hBg5 : Box w4 g5 (cA .u8 8 (List.replicate 8 (0 : Int))) := hN6.box
 refine stA (l := (cA .u8 8 t3.1)) ha rfl rfl rfl (by kernel_rfl) rfl rfl hBg5 rfl fun a w8 ha hb2 hc9 _ => ?_
 have o1 : Ok [g5] ([g5] ++ (M)) w4.heap.size := (fun _ h => .inl (ml h))
 have o2 : Ok ([g5] ++ (M)) ([g5] ++ (M)) w4.heap.size := (Ok.refl _ _)
 have hG := hG.chg hc9 o1 o2
 have hM : MS ([g5] ++ (M)) w8 := (hM.chg hc9)
 have hC := hC.trans hc9 (fun x h => .inr (e_i7 x h))
 have hBg5 : Box w8 g5 (cA .u8 8 t3.1) := hb2
 refine seg ha 1 [(1, .pointer (some ⟨g5, 0, none⟩)), (2, .int .i64 t3.2)] (by kernel_rfl) fun a ha => ?_
 refine hK2 _ _ ?_; try clear hK2 K2
 refine wp_seq_k fun K10 hK10 => ?_
 refine wp_region_lit ?_
 refine opk (v := .agg (cA .u8 16 ([(10 : Int), (0 : Int), (0 : Int), (1 : Int), (0 : Int), (0 : Int), (0 : Int), (0 : Int), (0 : Int), (0 : Int), (0 : Int), (0 : Int), (0 : Int), (0 : Int), (0 : Int), (0 : Int)] : List Int)).toArray) ha rfl rfl rfl rfl rfl (fun w => by kernel_rfl) fun a ha => ?_
 refine opk (v := .agg (cS_api_Addr (⟨(4 : Int), ([(10 : Int), (0 : Int), (0 : Int), (1 : Int), (0 : Int), (0 : Int), (0 : Int), (0 : Int), (0 : Int), (0 : Int), (0 : Int), (0 : Int), (0 : Int), (0 : Int), (0 : Int), (0 : Int)] : List Int)⟩ : S_api_Addr)).toArray) ha rfl rfl rfl rfl rfl (fun w => by kernel_rfl) fun a ha => ?_
 obtain ⟨t11, H11, H⟩ := bind_some H
 refine cl ha (by rfl) (by kernel_rfl) (by rfl) (by rfl) (by rfl) (community_Import.walk w8 _ hM (⟨(4 : Int), ([(10 : Int), (0 : Int), (0 : Int), (1 : Int), (0 : Int), (0 : Int), (0 : Int), (0 : Int), (0 : Int), (0 : Int), (0 : Int), (0 : Int), (0 : Int), (0 : Int), (0 : Int), (0 : Int)] : List Int)⟩ : S_api_Addr) (3 : Int) k _ H11) ?_
 rintro _ w11 ⟨rfl, hc11, hMn⟩ a ha
 have o1 : Ok [] ([g5] ++ (M)) w8.heap.size := Ok.nil _ _
 have o2 : Ok ([g5] ++ (M)) ([g5] ++ (M)) w8.heap.size := (Ok.refl _ _)
 have hG := hG.chg hc11 o1 o2
 have hBg5 := hBg5.chg hc11 (fun h => nomatch h)
 have hM : MS ([g5] ++ (M)) w11 := (hM.chg hc11)
 have hC := hC.trans hc11 (Ok.nil _ _)
 refine seg ha 3 [(1, .pointer (some ⟨g5, 0, none⟩)), (2, .int .i64 t3.2), (16, .agg (cA .u8 8 t11.1).toArray), (17, .int .i64 t11.2)] (by kernel_rfl) fun a ha => ?_
 refine al (cs := (cA .u8 8 (List.replicate 8 (0 : Int)))) (z := .agg (cA .u8 8 (List.replicate 8 (0 : Int))).toArray) ha (fun w => by kernel_rfl) rfl rfl rfl rfl fun a w12 g13 hN14 ha => ?_
 have o1 : Ok [] ([g5] ++ (M)) w11.heap.size := Ok.nil _ _
 have o2 : Ok ([g13] ++ ([g5] ++ (M))) ([g5] ++ (M)) w11.heap.size := (Ok.app (hN14.ok _) (Ok.refl _ _))
 have hG := hG.chg hN14.chg o1 o2
 have hBg5 := hBg5.chg hN14.chg (fun h => nomatch h)
 have p_i15_i7 : ∀ x ∈ [g13], x ∉ ([g5]) := fun x hx hy => absurd (hM x (ml hy)) (Nat.not_lt.2 ((hN14.ge1) x hx))
 have p_i15_M : ∀ x ∈ [g13], x ∉ M := fun x hx hy => absurd (hM x (mr (hy))) (Nat.not_lt.2 ((hN14.ge1) x hx))
 have e_i15 : ∀ x ∈ [g13], w.heap.size ≤ x := fun x hx => Nat.le_trans hC.size ((hN14.ge1) x hx)
 have hM : MS ([g13] ++ ([g5] ++ (M))) w12 := (MS.app hN14.ms (hM.chg hN14.chg))
 have hC := hC.trans hN14.chg (Ok.nil _ _)
 have hBg13 : Box w12 g13 (cA .u8 8 (List.replicate 8 (0 : Int))) := hN14.box
 refine stA (l := (cA .u8 8 t11.1)) ha rfl rfl rfl (by kernel_rfl) rfl rfl hBg13 rfl fun a w16 ha hb2 hc17 _ => ?_
 have o1 : Ok [g13] ([g13] ++ ([g5] ++ (M))) w12.heap.size := (fun _ h => .inl (ml h))
 have o2 : Ok ([g13] ++ ([g5] ++ (M))) ([g13] ++ ([g5] ++ (M))) w12.heap.size := (Ok.refl _ _)
 have hG := hG.chg hc17 o1 o2
 have hBg5 := hBg5.chg hc17 ((fun x (hx : x ∈ [g5]) (hy : x ∈ [g13]) => p_i15_i7 x hy hx) g5 (by simp))
 have hM : MS ([g13] ++ ([g5] ++ (M))) w16 := (hM.chg hc17)
 have hC := hC.trans hc17 (fun x h => .inr (e_i15 x h))
 have hBg13 : Box w16 g13 (cA .u8 8 t11.1) := hb2
 refine seg ha 1 [(1, .pointer (some ⟨g5, 0, none⟩)), (2, .int .i64 t3.2), (3, .pointer (some ⟨g13, 0, none⟩)), (4, .int .i64 t11.2)] (by kernel_rfl) fun a ha => ?_
 refine hK10 _ _ ?_; try clear hK10 K10
 refine wp_seq_k fun K18 hK18 => ?_
 refine wp_region_lit ?_
 obtain ⟨t19, H19, H⟩ := bind_some H
 refine cl ha (by rfl) (by kernel_rfl) (by rfl) (by rfl) (by rfl) (community_Source.walk w16 _ hM (65000 : Int) k _ H19) ?_
 rintro _ w19 ⟨rfl, hc19, hMn⟩ a ha
 have o1 : Ok [] ([g13] ++ ([g5] ++ (M))) w16.heap.size := Ok.nil _ _
 have o2 : Ok ([g13] ++ ([g5] ++ (M))) ([g13] ++ ([g5] ++ (M))) w16.heap.size := (Ok.refl _ _)
 have hG := hG.chg hc19 o1 o2
 have hBg5 := hBg5.chg hc19 (fun h => nomatch h)
 have hBg13 := hBg13.chg hc19 (fun h => nomatch h)
 have hM : MS ([g13] ++ ([g5] ++ (M))) w19 := (hM.chg hc19)
 have hC := hC.trans hc19 (Ok.nil _ _)
 refine seg ha 3 [(1, .pointer (some ⟨g5, 0, none⟩)), (2, .int .i64 t3.2), (3, .pointer (some ⟨g13, 0, none⟩)), (4, .int .i64 t11.2), (20, .agg (cA .u8 8 t19.1).toArray), (21, .int .i64 t19.2)] (by kernel_rfl) fun a ha => ?_
 refine al (cs := (cA .u8 8 (List.replicate 8 (0 : Int)))) (z := .agg (cA .u8 8 (List.replicate 8 (0 : Int))).toArray) ha (fun w => by kernel_rfl) rfl rfl rfl rfl fun a w20 g21 hN22 ha => ?_
 have o1 : Ok [] ([g13] ++ ([g5] ++ (M))) w19.heap.size := Ok.nil _ _
 have o2 : Ok ([g21] ++ ([g13] ++ ([g5] ++ (M)))) ([g13] ++ ([g5] ++ (M))) w19.heap.size := (Ok.app (hN22.ok _) (Ok.refl _ _))
 have hG := hG.chg hN22.chg o1 o2
 have hBg5 := hBg5.chg hN22.chg (fun h => nomatch h)
 have hBg13 := hBg13.chg hN22.chg (fun h => nomatch h)
 have p_i23_i15 : ∀ x ∈ [g21], x ∉ ([g13]) := fun x hx hy => absurd (hM x (ml hy)) (Nat.not_lt.2 ((hN22.ge1) x hx))
 have p_i23_i7 : ∀ x ∈ [g21], x ∉ ([g5]) := fun x hx hy => absurd (hM x (mr (ml hy))) (Nat.not_lt.2 ((hN22.ge1) x hx))
 have p_i23_M : ∀ x ∈ [g21], x ∉ M := fun x hx hy => absurd (hM x (mr (mr (hy)))) (Nat.not_lt.2 ((hN22.ge1) x hx))
 have e_i23 : ∀ x ∈ [g21], w.heap.size ≤ x := fun x hx => Nat.le_trans hC.size ((hN22.ge1) x hx)
 have hM : MS ([g21] ++ ([g13] ++ ([g5] ++ (M)))) w20 := (MS.app hN22.ms (hM.chg hN22.chg))
 have hC := hC.trans hN22.chg (Ok.nil _ _)
 have hBg21 : Box w20 g21 (cA .u8 8 (List.replicate 8 (0 : Int))) := hN22.box
 refine stA (l := (cA .u8 8 t19.1)) ha rfl rfl rfl (by kernel_rfl) rfl rfl hBg21 rfl fun a w24 ha hb2 hc25 _ => ?_
 have o1 : Ok [g21] ([g21] ++ ([g13] ++ ([g5] ++ (M)))) w20.heap.size := (fun _ h => .inl (ml h))
 have o2 : Ok ([g21] ++ ([g13] ++ ([g5] ++ (M)))) ([g21] ++ ([g13] ++ ([g5] ++ (M)))) w20.heap.size := (Ok.refl _ _)
 have hG := hG.chg hc25 o1 o2
 have hBg5 := hBg5.chg hc25 ((fun x (hx : x ∈ [g5]) (hy : x ∈ [g21]) => p_i23_i7 x hy hx) g5 (by simp))
 have hBg13 := hBg13.chg hc25 ((fun x (hx : x ∈ [g13]) (hy : x ∈ [g21]) => p_i23_i15 x hy hx) g13 (by simp))
 have hM : MS ([g21] ++ ([g13] ++ ([g5] ++ (M)))) w24 := (hM.chg hc25)
 have hC := hC.trans hc25 (fun x h => .inr (e_i23 x h))
 have hBg21 : Box w24 g21 (cA .u8 8 t19.1) := hb2
 refine seg ha 1 [(1, .pointer (some ⟨g5, 0, none⟩)), (2, .int .i64 t3.2), (3, .pointer (some ⟨g13, 0, none⟩)), (4, .int .i64 t11.2), (5, .pointer (some ⟨g21, 0, none⟩)), (6, .int .i64 t19.2)] (by kernel_rfl) fun a ha => ?_
 refine hK18 _ _ ?_; try clear hK18 K18
 refine wp_seq_k fun K26 hK26 => ?_
 refine wp_region_lit ?_
 refine ldA (cs := (cA .u8 8 t11.1)) ha rfl (by kernel_rfl) rfl rfl rfl (cells_sub (Box.cells hBg13) (all := (cA .u8 8 t11.1)) [] [] (by kernel_rfl)) fun a ha => ?_
 refine ldA (cs := (cA .u8 8 t3.1)) ha rfl (by kernel_rfl) rfl rfl rfl (cells_sub (Box.cells hBg5) (all := (cA .u8 8 t3.1)) [] [] (by kernel_rfl)) fun a ha => ?_
 refine ldA (cs := (cA .u8 8 t11.1)) ha rfl (by kernel_rfl) rfl rfl rfl (cells_sub (Box.cells hBg13) (all := (cA .u8 8 t11.1)) [] [] (by kernel_rfl)) fun a ha => ?_
 refine bslA (vals := ([.agg (cA .u8 8 t11.1).toArray, .agg (cA .u8 8 t3.1).toArray, .agg (cA .u8 8 t11.1).toArray] : List Value)) (T := 27) (z := .agg (cA .u8 8 (List.replicate 8 (0 : Int))).toArray) ha rfl (by kernel_rfl) rfl (by kernel_rfl) (s := 8) (by kernel_rfl) rfl rfl (fun w => by kernel_rfl) (by kernel_rfl) rfl rfl rfl fun a w27 g28 hN29 ha => ?_
 have hN29 := (show New _ _ _ (.cells (((cA .u8 8 t11.1) ++ ((cA .u8 8 t3.1) ++ ((cA .u8 8 t11.1) ++ ([] : List Value))))).toArray 27 (0, 0)) from hN29)
 have o1 : Ok [] ([g21] ++ ([g13] ++ ([g5] ++ (M)))) w24.heap.size := Ok.nil _ _
 have o2 : Ok ([g28] ++ ([g21] ++ ([g13] ++ ([g5] ++ (M))))) ([g21] ++ ([g13] ++ ([g5] ++ (M)))) w24.heap.size := (Ok.app (hN29.ok _) (Ok.refl _ _))
 have hG := hG.chg hN29.chg o1 o2
 have hBg5 := hBg5.chg hN29.chg (fun h => nomatch h)
 have hBg13 := hBg13.chg hN29.chg (fun h => nomatch h)
 have hBg21 := hBg21.chg hN29.chg (fun h => nomatch h)
 have p_i30_i23 : ∀ x ∈ [g28], x ∉ ([g21]) := fun x hx hy => absurd (hM x (ml hy)) (Nat.not_lt.2 ((hN29.ge1) x hx))
 have p_i30_i15 : ∀ x ∈ [g28], x ∉ ([g13]) := fun x hx hy => absurd (hM x (mr (ml hy))) (Nat.not_lt.2 ((hN29.ge1) x hx))
 have p_i30_i7 : ∀ x ∈ [g28], x ∉ ([g5]) := fun x hx hy => absurd (hM x (mr (mr (ml hy)))) (Nat.not_lt.2 ((hN29.ge1) x hx))
 have p_i30_M : ∀ x ∈ [g28], x ∉ M := fun x hx hy => absurd (hM x (mr (mr (mr (hy))))) (Nat.not_lt.2 ((hN29.ge1) x hx))
 have e_i30 : ∀ x ∈ [g28], w.heap.size ≤ x := fun x hx => Nat.le_trans hC.size ((hN29.ge1) x hx)
 have hM : MS ([g28] ++ ([g21] ++ ([g13] ++ ([g5] ++ (M))))) w27 := (MS.app hN29.ms (hM.chg hN29.chg))
 have hC := hC.trans hN29.chg (Ok.nil _ _)
 have f31 : Own (rArr .u8 8) 27 w27 ([g28] ++ ([g21] ++ ([g13] ++ ([g5] ++ (M))))) (some ⟨g28, 0, none⟩) 3 ([t11.1, t3.1, t11.1] : List (List Int)) := hN29.own ⟨(cA .u8 8 t11.1), _, rfl, rfl, ⟨(cA .u8 8 t3.1), _, rfl, rfl, ⟨(cA .u8 8 t11.1), _, rfl, rfl, rfl⟩⟩⟩ (Nat.le_of_ble_eq_true rfl)
 have fz := f31.toRSl (M' := [g21] ++ ([g13] ++ ([g5] ++ (M)))) (fun _ h => .inl (mr (h))) (fun x hx hm => (List.mem_append.1 hm).elim (fun h => p_i30_i23 x hx h) (fun h => (List.mem_append.1 h).elim (fun h => p_i30_i15 x hx h) (fun h => (List.mem_append.1 h).elim (fun h => p_i30_i7 x hx h) (fun h => p_i30_M x hx h))))
 have o1 : Ok [] ([g28] ++ ([g21] ++ ([g13] ++ ([g5] ++ (M))))) w27.heap.size := Ok.nil _ _
 have o2 : Ok ([g21] ++ ([g13] ++ ([g5] ++ (M)))) ([g28] ++ ([g21] ++ ([g13] ++ ([g5] ++ (M))))) w27.heap.size := (fun _ h => .inl (mr (h)))
 have hG := hG.chg (Chg.refl [] _) o1 o2
 have hM : MS ([g21] ++ ([g13] ++ ([g5] ++ (M)))) w27 := (fun x h => hM.chg (Chg.refl [] _) x (mr (h)))
 have f31 := fz
 obtain ⟨t32, H32, H⟩ := bind_some H
 refine cl ha (by rfl) (by kernel_rfl) (by rfl) (by rfl) (by rfl) (community_Set.walk w27 _ hM ([t11.1, t3.1, t11.1] : List (List Int)) (some ⟨g28, 0, none⟩) 3 f31 _ H32) ?_
 rintro _ w32 ⟨ao33, cap33, rfl, f33, hc32, hMn⟩ a ha
 have o1 : Ok [] ([g21] ++ ([g13] ++ ([g5] ++ (M)))) w27.heap.size := Ok.nil _ _
 have o2 : Ok ([g21] ++ ([g13] ++ ([g5] ++ (M)))) ([g21] ++ ([g13] ++ ([g5] ++ (M)))) w27.heap.size := (Ok.refl _ _)
 have hG := hG.chg hc32 o1 o2
 have f31 := f31.chg hc32 o1 o2
 have hBg5 := hBg5.chg hc32 (fun h => nomatch h)
 have hBg13 := hBg13.chg hc32 (fun h => nomatch h)
 have hBg21 := hBg21.chg hc32 (fun h => nomatch h)
 have hM : MS ([g21] ++ ([g13] ++ ([g5] ++ (M)))) w32 := (hM.chg hc32)
 have hC := hC.trans hc32 (Ok.nil _ _)
 refine seg ha 1 [(1, .pointer (some ⟨g5, 0, none⟩)), (2, .int .i64 t3.2), (3, .pointer (some ⟨g13, 0, none⟩)), (4, .int .i64 t11.2), (5, .pointer (some ⟨g21, 0, none⟩)), (6, .int .i64 t19.2), (7, .slice ao33 t32.length cap33)] (by kernel_rfl) fun a ha => ?_
 refine hK26 _ _ ?_; try clear hK26 K26
 refine wp_seq_k fun K34 hK34 => ?_
 have okS : Ok [] ([g21] ++ ([g13] ++ ([g5] ++ (M)))) w32.heap.size := Ok.nil _ _
 have z_f33 := f33
 have z_hBg5 := hBg5
 have z_hBg13 := hBg13
 have z_hBg21 := hBg21
 refine drw (fun w' => Chg [] w32 w') (by kernel_rfl) fun w35 hc36 _ => ?_
 have hS : Chg [] w32 w35 := (Chg.refl [] _).trans hc36 (Ok.nil _ _)
 have o1 : Ok [] ([g21] ++ ([g13] ++ ([g5] ++ (M)))) w32.heap.size := Ok.nil _ _
 have o2 : Ok ([g21] ++ ([g13] ++ ([g5] ++ (M)))) ([g21] ++ ([g13] ++ ([g5] ++ (M)))) w32.heap.size := (Ok.refl _ _)
 have hG := hG.chg hc36 o1 o2
 have f33 := f33.chg hc36 o1 o2
 have hBg5 := hBg5.chg hc36 (fun h => nomatch h)
 have hBg13 := hBg13.chg hc36 (fun h => nomatch h)
 have hBg21 := hBg21.chg hc36 (fun h => nomatch h)
 have hM : MS ([g21] ++ ([g13] ++ ([g5] ++ (M)))) w35 := (hM.chg hc36)
 have hC := hC.trans hc36 (Ok.nil _ _)
 obtain ⟨s37, H37, H⟩ := bind_some H
 have J37 : ∀ (a : Act) (w37 : World), Has a Tryz.f8.ntmps [(0, .bool s37)] → (Box w37 g5 (cA .u8 8 t3.1)) → (Box w37 g13 (cA .u8 8 t11.1)) → (Box w37 g21 (cA .u8 8 t19.1)) → (GF w37 ([g21] ++ ([g13] ++ ([g5] ++ (M))))) → (Chg [] w w37) → (MS ([g21] ++ ([g13] ++ ([g5] ++ (M)))) w37) → K34 a w37 := by
  intro a w37 ha hBg5 hBg13 hBg21 hG hC hM
  refine hK34 _ _ ?_; try clear hK34 K34
  refine wp_ret ?_
  try simp only [Exit.then, Exit.inBlock]
  have o1 : Ok [] ([g21] ++ ([g13] ++ ([g5] ++ (M)))) w37.heap.size := Ok.nil _ _
  have o2 : Ok (M) ([g21] ++ ([g13] ++ ([g5] ++ (M)))) w37.heap.size := (fun _ h => .inl (mr (mr (mr (h)))))
  have hG := hG.chg (Chg.refl [] _) o1 o2
  have hM : MS (M) w37 := (fun x h => hM.chg (Chg.refl [] _) x (mr (mr (mr (h)))))
  obtain rfl := Option.some.inj H
  refine rt1 ha rfl rfl ?_
  exact ⟨rfl, hC, hM⟩
 have H := H37
 refine tkpz 0 0 (.int .i64 t3.2) ha (s := hS) (q := fun a ha => ?_)
 refine tkpz 1 0 (.bool (t3.2 == (0 : Int))) ha (s := hS) (q := fun a ha => ?_)
 refine tkpz 2 0 (.bool (t3.2 == (0 : Int))) ha (s := hS) (q := fun a ha => ?_)
 have ha := ha.sel (env' := [(29, .bool (t3.2 == (0 : Int))), (1, .pointer (some ⟨g5, 0, none⟩)), (3, .pointer (some ⟨g13, 0, none⟩)), (4, .int .i64 t11.2), (5, .pointer (some ⟨g21, 0, none⟩)), (6, .int .i64 t19.2), (7, .slice ao33 t32.length cap33)]) (by kernel_rfl)
 rcases Bool.eq_false_or_eq_true (t3.2 == (0 : Int)) with hb38 | hb38
 ·have ha := ha.lit hb38
  have H := ite_t hb38 H
  refine tkz 3 ha (v := .agg (cA .u8 8 t3.1).toArray) (y := fun w' hs => ldA_run (cs := (cA .u8 8 t3.1)) ha rfl (by kernel_rfl) (cells_sub (Box.cells (Box.chg z_hBg5 hs (fun h => nomatch h))) (all := (cA .u8 8 t3.1)) [] [] (by kernel_rfl))) (s := hS) (q := fun a ha => ?_)
  refine ac 4 (by kernel_rfl) (by rfl) fun K39 hK39 => ?_
  obtain ⟨t40, H40, H⟩ := bind_some H
  refine cl ha (by rfl) (by kernel_rfl) (by rfl) (by rfl) (by rfl) (community_Text.walk w35 _ hM hG t3.1 k _ H40) ?_
  rintro _ w40 ⟨rfl, hc40, hMn⟩ a ha
  have o1 : Ok [] ([g21] ++ ([g13] ++ ([g5] ++ (M)))) w35.heap.size := Ok.nil _ _
  have o2 : Ok ([g21] ++ ([g13] ++ ([g5] ++ (M)))) ([g21] ++ ([g13] ++ ([g5] ++ (M)))) w35.heap.size := (Ok.refl _ _)
  have hG := hG.chg hc40 o1 o2
  have f33 := f33.chg hc40 o1 o2
  have hBg5 := hBg5.chg hc40 (fun h => nomatch h)
  have hBg13 := hBg13.chg hc40 (fun h => nomatch h)
  have hBg21 := hBg21.chg hc40 (fun h => nomatch h)
  have hM : MS ([g21] ++ ([g13] ++ ([g5] ++ (M)))) w40 := (hM.chg hc40)
  have hC := hC.trans hc40 (Ok.nil _ _)
  have hS := hS.trans hc40 (Ok.nil _ _)
  refine ae hK39 hS ?_; clear hK39 K39
  refine tkpz 5 0 (.bool ((bstr t40).toList == (bstr ([114, 116, 58, 48, 58, 54, 53, 48, 48, 48, 58, 55, 55] : List UInt8)).toList)) ha (s := hS) (q := fun a ha => ?_)
  refine tkpz 6 3 (.bool ((bstr t40).toList == (bstr ([114, 116, 58, 48, 58, 54, 53, 48, 48, 48, 58, 55, 55] : List UInt8)).toList)) ha (s := hS) (q := fun a ha => ?_)
  refine tkpz 7 0 (.bool ((bstr t40).toList == (bstr ([114, 116, 58, 48, 58, 54, 53, 48, 48, 48, 58, 55, 55] : List UInt8)).toList)) ha (s := hS) (q := fun a ha => ?_)
  have ha := ha.sel (env' := [(34, .bool ((bstr t40).toList == (bstr ([114, 116, 58, 48, 58, 54, 53, 48, 48, 48, 58, 55, 55] : List UInt8)).toList)), (1, .pointer (some ⟨g5, 0, none⟩)), (3, .pointer (some ⟨g13, 0, none⟩)), (4, .int .i64 t11.2), (5, .pointer (some ⟨g21, 0, none⟩)), (6, .int .i64 t19.2), (7, .slice ao33 t32.length cap33)]) (by kernel_rfl)
  rcases Bool.eq_false_or_eq_true ((bstr t40).toList == (bstr ([114, 116, 58, 48, 58, 54, 53, 48, 48, 48, 58, 55, 55] : List UInt8)).toList) with hb41 | hb41
  ·have ha := ha.lit hb41
   have H := ite_t hb41 H
   refine tkpz 8 0 (.int .i64 t11.2) ha (s := hS) (q := fun a ha => ?_)
   refine tkpz 9 0 (.bool (t11.2 == (0 : Int))) ha (s := hS) (q := fun a ha => ?_)
   refine tkpz 10 3 (.bool (t11.2 == (0 : Int))) ha (s := hS) (q := fun a ha => ?_)
   refine tkpz 11 0 (.bool (t11.2 == (0 : Int))) ha (s := hS) (q := fun a ha => ?_)
   have ha := ha.sel (env' := [(38, .bool (t11.2 == (0 : Int))), (1, .pointer (some ⟨g5, 0, none⟩)), (3, .pointer (some ⟨g13, 0, none⟩)), (5, .pointer (some ⟨g21, 0, none⟩)), (6, .int .i64 t19.2), (7, .slice ao33 t32.length cap33)]) (by kernel_rfl)
   rcases Bool.eq_false_or_eq_true (t11.2 == (0 : Int)) with hb42 | hb42
   ·have ha := ha.lit hb42
    have H := ite_t hb42 H
    refine tkz 12 ha (v := .agg (cA .u8 8 t11.1).toArray) (y := fun w' hs => ldA_run (cs := (cA .u8 8 t11.1)) ha rfl (by kernel_rfl) (cells_sub (Box.cells (Box.chg z_hBg13 hs (fun h => nomatch h))) (all := (cA .u8 8 t11.1)) [] [] (by kernel_rfl))) (s := hS) (q := fun a ha => ?_)
    refine ac 13 (by kernel_rfl) (by rfl) fun K43 hK43 => ?_
    obtain ⟨t44, H44, H⟩ := bind_some H
    refine cl ha (by rfl) (by kernel_rfl) (by rfl) (by rfl) (by rfl) (community_Text.walk w40 _ hM hG t11.1 k _ H44) ?_
    rintro _ w44 ⟨rfl, hc44, hMn⟩ a ha
    have o1 : Ok [] ([g21] ++ ([g13] ++ ([g5] ++ (M)))) w40.heap.size := Ok.nil _ _
    have o2 : Ok ([g21] ++ ([g13] ++ ([g5] ++ (M)))) ([g21] ++ ([g13] ++ ([g5] ++ (M)))) w40.heap.size := (Ok.refl _ _)
    have hG := hG.chg hc44 o1 o2
    have f33 := f33.chg hc44 o1 o2
    have hBg5 := hBg5.chg hc44 (fun h => nomatch h)
    have hBg13 := hBg13.chg hc44 (fun h => nomatch h)
    have hBg21 := hBg21.chg hc44 (fun h => nomatch h)
    have hM : MS ([g21] ++ ([g13] ++ ([g5] ++ (M)))) w44 := (hM.chg hc44)
    have hC := hC.trans hc44 (Ok.nil _ _)
    have hS := hS.trans hc44 (Ok.nil _ _)
    refine ae hK43 hS ?_; clear hK43 K43
    refine tkpz 14 0 (.bool ((bstr t44).toList == (bstr ([105, 109, 112, 111, 114, 116, 58, 49, 48, 46, 48, 46, 48, 46, 49, 58, 51] : List UInt8)).toList)) ha (s := hS) (q := fun a ha => ?_)
    refine tkpz 15 3 (.bool ((bstr t44).toList == (bstr ([105, 109, 112, 111, 114, 116, 58, 49, 48, 46, 48, 46, 48, 46, 49, 58, 51] : List UInt8)).toList)) ha (s := hS) (q := fun a ha => ?_)
    refine tkpz 16 0 (.bool ((bstr t44).toList == (bstr ([105, 109, 112, 111, 114, 116, 58, 49, 48, 46, 48, 46, 48, 46, 49, 58, 51] : List UInt8)).toList)) ha (s := hS) (q := fun a ha => ?_)
    have ha := ha.sel (env' := [(43, .bool ((bstr t44).toList == (bstr ([105, 109, 112, 111, 114, 116, 58, 49, 48, 46, 48, 46, 48, 46, 49, 58, 51] : List UInt8)).toList)), (1, .pointer (some ⟨g5, 0, none⟩)), (5, .pointer (some ⟨g21, 0, none⟩)), (6, .int .i64 t19.2), (7, .slice ao33 t32.length cap33)]) (by kernel_rfl)
    rcases Bool.eq_false_or_eq_true ((bstr t44).toList == (bstr ([105, 109, 112, 111, 114, 116, 58, 49, 48, 46, 48, 46, 48, 46, 49, 58, 51] : List UInt8)).toList) with hb45 | hb45
    ·have ha := ha.lit hb45
     have H := ite_t hb45 H
     refine tkpz 17 0 (.int .i64 t19.2) ha (s := hS) (q := fun a ha => ?_)
     refine tkpz 18 0 (.bool (t19.2 == (0 : Int))) ha (s := hS) (q := fun a ha => ?_)
     refine tkpz 19 3 (.bool (t19.2 == (0 : Int))) ha (s := hS) (q := fun a ha => ?_)
     refine tkpz 20 0 (.bool (t19.2 == (0 : Int))) ha (s := hS) (q := fun a ha => ?_)
     have ha := ha.sel (env' := [(47, .bool (t19.2 == (0 : Int))), (1, .pointer (some ⟨g5, 0, none⟩)), (5, .pointer (some ⟨g21, 0, none⟩)), (7, .slice ao33 t32.length cap33)]) (by kernel_rfl)
     rcases Bool.eq_false_or_eq_true (t19.2 == (0 : Int)) with hb46 | hb46
     ·have ha := ha.lit hb46
      have H := ite_t hb46 H
      refine tkz 21 ha (v := .agg (cA .u8 8 t19.1).toArray) (y := fun w' hs => ldA_run (cs := (cA .u8 8 t19.1)) ha rfl (by kernel_rfl) (cells_sub (Box.cells (Box.chg z_hBg21 hs (fun h => nomatch h))) (all := (cA .u8 8 t19.1)) [] [] (by kernel_rfl))) (s := hS) (q := fun a ha => ?_)
      refine ac 22 (by kernel_rfl) (by rfl) fun K47 hK47 => ?_
      obtain ⟨t48, H48, H⟩ := bind_some H
      refine cl ha (by rfl) (by kernel_rfl) (by rfl) (by rfl) (by rfl) (community_Text.walk w44 _ hM hG t19.1 k _ H48) ?_
      rintro _ w48 ⟨rfl, hc48, hMn⟩ a ha
      have o1 : Ok [] ([g21] ++ ([g13] ++ ([g5] ++ (M)))) w44.heap.size := Ok.nil _ _
      have o2 : Ok ([g21] ++ ([g13] ++ ([g5] ++ (M)))) ([g21] ++ ([g13] ++ ([g5] ++ (M)))) w44.heap.size := (Ok.refl _ _)
      have hG := hG.chg hc48 o1 o2
      have f33 := f33.chg hc48 o1 o2
      have hBg5 := hBg5.chg hc48 (fun h => nomatch h)
      have hBg13 := hBg13.chg hc48 (fun h => nomatch h)
      have hBg21 := hBg21.chg hc48 (fun h => nomatch h)
      have hM : MS ([g21] ++ ([g13] ++ ([g5] ++ (M)))) w48 := (hM.chg hc48)
      have hC := hC.trans hc48 (Ok.nil _ _)
      have hS := hS.trans hc48 (Ok.nil _ _)
      refine ae hK47 hS ?_; clear hK47 K47
      refine tkpz 23 0 (.bool ((bstr t48).toList == (bstr ([115, 111, 117, 114, 99, 101, 58, 54, 53, 48, 48, 48] : List UInt8)).toList)) ha (s := hS) (q := fun a ha => ?_)
      refine tkpz 24 3 (.bool ((bstr t48).toList == (bstr ([115, 111, 117, 114, 99, 101, 58, 54, 53, 48, 48, 48] : List UInt8)).toList)) ha (s := hS) (q := fun a ha => ?_)
      refine tkpz 25 0 (.bool ((bstr t48).toList == (bstr ([115, 111, 117, 114, 99, 101, 58, 54, 53, 48, 48, 48] : List UInt8)).toList)) ha (s := hS) (q := fun a ha => ?_)
      have ha := ha.sel (env' := [(52, .bool ((bstr t48).toList == (bstr ([115, 111, 117, 114, 99, 101, 58, 54, 53, 48, 48, 48] : List UInt8)).toList)), (1, .pointer (some ⟨g5, 0, none⟩)), (7, .slice ao33 t32.length cap33)]) (by kernel_rfl)
      rcases Bool.eq_false_or_eq_true ((bstr t48).toList == (bstr ([115, 111, 117, 114, 99, 101, 58, 54, 53, 48, 48, 48] : List UInt8)).toList) with hb49 | hb49
      ·have ha := ha.lit hb49
       have H := ite_t hb49 H
       refine tkpz 26 0 (.slice ao33 t32.length cap33) ha (s := hS) (q := fun a ha => ?_)
       refine tkpz 27 0 (.int .i64 (t32.length : Int)) ha (s := hS) (q := fun a ha => ?_)
       refine tkpz 28 0 (.bool ((t32.length : Int) == (2 : Int))) ha (s := hS) (q := fun a ha => ?_)
       refine tkpz 29 3 (.bool ((t32.length : Int) == (2 : Int))) ha (s := hS) (q := fun a ha => ?_)
       refine tkpz 30 0 (.bool ((t32.length : Int) == (2 : Int))) ha (s := hS) (q := fun a ha => ?_)
       have ha := ha.sel (env' := [(57, .bool ((t32.length : Int) == (2 : Int))), (1, .pointer (some ⟨g5, 0, none⟩)), (7, .slice ao33 t32.length cap33)]) (by kernel_rfl)
       rcases Bool.eq_false_or_eq_true ((t32.length : Int) == (2 : Int)) with hb50 | hb50
       ·have ha := ha.lit hb50
        have H := ite_t hb50 H
        refine tkpz 31 0 (.slice ao33 t32.length cap33) ha (s := hS) (q := fun a ha => ?_)
        obtain ⟨⟨hx51, hx51'⟩, H⟩ := ite_some H
        obtain ⟨ge52, oe530, cs54, hx51eq, hn57, hR55, hE56⟩ := RSl.elem z_f33 (Int.toNat (0 : Int)) (by omega)
        rw [rd_get] at hR55
        obtain rfl := hR55
        have hE56 : ∀ j v, (cA .u8 8 (rd t32 (0 : Int)))[j]? = some v → w32.cell? ⟨ge52, (oe530 + (Int.toNat (0 : Int)) * (rArr .u8 8).sz) + j, none⟩ = some v := hE56
        refine tkz 32 ha (v := .pointer (some ⟨ge52, (oe530 + (Int.toNat (0 : Int)) * (rArr .u8 8).sz), none⟩)) (y := fun w' _ => ix_run (r := (rArr .u8 8)) (T := 27) ha (by kernel_rfl) (by kernel_rfl) (by rfl) (by rfl) hx51eq hx51 hx51') (s := hS) (q := fun a ha => ?_)
        refine tkz 33 ha (v := .agg (cA .u8 8 (rd t32 (0 : Int))).toArray) (y := fun w' hs => ldA_run (cs := (cA .u8 8 (rd t32 (0 : Int)))) ha rfl (by kernel_rfl) (cells_sub (fun j v hv => cell_keep hs okS hn57 (hE56 j v hv)) (all := (cA .u8 8 (rd t32 (0 : Int)))) [] [] (by kernel_rfl))) (s := hS) (q := fun a ha => ?_)
        refine tkz 34 ha (v := .agg (cA .u8 8 t3.1).toArray) (y := fun w' hs => ldA_run (cs := (cA .u8 8 t3.1)) ha rfl (by kernel_rfl) (cells_sub (Box.cells (Box.chg z_hBg5 hs (fun h => nomatch h))) (all := (cA .u8 8 t3.1)) [] [] (by kernel_rfl))) (s := hS) (q := fun a ha => ?_)
        refine tkz 35 ha (v := .bool (eqA 8 (rd t32 (0 : Int)) t3.1)) (y := fun w' hs => eqs_run (r := (eqA 8 (rd t32 (0 : Int)) t3.1)) (m := 9) ha rfl rfl (by kernel_rfl) rfl (by kernel_rfl) w') (s := hS) (q := fun a ha => ?_)
        refine tkpz 36 3 (.bool (eqA 8 (rd t32 (0 : Int)) t3.1)) ha (s := hS) (q := fun a ha => ?_)
        refine tkpz 37 0 (.bool (eqA 8 (rd t32 (0 : Int)) t3.1)) ha (s := hS) (q := fun a ha => ?_)
        have ha := ha.sel (env' := [(64, .bool (eqA 8 (rd t32 (0 : Int)) t3.1)), (1, .pointer (some ⟨g5, 0, none⟩)), (7, .slice ao33 t32.length cap33)]) (by kernel_rfl)
        rcases Bool.eq_false_or_eq_true ((eqA 8 (rd t32 (0 : Int)) t3.1)) with hb58 | hb58
        ·have ha := ha.lit hb58
         have H := ite_t hb58 H
         refine tkpz 38 0 (.slice ao33 t32.length cap33) ha (s := hS) (q := fun a ha => ?_)
         refine tkz 39 ha (v := .agg (cA .u8 8 t3.1).toArray) (y := fun w' hs => ldA_run (cs := (cA .u8 8 t3.1)) ha rfl (by kernel_rfl) (cells_sub (Box.cells (Box.chg z_hBg5 hs (fun h => nomatch h))) (all := (cA .u8 8 t3.1)) [] [] (by kernel_rfl))) (s := hS) (q := fun a ha => ?_)
         refine ac 40 (by kernel_rfl) (by rfl) fun K59 hK59 => ?_
         refine bslA (vals := ([.agg (cA .u8 8 t3.1).toArray] : List Value)) (T := 27) (z := .agg (cA .u8 8 (List.replicate 8 (0 : Int))).toArray) ha rfl (by kernel_rfl) rfl (by kernel_rfl) (s := 8) (by kernel_rfl) rfl rfl (fun w => by kernel_rfl) (by kernel_rfl) rfl rfl rfl fun a w60 g61 hN62 ha => ?_
         have hN62 := (show New _ _ _ (.cells (((cA .u8 8 t3.1) ++ ([] : List Value))).toArray 27 (0, 0)) from hN62)
         have o1 : Ok [] ([g21] ++ ([g13] ++ ([g5] ++ (M)))) w48.heap.size := Ok.nil _ _
         have o2 : Ok ([g61] ++ ([g21] ++ ([g13] ++ ([g5] ++ (M))))) ([g21] ++ ([g13] ++ ([g5] ++ (M)))) w48.heap.size := (Ok.app (hN62.ok _) (Ok.refl _ _))
         have hG := hG.chg hN62.chg o1 o2
         have f33 := f33.chg hN62.chg o1 o2
         have hBg5 := hBg5.chg hN62.chg (fun h => nomatch h)
         have hBg13 := hBg13.chg hN62.chg (fun h => nomatch h)
         have hBg21 := hBg21.chg hN62.chg (fun h => nomatch h)
         have p_iD000063_i23 : ∀ x ∈ [g61], x ∉ ([g21]) := fun x hx hy => absurd (hM x (ml hy)) (Nat.not_lt.2 ((hN62.ge1) x hx))
         have p_iD000063_i15 : ∀ x ∈ [g61], x ∉ ([g13]) := fun x hx hy => absurd (hM x (mr (ml hy))) (Nat.not_lt.2 ((hN62.ge1) x hx))
         have p_iD000063_i7 : ∀ x ∈ [g61], x ∉ ([g5]) := fun x hx hy => absurd (hM x (mr (mr (ml hy)))) (Nat.not_lt.2 ((hN62.ge1) x hx))
         have p_iD000063_M : ∀ x ∈ [g61], x ∉ M := fun x hx hy => absurd (hM x (mr (mr (mr (hy))))) (Nat.not_lt.2 ((hN62.ge1) x hx))
         have e_iD000063 : ∀ x ∈ [g61], w.heap.size ≤ x := fun x hx => Nat.le_trans hC.size ((hN62.ge1) x hx)
         have hM : MS ([g61] ++ ([g21] ++ ([g13] ++ ([g5] ++ (M))))) w60 := (MS.app hN62.ms (hM.chg hN62.chg))
         have hC := hC.trans hN62.chg (Ok.nil _ _)
         have d_iD000063 : Ok ([g61]) [] w32.heap.size := fun x hx => .inr (Nat.le_trans hS.size ((hN62.ge1) x hx))
         have hS := hS.trans hN62.chg (Ok.nil _ _)
         have f64 : Own (rArr .u8 8) 27 w60 ([g61] ++ ([g21] ++ ([g13] ++ ([g5] ++ (M))))) (some ⟨g61, 0, none⟩) 1 ([t3.1] : List (List Int)) := hN62.own ⟨(cA .u8 8 t3.1), _, rfl, rfl, rfl⟩ (Nat.le_of_ble_eq_true rfl)
         refine ae hK59 hS ?_; clear hK59 K59
         refine ac 41 (by kernel_rfl) (by rfl) fun K65 hK65 => ?_
         have fz := f64.toRSl (M' := [g21] ++ ([g13] ++ ([g5] ++ (M)))) (fun _ h => .inl (mr (h))) (fun x hx hm => (List.mem_append.1 hm).elim (fun h => p_iD000063_i23 x hx h) (fun h => (List.mem_append.1 h).elim (fun h => p_iD000063_i15 x hx h) (fun h => (List.mem_append.1 h).elim (fun h => p_iD000063_i7 x hx h) (fun h => p_iD000063_M x hx h))))
         have o1 : Ok [] ([g61] ++ ([g21] ++ ([g13] ++ ([g5] ++ (M))))) w60.heap.size := Ok.nil _ _
         have o2 : Ok ([g21] ++ ([g13] ++ ([g5] ++ (M)))) ([g61] ++ ([g21] ++ ([g13] ++ ([g5] ++ (M))))) w60.heap.size := (fun _ h => .inl (mr (h)))
         have hG := hG.chg (Chg.refl [] _) o1 o2
         have f33 := f33.chg (Chg.refl [] _) o1 o2
         have hM : MS ([g21] ++ ([g13] ++ ([g5] ++ (M)))) w60 := (fun x h => hM.chg (Chg.refl [] _) x (mr (h)))
         have f64 := fz
         obtain ⟨t66, H66, H⟩ := bind_some H
         refine cl ha (by rfl) (by kernel_rfl) (by rfl) (by rfl) (by rfl) (community_Meet.walk w60 _ hM t32 ao33 cap33 f33 ([t3.1] : List (List Int)) (some ⟨g61, 0, none⟩) 1 f64 k _ H66) ?_
         rintro _ w66 ⟨rfl, hc66, hMn⟩ a ha
         have o1 : Ok [] ([g21] ++ ([g13] ++ ([g5] ++ (M)))) w60.heap.size := Ok.nil _ _
         have o2 : Ok ([g21] ++ ([g13] ++ ([g5] ++ (M)))) ([g21] ++ ([g13] ++ ([g5] ++ (M)))) w60.heap.size := (Ok.refl _ _)
         have hG := hG.chg hc66 o1 o2
         have f33 := f33.chg hc66 o1 o2
         have f64 := f64.chg hc66 o1 o2
         have hBg5 := hBg5.chg hc66 (fun h => nomatch h)
         have hBg13 := hBg13.chg hc66 (fun h => nomatch h)
         have hBg21 := hBg21.chg hc66 (fun h => nomatch h)
         have hM : MS ([g21] ++ ([g13] ++ ([g5] ++ (M)))) w66 := (hM.chg hc66)
         have hC := hC.trans hc66 (Ok.nil _ _)
         have hS := hS.trans hc66 (Ok.nil _ _)
         refine ae hK65 hS ?_; clear hK65 K65
         refine tkpz 42 3 (.bool t66) ha (s := hS) (q := fun a ha => ?_)
         refine tkpz 43 0 (.bool t66) ha (s := hS) (q := fun a ha => ?_)
         have ha := ha.sel (env' := [(70, .bool t66)]) (by kernel_rfl)
         rcases Bool.eq_false_or_eq_true (t66) with hb67 | hb67
         ·have ha := ha.lit hb67
          have H := ite_t hb67 H
          refine ac 44 (by kernel_rfl) (by rfl) fun K68 hK68 => ?_
          refine opk (v := .agg (cA .u8 8 ([(0 : Int), (9 : Int), (0 : Int), (0 : Int), (0 : Int), (0 : Int), (0 : Int), (0 : Int)] : List Int)).toArray) ha rfl rfl rfl rfl rfl (fun w => by kernel_rfl) fun a ha => ?_
          refine ae hK68 hS ?_; clear hK68 K68
          refine ac 45 (by kernel_rfl) (by rfl) fun K69 hK69 => ?_
          obtain ⟨t70, H70, H⟩ := bind_some H
          refine cl ha (by rfl) (by kernel_rfl) (by rfl) (by rfl) (by rfl) (community_Kind.walk w66 _ hM ([(0 : Int), (9 : Int), (0 : Int), (0 : Int), (0 : Int), (0 : Int), (0 : Int), (0 : Int)] : List Int) _ H70) ?_
          rintro _ w70 ⟨rfl, hc70, hMn⟩ a ha
          have o1 : Ok [] ([g21] ++ ([g13] ++ ([g5] ++ (M)))) w66.heap.size := Ok.nil _ _
          have o2 : Ok ([g21] ++ ([g13] ++ ([g5] ++ (M)))) ([g21] ++ ([g13] ++ ([g5] ++ (M)))) w66.heap.size := (Ok.refl _ _)
          have hG := hG.chg hc70 o1 o2
          have hBg5 := hBg5.chg hc70 (fun h => nomatch h)
          have hBg13 := hBg13.chg hc70 (fun h => nomatch h)
          have hBg21 := hBg21.chg hc70 (fun h => nomatch h)
          have hM : MS ([g21] ++ ([g13] ++ ([g5] ++ (M)))) w70 := (hM.chg hc70)
          have hC := hC.trans hc70 (Ok.nil _ _)
          have hS := hS.trans hc70 (Ok.nil _ _)
          refine ae hK69 hS ?_; clear hK69 K69
          refine tkpz 46 0 (.bool (t70 == (0 : Int))) ha (s := hS) (q := fun a ha => ?_)
          refine tkpz 47 3 (.bool (t70 == (0 : Int))) ha (s := hS) (q := fun a ha => ?_)
          refine tkpz 48 0 (.bool (t70 == (0 : Int))) ha (s := hS) (q := fun a ha => ?_)
          refine dn (by kernel_rfl) ?_
          obtain rfl := Option.some.inj H
          exact J37 _ _ (ha.sel (by kernel_rfl)) hBg5 hBg13 hBg21 hG hC hM
         ·have ha := ha.lit hb67
          have H := ite_f hb67 H
          refine tkoz 44 ha (s := hS) (q := fun a ha => ?_)
          refine tkoz 45 ha (s := hS) (q := fun a ha => ?_)
          refine tkoz 46 ha (s := hS) (q := fun a ha => ?_)
          refine tkpz 47 4 (.bool false) ha (s := hS) (q := fun a ha => ?_)
          refine tkpz 48 0 (.bool false) ha (s := hS) (q := fun a ha => ?_)
          refine dn (by kernel_rfl) ?_
          obtain rfl := Option.some.inj H
          exact J37 _ _ (ha.sel (by kernel_rfl)) hBg5 hBg13 hBg21 hG hC hM
        ·have ha := ha.lit hb58
         have H := ite_f hb58 H
         refine tkoz 38 ha (s := hS) (q := fun a ha => ?_)
         refine tkoz 39 ha (s := hS) (q := fun a ha => ?_)
         refine tkoz 40 ha (s := hS) (q := fun a ha => ?_)
         refine tkoz 41 ha (s := hS) (q := fun a ha => ?_)
         refine tkpz 42 4 (.bool false) ha (s := hS) (q := fun a ha => ?_)
         refine tkpz 43 0 (.bool false) ha (s := hS) (q := fun a ha => ?_)
         refine tkoz 44 ha (s := hS) (q := fun a ha => ?_)
         refine tkoz 45 ha (s := hS) (q := fun a ha => ?_)
         refine tkoz 46 ha (s := hS) (q := fun a ha => ?_)
         refine tkpz 47 4 (.bool false) ha (s := hS) (q := fun a ha => ?_)
         refine tkpz 48 0 (.bool false) ha (s := hS) (q := fun a ha => ?_)
         refine dn (by kernel_rfl) ?_
         obtain rfl := Option.some.inj H
         exact J37 _ _ (ha.sel (by kernel_rfl)) hBg5 hBg13 hBg21 hG hC hM
       ·have ha := ha.lit hb50
        have H := ite_f hb50 H
        refine tkoz 31 ha (s := hS) (q := fun a ha => ?_)
        refine tkoz 32 ha (s := hS) (q := fun a ha => ?_)
        refine tkoz 33 ha (s := hS) (q := fun a ha => ?_)
        refine tkoz 34 ha (s := hS) (q := fun a ha => ?_)
        refine tkoz 35 ha (s := hS) (q := fun a ha => ?_)
        refine tkpz 36 4 (.bool false) ha (s := hS) (q := fun a ha => ?_)
        refine tkpz 37 0 (.bool false) ha (s := hS) (q := fun a ha => ?_)
        refine tkoz 38 ha (s := hS) (q := fun a ha => ?_)
        refine tkoz 39 ha (s := hS) (q := fun a ha => ?_)
        refine tkoz 40 ha (s := hS) (q := fun a ha => ?_)
        refine tkoz 41 ha (s := hS) (q := fun a ha => ?_)
        refine tkpz 42 4 (.bool false) ha (s := hS) (q := fun a ha => ?_)
        refine tkpz 43 0 (.bool false) ha (s := hS) (q := fun a ha => ?_)
        refine tkoz 44 ha (s := hS) (q := fun a ha => ?_)
        refine tkoz 45 ha (s := hS) (q := fun a ha => ?_)
        refine tkoz 46 ha (s := hS) (q := fun a ha => ?_)
        refine tkpz 47 4 (.bool false) ha (s := hS) (q := fun a ha => ?_)
        refine tkpz 48 0 (.bool false) ha (s := hS) (q := fun a ha => ?_)
        refine dn (by kernel_rfl) ?_
        obtain rfl := Option.some.inj H
        exact J37 _ _ (ha.sel (by kernel_rfl)) hBg5 hBg13 hBg21 hG hC hM
      ·have ha := ha.lit hb49
       have H := ite_f hb49 H
       refine tkoz 26 ha (s := hS) (q := fun a ha => ?_)
       refine tkoz 27 ha (s := hS) (q := fun a ha => ?_)
       refine tkoz 28 ha (s := hS) (q := fun a ha => ?_)
       refine tkpz 29 4 (.bool false) ha (s := hS) (q := fun a ha => ?_)
       refine tkpz 30 0 (.bool false) ha (s := hS) (q := fun a ha => ?_)
       refine tkoz 31 ha (s := hS) (q := fun a ha => ?_)
       refine tkoz 32 ha (s := hS) (q := fun a ha => ?_)
       refine tkoz 33 ha (s := hS) (q := fun a ha => ?_)
       refine tkoz 34 ha (s := hS) (q := fun a ha => ?_)
       refine tkoz 35 ha (s := hS) (q := fun a ha => ?_)
       refine tkpz 36 4 (.bool false) ha (s := hS) (q := fun a ha => ?_)
       refine tkpz 37 0 (.bool false) ha (s := hS) (q := fun a ha => ?_)
       refine tkoz 38 ha (s := hS) (q := fun a ha => ?_)
       refine tkoz 39 ha (s := hS) (q := fun a ha => ?_)
       refine tkoz 40 ha (s := hS) (q := fun a ha => ?_)
       refine tkoz 41 ha (s := hS) (q := fun a ha => ?_)
       refine tkpz 42 4 (.bool false) ha (s := hS) (q := fun a ha => ?_)
       refine tkpz 43 0 (.bool false) ha (s := hS) (q := fun a ha => ?_)
       refine tkoz 44 ha (s := hS) (q := fun a ha => ?_)
       refine tkoz 45 ha (s := hS) (q := fun a ha => ?_)
       refine tkoz 46 ha (s := hS) (q := fun a ha => ?_)
       refine tkpz 47 4 (.bool false) ha (s := hS) (q := fun a ha => ?_)
       refine tkpz 48 0 (.bool false) ha (s := hS) (q := fun a ha => ?_)
       refine dn (by kernel_rfl) ?_
       obtain rfl := Option.some.inj H
       exact J37 _ _ (ha.sel (by kernel_rfl)) hBg5 hBg13 hBg21 hG hC hM
     ·have ha := ha.lit hb46
      have H := ite_f hb46 H
      refine tkoz 21 ha (s := hS) (q := fun a ha => ?_)
      refine tkoz 22 ha (s := hS) (q := fun a ha => ?_)
      refine tkoz 23 ha (s := hS) (q := fun a ha => ?_)
      refine tkpz 24 4 (.bool false) ha (s := hS) (q := fun a ha => ?_)
      refine tkpz 25 0 (.bool false) ha (s := hS) (q := fun a ha => ?_)
      refine tkoz 26 ha (s := hS) (q := fun a ha => ?_)
      refine tkoz 27 ha (s := hS) (q := fun a ha => ?_)
      refine tkoz 28 ha (s := hS) (q := fun a ha => ?_)
      refine tkpz 29 4 (.bool false) ha (s := hS) (q := fun a ha => ?_)
      refine tkpz 30 0 (.bool false) ha (s := hS) (q := fun a ha => ?_)
      refine tkoz 31 ha (s := hS) (q := fun a ha => ?_)
      refine tkoz 32 ha (s := hS) (q := fun a ha => ?_)
      refine tkoz 33 ha (s := hS) (q := fun a ha => ?_)
      refine tkoz 34 ha (s := hS) (q := fun a ha => ?_)
      refine tkoz 35 ha (s := hS) (q := fun a ha => ?_)
      refine tkpz 36 4 (.bool false) ha (s := hS) (q := fun a ha => ?_)
      refine tkpz 37 0 (.bool false) ha (s := hS) (q := fun a ha => ?_)
      refine tkoz 38 ha (s := hS) (q := fun a ha => ?_)
      refine tkoz 39 ha (s := hS) (q := fun a ha => ?_)
      refine tkoz 40 ha (s := hS) (q := fun a ha => ?_)
      refine tkoz 41 ha (s := hS) (q := fun a ha => ?_)
      refine tkpz 42 4 (.bool false) ha (s := hS) (q := fun a ha => ?_)
      refine tkpz 43 0 (.bool false) ha (s := hS) (q := fun a ha => ?_)
      refine tkoz 44 ha (s := hS) (q := fun a ha => ?_)
      refine tkoz 45 ha (s := hS) (q := fun a ha => ?_)
      refine tkoz 46 ha (s := hS) (q := fun a ha => ?_)
      refine tkpz 47 4 (.bool false) ha (s := hS) (q := fun a ha => ?_)
      refine tkpz 48 0 (.bool false) ha (s := hS) (q := fun a ha => ?_)
      refine dn (by kernel_rfl) ?_
      obtain rfl := Option.some.inj H
      exact J37 _ _ (ha.sel (by kernel_rfl)) hBg5 hBg13 hBg21 hG hC hM
    ·have ha := ha.lit hb45
     have H := ite_f hb45 H
     refine tkoz 17 ha (s := hS) (q := fun a ha => ?_)
     refine tkoz 18 ha (s := hS) (q := fun a ha => ?_)
     refine tkpz 19 4 (.bool false) ha (s := hS) (q := fun a ha => ?_)
     refine tkpz 20 0 (.bool false) ha (s := hS) (q := fun a ha => ?_)
     refine tkoz 21 ha (s := hS) (q := fun a ha => ?_)
     refine tkoz 22 ha (s := hS) (q := fun a ha => ?_)
     refine tkoz 23 ha (s := hS) (q := fun a ha => ?_)
     refine tkpz 24 4 (.bool false) ha (s := hS) (q := fun a ha => ?_)
     refine tkpz 25 0 (.bool false) ha (s := hS) (q := fun a ha => ?_)
     refine tkoz 26 ha (s := hS) (q := fun a ha => ?_)
     refine tkoz 27 ha (s := hS) (q := fun a ha => ?_)
     refine tkoz 28 ha (s := hS) (q := fun a ha => ?_)
     refine tkpz 29 4 (.bool false) ha (s := hS) (q := fun a ha => ?_)
     refine tkpz 30 0 (.bool false) ha (s := hS) (q := fun a ha => ?_)
     refine tkoz 31 ha (s := hS) (q := fun a ha => ?_)
     refine tkoz 32 ha (s := hS) (q := fun a ha => ?_)
     refine tkoz 33 ha (s := hS) (q := fun a ha => ?_)
     refine tkoz 34 ha (s := hS) (q := fun a ha => ?_)
     refine tkoz 35 ha (s := hS) (q := fun a ha => ?_)
     refine tkpz 36 4 (.bool false) ha (s := hS) (q := fun a ha => ?_)
     refine tkpz 37 0 (.bool false) ha (s := hS) (q := fun a ha => ?_)
     refine tkoz 38 ha (s := hS) (q := fun a ha => ?_)
     refine tkoz 39 ha (s := hS) (q := fun a ha => ?_)
     refine tkoz 40 ha (s := hS) (q := fun a ha => ?_)
     refine tkoz 41 ha (s := hS) (q := fun a ha => ?_)
     refine tkpz 42 4 (.bool false) ha (s := hS) (q := fun a ha => ?_)
     refine tkpz 43 0 (.bool false) ha (s := hS) (q := fun a ha => ?_)
     refine tkoz 44 ha (s := hS) (q := fun a ha => ?_)
     refine tkoz 45 ha (s := hS) (q := fun a ha => ?_)
     refine tkoz 46 ha (s := hS) (q := fun a ha => ?_)
     refine tkpz 47 4 (.bool false) ha (s := hS) (q := fun a ha => ?_)
     refine tkpz 48 0 (.bool false) ha (s := hS) (q := fun a ha => ?_)
     refine dn (by kernel_rfl) ?_
     obtain rfl := Option.some.inj H
     exact J37 _ _ (ha.sel (by kernel_rfl)) hBg5 hBg13 hBg21 hG hC hM
   ·have ha := ha.lit hb42
    have H := ite_f hb42 H
    refine tkoz 12 ha (s := hS) (q := fun a ha => ?_)
    refine tkoz 13 ha (s := hS) (q := fun a ha => ?_)
    refine tkoz 14 ha (s := hS) (q := fun a ha => ?_)
    refine tkpz 15 4 (.bool false) ha (s := hS) (q := fun a ha => ?_)
    refine tkpz 16 0 (.bool false) ha (s := hS) (q := fun a ha => ?_)
    refine tkoz 17 ha (s := hS) (q := fun a ha => ?_)
    refine tkoz 18 ha (s := hS) (q := fun a ha => ?_)
    refine tkpz 19 4 (.bool false) ha (s := hS) (q := fun a ha => ?_)
    refine tkpz 20 0 (.bool false) ha (s := hS) (q := fun a ha => ?_)
    refine tkoz 21 ha (s := hS) (q := fun a ha => ?_)
    refine tkoz 22 ha (s := hS) (q := fun a ha => ?_)
    refine tkoz 23 ha (s := hS) (q := fun a ha => ?_)
    refine tkpz 24 4 (.bool false) ha (s := hS) (q := fun a ha => ?_)
    refine tkpz 25 0 (.bool false) ha (s := hS) (q := fun a ha => ?_)
    refine tkoz 26 ha (s := hS) (q := fun a ha => ?_)
    refine tkoz 27 ha (s := hS) (q := fun a ha => ?_)
    refine tkoz 28 ha (s := hS) (q := fun a ha => ?_)
    refine tkpz 29 4 (.bool false) ha (s := hS) (q := fun a ha => ?_)
    refine tkpz 30 0 (.bool false) ha (s := hS) (q := fun a ha => ?_)
    refine tkoz 31 ha (s := hS) (q := fun a ha => ?_)
    refine tkoz 32 ha (s := hS) (q := fun a ha => ?_)
    refine tkoz 33 ha (s := hS) (q := fun a ha => ?_)
    refine tkoz 34 ha (s := hS) (q := fun a ha => ?_)
    refine tkoz 35 ha (s := hS) (q := fun a ha => ?_)
    refine tkpz 36 4 (.bool false) ha (s := hS) (q := fun a ha => ?_)
    refine tkpz 37 0 (.bool false) ha (s := hS) (q := fun a ha => ?_)
    refine tkoz 38 ha (s := hS) (q := fun a ha => ?_)
    refine tkoz 39 ha (s := hS) (q := fun a ha => ?_)
    refine tkoz 40 ha (s := hS) (q := fun a ha => ?_)
    refine tkoz 41 ha (s := hS) (q := fun a ha => ?_)
    refine tkpz 42 4 (.bool false) ha (s := hS) (q := fun a ha => ?_)
    refine tkpz 43 0 (.bool false) ha (s := hS) (q := fun a ha => ?_)
    refine tkoz 44 ha (s := hS) (q := fun a ha => ?_)
    refine tkoz 45 ha (s := hS) (q := fun a ha => ?_)
    refine tkoz 46 ha (s := hS) (q := fun a ha => ?_)
    refine tkpz 47 4 (.bool false) ha (s := hS) (q := fun a ha => ?_)
    refine tkpz 48 0 (.bool false) ha (s := hS) (q := fun a ha => ?_)
    refine dn (by kernel_rfl) ?_
    obtain rfl := Option.some.inj H
    exact J37 _ _ (ha.sel (by kernel_rfl)) hBg5 hBg13 hBg21 hG hC hM
  ·have ha := ha.lit hb41
   have H := ite_f hb41 H
   refine tkoz 8 ha (s := hS) (q := fun a ha => ?_)
   refine tkoz 9 ha (s := hS) (q := fun a ha => ?_)
   refine tkpz 10 4 (.bool false) ha (s := hS) (q := fun a ha => ?_)
   refine tkpz 11 0 (.bool false) ha (s := hS) (q := fun a ha => ?_)
   refine tkoz 12 ha (s := hS) (q := fun a ha => ?_)
   refine tkoz 13 ha (s := hS) (q := fun a ha => ?_)
   refine tkoz 14 ha (s := hS) (q := fun a ha => ?_)
   refine tkpz 15 4 (.bool false) ha (s := hS) (q := fun a ha => ?_)
   refine tkpz 16 0 (.bool false) ha (s := hS) (q := fun a ha => ?_)
   refine tkoz 17 ha (s := hS) (q := fun a ha => ?_)
   refine tkoz 18 ha (s := hS) (q := fun a ha => ?_)
   refine tkpz 19 4 (.bool false) ha (s := hS) (q := fun a ha => ?_)
   refine tkpz 20 0 (.bool false) ha (s := hS) (q := fun a ha => ?_)
   refine tkoz 21 ha (s := hS) (q := fun a ha => ?_)
   refine tkoz 22 ha (s := hS) (q := fun a ha => ?_)
   refine tkoz 23 ha (s := hS) (q := fun a ha => ?_)
   refine tkpz 24 4 (.bool false) ha (s := hS) (q := fun a ha => ?_)
   refine tkpz 25 0 (.bool false) ha (s := hS) (q := fun a ha => ?_)
   refine tkoz 26 ha (s := hS) (q := fun a ha => ?_)
   refine tkoz 27 ha (s := hS) (q := fun a ha => ?_)
   refine tkoz 28 ha (s := hS) (q := fun a ha => ?_)
   refine tkpz 29 4 (.bool false) ha (s := hS) (q := fun a ha => ?_)
   refine tkpz 30 0 (.bool false) ha (s := hS) (q := fun a ha => ?_)
   refine tkoz 31 ha (s := hS) (q := fun a ha => ?_)
   refine tkoz 32 ha (s := hS) (q := fun a ha => ?_)
   refine tkoz 33 ha (s := hS) (q := fun a ha => ?_)
   refine tkoz 34 ha (s := hS) (q := fun a ha => ?_)
   refine tkoz 35 ha (s := hS) (q := fun a ha => ?_)
   refine tkpz 36 4 (.bool false) ha (s := hS) (q := fun a ha => ?_)
   refine tkpz 37 0 (.bool false) ha (s := hS) (q := fun a ha => ?_)
   refine tkoz 38 ha (s := hS) (q := fun a ha => ?_)
   refine tkoz 39 ha (s := hS) (q := fun a ha => ?_)
   refine tkoz 40 ha (s := hS) (q := fun a ha => ?_)
   refine tkoz 41 ha (s := hS) (q := fun a ha => ?_)
   refine tkpz 42 4 (.bool false) ha (s := hS) (q := fun a ha => ?_)
   refine tkpz 43 0 (.bool false) ha (s := hS) (q := fun a ha => ?_)
   refine tkoz 44 ha (s := hS) (q := fun a ha => ?_)
   refine tkoz 45 ha (s := hS) (q := fun a ha => ?_)
   refine tkoz 46 ha (s := hS) (q := fun a ha => ?_)
   refine tkpz 47 4 (.bool false) ha (s := hS) (q := fun a ha => ?_)
   refine tkpz 48 0 (.bool false) ha (s := hS) (q := fun a ha => ?_)
   refine dn (by kernel_rfl) ?_
   obtain rfl := Option.some.inj H
   exact J37 _ _ (ha.sel (by kernel_rfl)) hBg5 hBg13 hBg21 hG hC hM
 ·have ha := ha.lit hb38
  have H := ite_f hb38 H
  refine tkoz 3 ha (s := hS) (q := fun a ha => ?_)
  refine tkoz 4 ha (s := hS) (q := fun a ha => ?_)
  refine tkoz 5 ha (s := hS) (q := fun a ha => ?_)
  refine tkpz 6 4 (.bool false) ha (s := hS) (q := fun a ha => ?_)
  refine tkpz 7 0 (.bool false) ha (s := hS) (q := fun a ha => ?_)
  refine tkoz 8 ha (s := hS) (q := fun a ha => ?_)
  refine tkoz 9 ha (s := hS) (q := fun a ha => ?_)
  refine tkpz 10 4 (.bool false) ha (s := hS) (q := fun a ha => ?_)
  refine tkpz 11 0 (.bool false) ha (s := hS) (q := fun a ha => ?_)
  refine tkoz 12 ha (s := hS) (q := fun a ha => ?_)
  refine tkoz 13 ha (s := hS) (q := fun a ha => ?_)
  refine tkoz 14 ha (s := hS) (q := fun a ha => ?_)
  refine tkpz 15 4 (.bool false) ha (s := hS) (q := fun a ha => ?_)
  refine tkpz 16 0 (.bool false) ha (s := hS) (q := fun a ha => ?_)
  refine tkoz 17 ha (s := hS) (q := fun a ha => ?_)
  refine tkoz 18 ha (s := hS) (q := fun a ha => ?_)
  refine tkpz 19 4 (.bool false) ha (s := hS) (q := fun a ha => ?_)
  refine tkpz 20 0 (.bool false) ha (s := hS) (q := fun a ha => ?_)
  refine tkoz 21 ha (s := hS) (q := fun a ha => ?_)
  refine tkoz 22 ha (s := hS) (q := fun a ha => ?_)
  refine tkoz 23 ha (s := hS) (q := fun a ha => ?_)
  refine tkpz 24 4 (.bool false) ha (s := hS) (q := fun a ha => ?_)
  refine tkpz 25 0 (.bool false) ha (s := hS) (q := fun a ha => ?_)
  refine tkoz 26 ha (s := hS) (q := fun a ha => ?_)
  refine tkoz 27 ha (s := hS) (q := fun a ha => ?_)
  refine tkoz 28 ha (s := hS) (q := fun a ha => ?_)
  refine tkpz 29 4 (.bool false) ha (s := hS) (q := fun a ha => ?_)
  refine tkpz 30 0 (.bool false) ha (s := hS) (q := fun a ha => ?_)
  refine tkoz 31 ha (s := hS) (q := fun a ha => ?_)
  refine tkoz 32 ha (s := hS) (q := fun a ha => ?_)
  refine tkoz 33 ha (s := hS) (q := fun a ha => ?_)
  refine tkoz 34 ha (s := hS) (q := fun a ha => ?_)
  refine tkoz 35 ha (s := hS) (q := fun a ha => ?_)
  refine tkpz 36 4 (.bool false) ha (s := hS) (q := fun a ha => ?_)
  refine tkpz 37 0 (.bool false) ha (s := hS) (q := fun a ha => ?_)
  refine tkoz 38 ha (s := hS) (q := fun a ha => ?_)
  refine tkoz 39 ha (s := hS) (q := fun a ha => ?_)
  refine tkoz 40 ha (s := hS) (q := fun a ha => ?_)
  refine tkoz 41 ha (s := hS) (q := fun a ha => ?_)
  refine tkpz 42 4 (.bool false) ha (s := hS) (q := fun a ha => ?_)
  refine tkpz 43 0 (.bool false) ha (s := hS) (q := fun a ha => ?_)
  refine tkoz 44 ha (s := hS) (q := fun a ha => ?_)
  refine tkoz 45 ha (s := hS) (q := fun a ha => ?_)
  refine tkoz 46 ha (s := hS) (q := fun a ha => ?_)
  refine tkpz 47 4 (.bool false) ha (s := hS) (q := fun a ha => ?_)
  refine tkpz 48 0 (.bool false) ha (s := hS) (q := fun a ha => ?_)
  refine dn (by kernel_rfl) ?_
  obtain rfl := Option.some.inj H
  exact J37 _ _ (ha.sel (by kernel_rfl)) hBg5 hBg13 hBg21 hG hC hM

def strings_Cut.f (a0 a1 : List UInt8) : Option (List UInt8 × List UInt8 × Bool) := if a0.length < 4294967281 then some (Lib.cut a0 a1) else none
theorem strings_Cut.walk (w : World) (M : List Nat) (hM : MS M w) (hG : GF w M) (a0 a1 : List UInt8) (r : List UInt8 × List UInt8 × Bool) (H : strings_Cut.f a0 a1 = some r) :
    To Tryz.prog 62 [.string (bstr a0), .string (bstr a1)] w fun v w' => v = .tuple #[.string (bstr r.1), .string (bstr r.2.1), .bool r.2.2] ∧ Chg [] w w' ∧ MS M w' := by
  unfold strings_Cut.f at H
  obtain ⟨h0, H⟩ := ite_some H
  obtain rfl := Option.some.inj H
  obtain ⟨m, hm⟩ := hG.2.2.1
  have e0 : (bstr a0).data.toList = a0 := by simp [bstr]
  have e1 : (bstr a1).data.toList = a1 := by simp [bstr]
  have h := Tryz.strings_Cut (bstr a0) (bstr a1) m w h0 hm
  rw [e0, e1] at h
  refine Calls.mono h ?_
  rintro e w' ⟨rfl, n, rfl⟩
  exact ⟨_, rfl, rfl, chg_drewN w n, hM.chg (chg_drewN w n)⟩


def strings_Split.f (a0 a1 : List UInt8) : Option (List (List UInt8)) := if a0.length < 4294967281 ∧ 1 ≤ a1.length ∧ Lib.countB (bstr a0) (bstr a1) + 1 ≤ 4294967296 then some ((Lib.splitB (bstr a1) 0 (Lib.countB (bstr a0) (bstr a1)) (bstr a0)).map (·.data.toList)) else none
theorem rl_strs {w : World} {M : List Nat} : ∀ (l : List ByteArray), RL rStr w M (l.map Value.string) (l.map (·.data.toList))
  | [] => rfl
  | x :: l => ⟨[.string x], l.map Value.string, rfl, by show _ = [Value.string (bstr x.data.toList)]; simp [bstr], rl_strs l⟩
theorem strings_Split.walk (w : World) (M : List Nat) (hM : MS M w) (hG : GF w M) (a0 a1 : List UInt8) (r : List (List UInt8)) (H : strings_Split.f a0 a1 = some r) :
    To Tryz.prog 88 [.string (bstr a0), .string (bstr a1)] w fun v w' => ∃ (ao2 : Option Addr) (cap2 : Nat), v = .slice ao2 r.length cap2 ∧ (Own rStr 9 w' (blkL ao2 ++ M) ao2 cap2 r) ∧ (∀ x ∈ blkL ao2, w.heap.size ≤ x) ∧ Chg [] w w' ∧ MS (blkL ao2 ++ M) w' := by
  unfold strings_Split.f at H
  obtain ⟨⟨h0, h1, h2⟩, H⟩ := ite_some H
  obtain rfl := Option.some.inj H
  obtain ⟨m, hm⟩ := hG.2.2.1
  have e1 : 1 ≤ (bstr a1).size := by simpa [bstr, ByteArray.size] using h1
  have h := Tryz.strings_Split (bstr a0) (bstr a1) m w h0 hm e1
  have hl := Lib.splitB_all (bstr a1) e1 0 _ (bstr a0) rfl
  generalize hls : Lib.splitB (bstr a1) 0 (Lib.countB (bstr a0) (bstr a1)) (bstr a0) = l at h hl ⊢
  refine Calls.mono h ?_
  rintro e w' ⟨rfl, rfl⟩
  have hc : Chg [] w (w.alloc (.cells (l.map Value.string).toArray 9)) := ⟨rfl, rfl, rfl, by show _ ≤ (w.heap.push _).size; simp, fun k hk _ => by show (w.heap.push _)[k]? = _; simp [Array.getElem?_push, Nat.ne_of_lt hk]⟩
  refine ⟨_, rfl, some ⟨w.heap.size, 0, none⟩, Lib.countB (bstr a0) (bstr a1) + 1, by rw [List.length_map, hl], .inr ⟨w.heap.size, (l.map Value.string).toArray, rfl, by simp [blkL], by show (w.heap.push _)[w.heap.size]? = _; simp, by simp [rStr, hl], by simp [hl], by unfold maxLen; omega, ?_⟩, fun x hx => by simp [blkL] at hx; omega, hc, MS.app (fun x hx => by simp [blkL] at hx; subst hx; show _ < (w.heap.push _).size; simp) (hM.chg hc)⟩
  have ez : ((l.map (·.data.toList)).length * rStr.sz) = (l.map Value.string).length := by simp [rStr]
  rw [ez, List.toList_toArray, List.take_length]
  exact rl_strs l

def rd_strange.l0 (a0 : List UInt8) : Nat → (List Int) → Nat → Option ((List Int) ⊕ (List Int × Nat))
  | 0, _, _ => none
  | kk + 1, x13, x14 => (if x14 < a0.length then ((if (decide (((dec a0 x14).1 : Int) ≥ (97 : Int))) = true then some (IntKind.i32.wrap ((IntKind.i32.wrap (((dec a0 x14).1 : Int) - (97 : Int))) + (10 : Int)) : Int) else some (IntKind.i32.wrap (((dec a0 x14).1 : Int) - (48 : Int)) : Int))).bind fun s25 => (if (if (if (decide (s25 < (0 : Int))) = true then true else (decide (s25 > (15 : Int)))) = true then true else (decide ((x14 : Int) ≥ (16 : Int)))) = true then some (.inl ((([(0 : Int), (0 : Int), (0 : Int), (0 : Int), (0 : Int), (0 : Int), (0 : Int), (0 : Int)] : List Int) : List Int))) else (if 0 ≤ (IntKind.i64.wrap (Int.tdiv (x14 : Int) (2 : Int))) ∧ (IntKind.i64.wrap (Int.tdiv (x14 : Int) (2 : Int))) < (8 : Int) then (if 0 ≤ (IntKind.i64.wrap (Int.tdiv (x14 : Int) (2 : Int))) ∧ (IntKind.i64.wrap (Int.tdiv (x14 : Int) (2 : Int))) < (8 : Int) then rd_strange.l0 a0 kk ((arL 8 x13).set (Int.toNat (IntKind.i64.wrap (Int.tdiv (x14 : Int) (2 : Int)))) (IntKind.u8.wrap (BitVec.ofInt IntKind.u8.bits (IntKind.u8.wrap ((ar x13 (Int.toNat (IntKind.i64.wrap (Int.tdiv (x14 : Int) (2 : Int))))) * 2 ^ (min (4 : Int).toNat IntKind.u8.bits))) ||| BitVec.ofInt IntKind.u8.bits (IntKind.u8.wrap s25)).toNat)) (x14 + (dec a0 x14).2) else none) else none)) else some (.inr ((x13 : List Int), (x14 : Nat))))
def rd_strange.f (k : Nat) (a0 : List UInt8) : Option (List Int) := (rd_strange.l0 a0 k (List.replicate 8 (0 : Int)) (0 : Nat)).bind fun s12 => match s12 with | .inl r => some r | .inr s12' => some ((s12'.1 : List Int))
set_option maxRecDepth 100000 in
theorem rd_strange.walk (w : World) (M : List Nat) (hM : MS M w) (a0 : List UInt8) (k : Nat) (r : List Int) (H : rd_strange.f k a0 = some r) :
    To Tryz.prog 89 [.string (bstr a0)] w fun v w' => v = .agg (cA .u8 8 r).toArray ∧ Chg [] w w' ∧ MS (M) w' := by
 unfold rd_strange.f at H
 refine ent Tryz.func89 rfl [(0, .string (bstr a0))] rfl (by rfl) fun a ha => ?_
 have hC : Chg [] w w := Chg.refl _ _
 refine wp_seq_k fun K1 hK1 => ?_
 refine wp_region_lit ?_
 refine al (cs := (cA .u8 8 (List.replicate 8 (0 : Int)))) (z := .agg (cA .u8 8 (List.replicate 8 (0 : Int))).toArray) ha (fun w => by kernel_rfl) rfl rfl rfl rfl fun a w2 g3 hN4 ha => ?_
 have p_i5_M : ∀ x ∈ [g3], x ∉ M := fun x hx hy => absurd (hM x (hy)) (Nat.not_lt.2 ((hN4.ge1) x hx))
 have e_i5 : ∀ x ∈ [g3], w.heap.size ≤ x := fun x hx => Nat.le_trans hC.size ((hN4.ge1) x hx)
 have hM : MS ([g3] ++ (M)) w2 := (MS.app hN4.ms (hM.chg hN4.chg))
 have hC := hC.trans hN4.chg (Ok.nil _ _)
 have hBg3 : Box w2 g3 (cA .u8 8 (List.replicate 8 (0 : Int))) := hN4.box
 refine hK1 _ _ ?_; try clear hK1 K1
 refine wp_seq_k fun K6 hK6 => ?_
 refine wp_seq_k fun K7 hK7 => ?_
 refine wp_region_lit ?_
 refine seg ha 1 [(2, .pointer (some ⟨g3, 0, none⟩)), (6, .string (bstr a0))] (by kernel_rfl) fun a ha => ?_
 refine rng (s := a0) ha (by kernel_rfl) rfl rfl rfl rfl fun a w8 g9 hN10 ha => ?_
 have hBg3 := hBg3.chg hN10.chg (fun h => nomatch h)
 have p_i11_i5 : ∀ x ∈ [g9], x ∉ ([g3]) := fun x hx hy => absurd (hM x (ml hy)) (Nat.not_lt.2 ((hN10.ge1) x hx))
 have p_i11_M : ∀ x ∈ [g9], x ∉ M := fun x hx hy => absurd (hM x (mr (hy))) (Nat.not_lt.2 ((hN10.ge1) x hx))
 have e_i11 : ∀ x ∈ [g9], w.heap.size ≤ x := fun x hx => Nat.le_trans hC.size ((hN10.ge1) x hx)
 have hM : MS ([g9] ++ ([g3] ++ (M))) w8 := (MS.app hN10.ms (hM.chg hN10.chg))
 have hC := hC.trans hN10.chg (Ok.nil _ _)
 have hBg9 : Iter w8 g9 a0 0 := hN10.at_
 refine hK7 _ _ ?_; try clear hK7 K7
 refine wp_block ?_
 obtain ⟨s12, H12, H⟩ := bind_some H
 have J12 : ∀ s12' (a : Act) (wx12 : World), s12 = .inr s12' → Has a Tryz.f89.ntmps [(2, .pointer (some ⟨g3, 0, none⟩))] → (Box wx12 g3 (cA .u8 8 s12'.1)) → (Iter wx12 g9 a0 s12'.2) → (Chg [] w wx12) → (MS ([g9] ++ ([g3] ++ (M))) wx12) → K6 a wx12 := by
  intro s12' a wx12 hs ha hBg3 hBg9 hC hM
  subst hs
  refine hK6 _ _ ?_; try clear hK6 K6
  refine wp_seq_k fun K15 hK15 => ?_
  refine wp_region_lit ?_
  refine ldA (cs := (cA .u8 8 s12'.1)) ha rfl (by kernel_rfl) rfl rfl rfl (cells_sub (Box.cells hBg3) (all := (cA .u8 8 s12'.1)) [] [] (by kernel_rfl)) fun a ha => ?_
  refine stA (l := (cA .u8 8 s12'.1)) ha rfl rfl rfl (by kernel_rfl) rfl rfl hBg3 rfl fun a w16 ha hb2 hc17 _ => ?_
  have hBg9 := hBg9.chg hc17 (p_i11_i5 g9 (by simp))
  have hM : MS ([g9] ++ ([g3] ++ (M))) w16 := (hM.chg hc17)
  have hC := hC.trans hc17 (fun x h => .inr (e_i5 x h))
  have hBg3 : Box w16 g3 (cA .u8 8 s12'.1) := hb2
  refine hK15 _ _ ?_; try clear hK15 K15
  refine wp_ret ?_
  try simp only [Exit.then, Exit.inBlock]
  have hM : MS (M) w16 := (fun x h => hM.chg (Chg.refl [] _) x (mr (mr (h))))
  obtain rfl := Option.some.inj H
  refine rtr ha (res1 rfl (roA ha rfl hBg3 (by kernel_rfl))) ?_
  exact ⟨rfl, hC, hM⟩
 have Hc12 := H
 have H := H12
 refine wp_loop_ghost (fun kk a w12 => ∃ (x13 : List Int) (x14 : Nat), rd_strange.l0 a0 kk x13 x14 = some s12 ∧ Has a Tryz.f89.ntmps [(2, .pointer (some ⟨g3, 0, none⟩)), (7, .pointer (some ⟨g9, 0, none⟩))] ∧ (Box w12 g3 (cA .u8 8 x13)) ∧ (Iter w12 g9 a0 x14) ∧ (Chg [] w w12) ∧ (MS ([g9] ++ ([g3] ++ (M))) w12)) k ?_ ?_
 ·skip
  exact ⟨(List.replicate 8 (0 : Int)), (0 : Nat), H, (ha.sel (by kernel_rfl)), hBg3, hBg9, hC, hM⟩
 ·rintro kk a w12 ⟨x13, x14, H, ha, hBg3, hBg9, hC, hM⟩
  obtain _ | kk := kk
  ·exact nomatch (show none = some _ from H)
  rw [rd_strange.l0] at H
  refine wp_seq_k fun K18 hK18 => ?_
  refine wp_region_lit ?_
  by_cases hp19 : x14 < a0.length
  ·have H := (if_pos hp19).symm.trans H
   refine nxt_more ha rfl rfl rfl rfl hBg9 hp19 fun a w19 hI19 hc19 ha => ?_
   have hBg3 := hBg3.chg hc19 ((fun x (hx : x ∈ [g3]) (hy : x ∈ [g9]) => p_i11_i5 x hy hx) g3 (by simp))
   have hM : MS ([g9] ++ ([g3] ++ (M))) w19 := (hM.chg hc19)
   have hC := hC.trans hc19 (fun x h => .inr (e_i11 x h))
   have hBg9 := hI19
   refine seg ha 1 [(2, .pointer (some ⟨g3, 0, none⟩)), (7, .pointer (some ⟨g9, 0, none⟩)), (8, .tuple #[.bool true, .int .i64 (x14 : Int), .int .i32 ((dec a0 x14).1 : Int)]), (9, .bool true)] (by kernel_rfl) fun a ha => ?_
   refine hK18 _ _ ?_; try clear hK18 K18
   refine wp_seq_k fun K20 hK20 => ?_
   refine cnd ha rfl (fun _ => ?_) (fun h => nomatch h)
   refine wp_skip ?_
   refine hK20 _ _ ?_; try clear hK20 K20
   refine wp_block ?_
   refine wp_seq_k fun K22 hK22 => ?_
   refine wp_region_lit ?_
   refine seg ha 4 [(2, .pointer (some ⟨g3, 0, none⟩)), (3, .int .i64 (x14 : Int)), (4, .int .i32 ((dec a0 x14).1 : Int)), (7, .pointer (some ⟨g9, 0, none⟩))] (by kernel_rfl) fun a ha => ?_
   refine hK22 _ _ ?_; try clear hK22 K22
   refine wp_seq_k fun K23 hK23 => ?_
   refine wp_region_lit ?_
   refine seg ha 3 [(2, .pointer (some ⟨g3, 0, none⟩)), (3, .int .i64 (x14 : Int)), (4, .int .i32 ((dec a0 x14).1 : Int)), (5, .int .i32 (IntKind.i32.wrap (((dec a0 x14).1 : Int) - (48 : Int)))), (7, .pointer (some ⟨g9, 0, none⟩))] (by kernel_rfl) fun a ha => ?_
   refine hK23 _ _ ?_; try clear hK23 K23
   refine wp_seq_k fun K24 hK24 => ?_
   obtain ⟨s25, H25, H⟩ := bind_some H
   have J25 : ∀ (a : Act) (w25 : World), Has a Tryz.f89.ntmps [(2, .pointer (some ⟨g3, 0, none⟩)), (3, .int .i64 (x14 : Int)), (5, .int .i32 s25), (7, .pointer (some ⟨g9, 0, none⟩))] → (Box w25 g3 (cA .u8 8 x13)) → (Iter w25 g9 a0 (x14 + (dec a0 x14).2)) → (Chg [] w w25) → (MS ([g9] ++ ([g3] ++ (M))) w25) → K24 a w25 := by
    intro a w25 ha hBg3 hBg9 hC hM
    refine hK24 _ _ ?_; try clear hK24 K24
    refine wp_seq_k fun K26 hK26 => ?_
    refine wp_seq_k fun K27 hK27 => ?_
    refine wp_region_lit ?_
    refine seg ha 10 [(2, .pointer (some ⟨g3, 0, none⟩)), (3, .int .i64 (x14 : Int)), (5, .int .i32 s25), (7, .pointer (some ⟨g9, 0, none⟩)), (28, .bool (if (if (decide (s25 < (0 : Int))) = true then true else (decide (s25 > (15 : Int)))) = true then true else (decide ((x14 : Int) ≥ (16 : Int)))))] (by kernel_rfl) fun a ha => ?_
    refine hK27 _ _ ?_; try clear hK27 K27
    refine cnd ha rfl (fun hc28 => ?_) (fun hc28 => ?_)
    ·have H := ite_t hc28 H
     refine wp_seq_k fun K29 hK29 => ?_
     refine wp_region_lit ?_
     refine opk (v := .agg (cA .u8 8 ([(0 : Int), (0 : Int), (0 : Int), (0 : Int), (0 : Int), (0 : Int), (0 : Int), (0 : Int)] : List Int)).toArray) ha rfl rfl rfl rfl rfl (fun w => by kernel_rfl) fun a ha => ?_
     refine stA (l := (cA .u8 8 ([(0 : Int), (0 : Int), (0 : Int), (0 : Int), (0 : Int), (0 : Int), (0 : Int), (0 : Int)] : List Int))) ha rfl rfl rfl (by kernel_rfl) rfl rfl hBg3 rfl fun a w30 ha hb2 hc31 _ => ?_
     have hBg9 := hBg9.chg hc31 (p_i11_i5 g9 (by simp))
     have hM : MS ([g9] ++ ([g3] ++ (M))) w30 := (hM.chg hc31)
     have hC := hC.trans hc31 (fun x h => .inr (e_i5 x h))
     have hBg3 : Box w30 g3 (cA .u8 8 ([(0 : Int), (0 : Int), (0 : Int), (0 : Int), (0 : Int), (0 : Int), (0 : Int), (0 : Int)] : List Int)) := hb2
     refine hK29 _ _ ?_; try clear hK29 K29
     refine wp_ret ?_
     try simp only [Exit.then, Exit.inBlock]
     have hM : MS (M) w30 := (fun x h => hM.chg (Chg.refl [] _) x (mr (mr (h))))
     obtain rfl := Option.some.inj H
     have H := (show some _ = some _ from Hc12)
     obtain rfl := Option.some.inj H
     refine rtr ha (res1 rfl (roA ha rfl hBg3 (by kernel_rfl))) ?_
     exact ⟨rfl, hC, hM⟩
    ·have H := ite_f hc28 H
     refine wp_skip ?_
     refine hK26 _ _ ?_; try clear hK26 K26
     refine wp_region_lit ?_
     refine seg ha 4 [(2, .pointer (some ⟨g3, 0, none⟩)), (5, .int .i32 s25), (7, .pointer (some ⟨g9, 0, none⟩)), (31, .int .i64 (IntKind.i64.wrap (Int.tdiv (x14 : Int) (2 : Int)))), (33, .int .i64 (IntKind.i64.wrap (Int.tdiv (x14 : Int) (2 : Int))))] (by kernel_rfl) fun a ha => ?_
     obtain ⟨⟨hx32, hx32'⟩, H⟩ := ite_some H
     have hi32 : (Int.toNat (IntKind.i64.wrap (Int.tdiv (x14 : Int) (2 : Int)))) < 8 := by omega
     refine hop (v := .pointer (some ⟨g3, 0 + (Int.toNat (IntKind.i64.wrap (Int.tdiv (x14 : Int) (2 : Int)))), none⟩)) (w' := w25) ha rfl rfl rfl (ixA_run (T := 5) (N := 8) (g := g3) (o' := 0) (k := .i64) (i := IntKind.i64.wrap (Int.tdiv (x14 : Int) (2 : Int))) ha (by kernel_rfl) (by kernel_rfl) (by rfl) (by rfl) hx32 hx32' _) fun a ha => ?_
     refine ld (v := .int .u8 (ar x13 (Int.toNat (IntKind.i64.wrap (Int.tdiv (x14 : Int) (2 : Int)))))) ha rfl (by kernel_rfl) rfl rfl rfl (hBg3.cell' (o := 0 + (Int.toNat (IntKind.i64.wrap (Int.tdiv (x14 : Int) (2 : Int))))) rfl (arr_cell (k := .u8) (m := 8) (x := x13) ([] : List Value) ([] : List Value) (by kernel_rfl) hi32)) fun a ha => ?_
     refine seg ha 4 [(2, .pointer (some ⟨g3, 0, none⟩)), (7, .pointer (some ⟨g9, 0, none⟩)), (31, .int .i64 (IntKind.i64.wrap (Int.tdiv (x14 : Int) (2 : Int)))), (39, .int .u8 (IntKind.u8.wrap (BitVec.ofInt IntKind.u8.bits (IntKind.u8.wrap ((ar x13 (Int.toNat (IntKind.i64.wrap (Int.tdiv (x14 : Int) (2 : Int))))) * 2 ^ (min (4 : Int).toNat IntKind.u8.bits))) ||| BitVec.ofInt IntKind.u8.bits (IntKind.u8.wrap s25)).toNat))] (by kernel_rfl) fun a ha => ?_
     obtain ⟨⟨hx33, hx33'⟩, H⟩ := ite_some H
     have hi33 : (Int.toNat (IntKind.i64.wrap (Int.tdiv (x14 : Int) (2 : Int)))) < 8 := by omega
     refine hop (v := .pointer (some ⟨g3, 0 + (Int.toNat (IntKind.i64.wrap (Int.tdiv (x14 : Int) (2 : Int)))), none⟩)) (w' := w25) ha rfl rfl rfl (ixA_run (T := 5) (N := 8) (g := g3) (o' := 0) (k := .i64) (i := IntKind.i64.wrap (Int.tdiv (x14 : Int) (2 : Int))) ha (by kernel_rfl) (by kernel_rfl) (by rfl) (by rfl) hx33 hx33' _) fun a ha => ?_
     refine st (o' := 0 + (Int.toNat (IntKind.i64.wrap (Int.tdiv (x14 : Int) (2 : Int))))) ha rfl rfl rfl (by kernel_rfl) rfl rfl hBg3 (arr_lt (k := .u8) (m := 8) (x := x13) ([] : List Value) ([] : List Value) (by kernel_rfl) hi33) fun a w34 ha hb2 hc35 _ => ?_
     have hBg9 := hBg9.chg hc35 (p_i11_i5 g9 (by simp))
     have hM : MS ([g9] ++ ([g3] ++ (M))) w34 := (hM.chg hc35)
     have hC := hC.trans hc35 (fun x h => .inr (e_i5 x h))
     have hBg3 : Box w34 g3 (cA .u8 8 ((arL 8 x13).set (Int.toNat (IntKind.i64.wrap (Int.tdiv (x14 : Int) (2 : Int)))) (IntKind.u8.wrap (BitVec.ofInt IntKind.u8.bits (IntKind.u8.wrap ((ar x13 (Int.toNat (IntKind.i64.wrap (Int.tdiv (x14 : Int) (2 : Int))))) * 2 ^ (min (4 : Int).toNat IntKind.u8.bits))) ||| BitVec.ofInt IntKind.u8.bits (IntKind.u8.wrap s25)).toNat))) := Box.setA (k := .u8) (m := 8) (x := x13) ([] : List Value) ([] : List Value) hb2 (by kernel_rfl) hi33 (by kernel_rfl)
     exact ⟨kk, Nat.lt_succ_self _, ⟨((arL 8 x13).set (Int.toNat (IntKind.i64.wrap (Int.tdiv (x14 : Int) (2 : Int)))) (IntKind.u8.wrap (BitVec.ofInt IntKind.u8.bits (IntKind.u8.wrap ((ar x13 (Int.toNat (IntKind.i64.wrap (Int.tdiv (x14 : Int) (2 : Int))))) * 2 ^ (min (4 : Int).toNat IntKind.u8.bits))) ||| BitVec.ofInt IntKind.u8.bits (IntKind.u8.wrap s25)).toNat)), x14 + (dec a0 x14).2, H, (ha.sel (by kernel_rfl)), hBg3, hBg9, hC, hM⟩⟩
   have H := H25
   refine wp_seq_k fun K36 hK36 => ?_
   refine wp_region_lit ?_
   refine seg ha 2 [(2, .pointer (some ⟨g3, 0, none⟩)), (3, .int .i64 (x14 : Int)), (4, .int .i32 ((dec a0 x14).1 : Int)), (5, .int .i32 (IntKind.i32.wrap (((dec a0 x14).1 : Int) - (48 : Int)))), (7, .pointer (some ⟨g9, 0, none⟩)), (15, .bool (decide (((dec a0 x14).1 : Int) ≥ (97 : Int))))] (by kernel_rfl) fun a ha => ?_
   refine hK36 _ _ ?_; try clear hK36 K36
   refine cnd ha rfl (fun hc37 => ?_) (fun hc37 => ?_)
   ·have H := ite_t hc37 H
    refine wp_region_lit ?_
    refine seg ha 4 [(2, .pointer (some ⟨g3, 0, none⟩)), (3, .int .i64 (x14 : Int)), (5, .int .i32 (IntKind.i32.wrap ((IntKind.i32.wrap (((dec a0 x14).1 : Int) - (97 : Int))) + (10 : Int)))), (7, .pointer (some ⟨g9, 0, none⟩))] (by kernel_rfl) fun a ha => ?_
    obtain rfl := Option.some.inj H
    exact J25 _ _ (ha.sel (by kernel_rfl)) hBg3 hBg9 hC hM
   ·have H := ite_f hc37 H
    refine wp_skip ?_
    obtain rfl := Option.some.inj H
    exact J25 _ _ (ha.sel (by kernel_rfl)) hBg3 hBg9 hC hM
  ·have H := (if_neg hp19).symm.trans H
   refine nxt_over ha rfl rfl rfl rfl hBg9 hp19 fun a ha => ?_
   refine seg ha 1 [(2, .pointer (some ⟨g3, 0, none⟩)), (7, .pointer (some ⟨g9, 0, none⟩)), (8, .tuple #[.bool false]), (9, .bool false)] (by kernel_rfl) fun a ha => ?_
   refine hK18 _ _ ?_; try clear hK18 K18
   refine wp_seq_k fun K38 hK38 => ?_
   refine cnd ha rfl (fun h => nomatch h) (fun _ => ?_)
   refine wp_exit ?_
   simp only [Exit.then, Exit.inBlock, ↓reduceIte, Nat.reduceEqDiff]
   obtain rfl := Option.some.inj H
   exact J12 _ _ _ rfl (ha.sel (by kernel_rfl)) hBg3 hBg9 hC hM
def rd_number.l0 (a0 : List UInt8) : Nat → Int → Nat → Option ((Int × Bool) ⊕ (Int × Nat))
  | 0, _, _ => none
  | kk + 1, x10, x11 => (if x11 < a0.length then (if (if (if (decide (((dec a0 x11).1 : Int) < (48 : Int))) = true then true else (decide (((dec a0 x11).1 : Int) > (57 : Int)))) = true then true else (decide ((x11 : Int) ≥ (10 : Int)))) = true then some (.inl (((0 : Int) : Int), (false : Bool))) else rd_number.l0 a0 kk (IntKind.i64.wrap ((IntKind.i64.wrap ((10 : Int) * x10)) + (IntKind.i64.wrap (IntKind.i32.wrap (((dec a0 x11).1 : Int) - (48 : Int)))))) (x11 + (dec a0 x11).2)) else some (.inr ((x10 : Int), (x11 : Nat))))
def rd_number.f (k : Nat) (a0 : List UInt8) : Option (Int × Bool) := (rd_number.l0 a0 k (0 : Int) (0 : Nat)).bind fun s9 => match s9 with | .inl r => some r | .inr s9' => some ((s9'.1 : Int), (!((bstr a0).toList == (bstr ([] : List UInt8)).toList) : Bool))
set_option maxRecDepth 100000 in
theorem rd_number.walk (w : World) (M : List Nat) (hM : MS M w) (a0 : List UInt8) (k : Nat) (r : Int × Bool) (H : rd_number.f k a0 = some r) :
    To Tryz.prog 124 [.string (bstr a0)] w fun v w' => v = .tuple #[.int .i64 r.1, .bool r.2] ∧ Chg [] w w' ∧ MS (M) w' := by
 unfold rd_number.f at H
 refine ent Tryz.func124 rfl [(0, .string (bstr a0))] rfl (by rfl) fun a ha => ?_
 have hC : Chg [] w w := Chg.refl _ _
 refine wp_seq_k fun K1 hK1 => ?_
 refine wp_region_lit ?_
 refine seg ha 2 [(0, .string (bstr a0))] (by kernel_rfl) fun a ha => ?_
 refine hK1 _ _ ?_; try clear hK1 K1
 refine wp_seq_k fun K2 hK2 => ?_
 refine wp_region_lit ?_
 refine seg ha 1 [(0, .string (bstr a0)), (4, .int .i64 (0 : Int))] (by kernel_rfl) fun a ha => ?_
 refine hK2 _ _ ?_; try clear hK2 K2
 refine wp_seq_k fun K3 hK3 => ?_
 refine wp_seq_k fun K4 hK4 => ?_
 refine wp_region_lit ?_
 refine seg ha 1 [(0, .string (bstr a0)), (4, .int .i64 (0 : Int)), (7, .string (bstr a0))] (by kernel_rfl) fun a ha => ?_
 refine rng (s := a0) ha (by kernel_rfl) rfl rfl rfl rfl fun a w5 g6 hN7 ha => ?_
 have p_i8_M : ∀ x ∈ [g6], x ∉ M := fun x hx hy => absurd (hM x (hy)) (Nat.not_lt.2 ((hN7.ge1) x hx))
 have e_i8 : ∀ x ∈ [g6], w.heap.size ≤ x := fun x hx => Nat.le_trans hC.size ((hN7.ge1) x hx)
 have hM : MS ([g6] ++ (M)) w5 := (MS.app hN7.ms (hM.chg hN7.chg))
 have hC := hC.trans hN7.chg (Ok.nil _ _)
 have hBg6 : Iter w5 g6 a0 0 := hN7.at_
 refine hK4 _ _ ?_; try clear hK4 K4
 refine wp_block ?_
 obtain ⟨s9, H9, H⟩ := bind_some H
 have J9 : ∀ s9' (a : Act) (wx9 : World), s9 = .inr s9' → Has a Tryz.f124.ntmps [(0, .string (bstr a0)), (4, .int .i64 s9'.1)] → (Iter wx9 g6 a0 s9'.2) → (Chg [] w wx9) → (MS ([g6] ++ (M)) wx9) → K3 a wx9 := by
  intro s9' a wx9 hs ha hBg6 hC hM
  subst hs
  refine hK3 _ _ ?_; try clear hK3 K3
  refine wp_seq_k fun K12 hK12 => ?_
  refine wp_region_lit ?_
  refine seg ha 5 [(2, .int .i64 s9'.1), (3, .bool (!((bstr a0).toList == (bstr ([] : List UInt8)).toList)))] (by kernel_rfl) fun a ha => ?_
  refine hK12 _ _ ?_; try clear hK12 K12
  refine wp_ret ?_
  try simp only [Exit.then, Exit.inBlock]
  have hM : MS (M) wx9 := (fun x h => hM.chg (Chg.refl [] _) x (mr (h)))
  obtain rfl := Option.some.inj H
  refine rt2 ha rfl rfl rfl ?_
  exact ⟨rfl, hC, hM⟩
 have Hc9 := H
 have H := H9
 refine wp_loop_ghost (fun kk a w9 => ∃ (x10 : Int) (x11 : Nat), rd_number.l0 a0 kk x10 x11 = some s9 ∧ Has a Tryz.f124.ntmps [(0, .string (bstr a0)), (4, .int .i64 x10), (8, .pointer (some ⟨g6, 0, none⟩))] ∧ (Iter w9 g6 a0 x11) ∧ (Chg [] w w9) ∧ (MS ([g6] ++ (M)) w9)) k ?_ ?_
 ·skip
  exact ⟨(0 : Int), (0 : Nat), H, (ha.sel (by kernel_rfl)), hBg6, hC, hM⟩
 ·rintro kk a w9 ⟨x10, x11, H, ha, hBg6, hC, hM⟩
  obtain _ | kk := kk
  ·exact nomatch (show none = some _ from H)
  rw [rd_number.l0] at H
  refine wp_seq_k fun K13 hK13 => ?_
  refine wp_region_lit ?_
  by_cases hp14 : x11 < a0.length
  ·have H := (if_pos hp14).symm.trans H
   refine nxt_more ha rfl rfl rfl rfl hBg6 hp14 fun a w14 hI14 hc14 ha => ?_
   have hM : MS ([g6] ++ (M)) w14 := (hM.chg hc14)
   have hC := hC.trans hc14 (fun x h => .inr (e_i8 x h))
   have hBg6 := hI14
   refine seg ha 1 [(0, .string (bstr a0)), (4, .int .i64 x10), (8, .pointer (some ⟨g6, 0, none⟩)), (9, .tuple #[.bool true, .int .i64 (x11 : Int), .int .i32 ((dec a0 x11).1 : Int)]), (10, .bool true)] (by kernel_rfl) fun a ha => ?_
   refine hK13 _ _ ?_; try clear hK13 K13
   refine wp_seq_k fun K15 hK15 => ?_
   refine cnd ha rfl (fun _ => ?_) (fun h => nomatch h)
   refine wp_skip ?_
   refine hK15 _ _ ?_; try clear hK15 K15
   refine wp_block ?_
   refine wp_seq_k fun K17 hK17 => ?_
   refine wp_region_lit ?_
   refine seg ha 4 [(0, .string (bstr a0)), (4, .int .i64 x10), (5, .int .i64 (x11 : Int)), (6, .int .i32 ((dec a0 x11).1 : Int)), (8, .pointer (some ⟨g6, 0, none⟩))] (by kernel_rfl) fun a ha => ?_
   refine hK17 _ _ ?_; try clear hK17 K17
   refine wp_seq_k fun K18 hK18 => ?_
   refine wp_seq_k fun K19 hK19 => ?_
   refine wp_region_lit ?_
   refine seg ha 10 [(0, .string (bstr a0)), (4, .int .i64 x10), (6, .int .i32 ((dec a0 x11).1 : Int)), (8, .pointer (some ⟨g6, 0, none⟩)), (22, .bool (if (if (decide (((dec a0 x11).1 : Int) < (48 : Int))) = true then true else (decide (((dec a0 x11).1 : Int) > (57 : Int)))) = true then true else (decide ((x11 : Int) ≥ (10 : Int)))))] (by kernel_rfl) fun a ha => ?_
   refine hK19 _ _ ?_; try clear hK19 K19
   refine cnd ha rfl (fun hc20 => ?_) (fun hc20 => ?_)
   ·have H := ite_t hc20 H
    refine wp_seq_k fun K21 hK21 => ?_
    refine wp_region_lit ?_
    refine seg ha 2 [(2, .int .i64 (0 : Int)), (3, .bool false)] (by kernel_rfl) fun a ha => ?_
    refine hK21 _ _ ?_; try clear hK21 K21
    refine wp_ret ?_
    try simp only [Exit.then, Exit.inBlock]
    have hM : MS (M) w14 := (fun x h => hM.chg (Chg.refl [] _) x (mr (h)))
    obtain rfl := Option.some.inj H
    have H := (show some _ = some _ from Hc9)
    obtain rfl := Option.some.inj H
    refine rt2 ha rfl rfl rfl ?_
    exact ⟨rfl, hC, hM⟩
   ·have H := ite_f hc20 H
    refine wp_skip ?_
    refine hK18 _ _ ?_; try clear hK18 K18
    refine wp_region_lit ?_
    refine seg ha 7 [(0, .string (bstr a0)), (4, .int .i64 (IntKind.i64.wrap ((IntKind.i64.wrap ((10 : Int) * x10)) + (IntKind.i64.wrap (IntKind.i32.wrap (((dec a0 x11).1 : Int) - (48 : Int))))))), (8, .pointer (some ⟨g6, 0, none⟩))] (by kernel_rfl) fun a ha => ?_
    exact ⟨kk, Nat.lt_succ_self _, ⟨IntKind.i64.wrap ((IntKind.i64.wrap ((10 : Int) * x10)) + (IntKind.i64.wrap (IntKind.i32.wrap (((dec a0 x11).1 : Int) - (48 : Int))))), x11 + (dec a0 x11).2, H, (ha.sel (by kernel_rfl)), hBg6, hC, hM⟩⟩
  ·have H := (if_neg hp14).symm.trans H
   refine nxt_over ha rfl rfl rfl rfl hBg6 hp14 fun a ha => ?_
   refine seg ha 1 [(0, .string (bstr a0)), (4, .int .i64 x10), (8, .pointer (some ⟨g6, 0, none⟩)), (9, .tuple #[.bool false]), (10, .bool false)] (by kernel_rfl) fun a ha => ?_
   refine hK13 _ _ ?_; try clear hK13 K13
   refine wp_seq_k fun K22 hK22 => ?_
   refine cnd ha rfl (fun h => nomatch h) (fun _ => ?_)
   refine wp_exit ?_
   simp only [Exit.then, Exit.inBlock, ↓reduceIte, Nat.reduceEqDiff]
   obtain rfl := Option.some.inj H
   exact J9 _ _ _ rfl (ha.sel (by kernel_rfl)) hBg6 hC hM
def addr_value.f (a0 : Int) (a1 : Int) : Option (Int × Bool) := (if (if (decide (a0 ≥ (48 : Int))) = true then (decide (a0 ≤ (57 : Int))) else false) = true then some ((IntKind.i64.wrap (IntKind.i32.wrap (a0 - (48 : Int))) : Int), (decide ((IntKind.i64.wrap (IntKind.i32.wrap (a0 - (48 : Int)))) < a1) : Bool)) else (if (if (decide (a0 ≥ (97 : Int))) = true then (decide (a0 ≤ (102 : Int))) else false) = true then some ((IntKind.i64.wrap ((IntKind.i64.wrap (IntKind.i32.wrap (a0 - (97 : Int)))) + (10 : Int)) : Int), (decide ((IntKind.i64.wrap ((IntKind.i64.wrap (IntKind.i32.wrap (a0 - (97 : Int)))) + (10 : Int))) < a1) : Bool)) else some ((a1 : Int), (decide (a1 < a1) : Bool))))
set_option maxRecDepth 100000 in
theorem addr_value.walk (w : World) (M : List Nat) (hM : MS M w) (a0 : Int) (a1 : Int) (r : Int × Bool) (H : addr_value.f a0 a1 = some r) :
    To Tryz.prog 154 [.int .i32 a0, .int .i64 a1] w fun v w' => v = .tuple #[.int .i64 r.1, .bool r.2] ∧ Chg [] w w' ∧ MS (M) w' := by
 unfold addr_value.f at H
 refine ent Tryz.func154 rfl [(0, .int .i32 a0), (1, .int .i64 a1)] rfl (by rfl) fun a ha => ?_
 have hC : Chg [] w w := Chg.refl _ _
 refine wp_seq_k fun K1 hK1 => ?_
 refine wp_region_lit ?_
 refine seg ha 2 [(0, .int .i32 a0), (1, .int .i64 a1)] (by kernel_rfl) fun a ha => ?_
 refine hK1 _ _ ?_; try clear hK1 K1
 refine wp_seq_k fun K2 hK2 => ?_
 refine wp_region_lit ?_
 refine seg ha 2 [(0, .int .i32 a0), (1, .int .i64 a1), (6, .int .i64 a1)] (by kernel_rfl) fun a ha => ?_
 refine hK2 _ _ ?_; try clear hK2 K2
 refine wp_seq_k fun K3 hK3 => ?_
 refine wp_block ?_
 refine wp_seq_k fun K4 hK4 => ?_
 refine wp_region_lit ?_
 refine seg ha 7 [(0, .int .i32 a0), (1, .int .i64 a1), (6, .int .i64 a1), (8, .bool (if (decide (a0 ≥ (48 : Int))) = true then (decide (a0 ≤ (57 : Int))) else false))] (by kernel_rfl) fun a ha => ?_
 refine hK4 _ _ ?_; try clear hK4 K4
 refine cnd ha rfl (fun hc5 => ?_) (fun hc5 => ?_)
 ·have H := ite_t hc5 H
  refine wp_region_lit ?_
  refine seg ha 4 [(1, .int .i64 a1), (6, .int .i64 (IntKind.i64.wrap (IntKind.i32.wrap (a0 - (48 : Int)))))] (by kernel_rfl) fun a ha => ?_
  refine hK3 _ _ ?_; try clear hK3 K3
  refine wp_seq_k fun K6 hK6 => ?_
  refine wp_region_lit ?_
  refine seg ha 6 [(4, .int .i64 (IntKind.i64.wrap (IntKind.i32.wrap (a0 - (48 : Int))))), (5, .bool (decide ((IntKind.i64.wrap (IntKind.i32.wrap (a0 - (48 : Int)))) < a1)))] (by kernel_rfl) fun a ha => ?_
  refine hK6 _ _ ?_; try clear hK6 K6
  refine wp_ret ?_
  try simp only [Exit.then, Exit.inBlock]
  obtain rfl := Option.some.inj H
  refine rt2 ha rfl rfl rfl ?_
  exact ⟨rfl, hC, hM⟩
 ·have H := ite_f hc5 H
  refine wp_seq_k fun K7 hK7 => ?_
  refine wp_region_lit ?_
  refine seg ha 7 [(0, .int .i32 a0), (1, .int .i64 a1), (6, .int .i64 a1), (18, .bool (if (decide (a0 ≥ (97 : Int))) = true then (decide (a0 ≤ (102 : Int))) else false))] (by kernel_rfl) fun a ha => ?_
  refine hK7 _ _ ?_; try clear hK7 K7
  refine cnd ha rfl (fun hc8 => ?_) (fun hc8 => ?_)
  ·have H := ite_t hc8 H
   refine wp_region_lit ?_
   refine seg ha 5 [(1, .int .i64 a1), (6, .int .i64 (IntKind.i64.wrap ((IntKind.i64.wrap (IntKind.i32.wrap (a0 - (97 : Int)))) + (10 : Int))))] (by kernel_rfl) fun a ha => ?_
   refine hK3 _ _ ?_; try clear hK3 K3
   refine wp_seq_k fun K9 hK9 => ?_
   refine wp_region_lit ?_
   refine seg ha 6 [(4, .int .i64 (IntKind.i64.wrap ((IntKind.i64.wrap (IntKind.i32.wrap (a0 - (97 : Int)))) + (10 : Int)))), (5, .bool (decide ((IntKind.i64.wrap ((IntKind.i64.wrap (IntKind.i32.wrap (a0 - (97 : Int)))) + (10 : Int))) < a1)))] (by kernel_rfl) fun a ha => ?_
   refine hK9 _ _ ?_; try clear hK9 K9
   refine wp_ret ?_
   try simp only [Exit.then, Exit.inBlock]
   obtain rfl := Option.some.inj H
   refine rt2 ha rfl rfl rfl ?_
   exact ⟨rfl, hC, hM⟩
  ·have H := ite_f hc8 H
   refine wp_skip ?_
   refine hK3 _ _ ?_; try clear hK3 K3
   refine wp_seq_k fun K10 hK10 => ?_
   refine wp_region_lit ?_
   refine seg ha 6 [(4, .int .i64 a1), (5, .bool (decide (a1 < a1)))] (by kernel_rfl) fun a ha => ?_
   refine hK10 _ _ ?_; try clear hK10 K10
   refine wp_ret ?_
   try simp only [Exit.then, Exit.inBlock]
   obtain rfl := Option.some.inj H
   refine rt2 ha rfl rfl rfl ?_
   exact ⟨rfl, hC, hM⟩
def addr_parts.l0 (a0 : List UInt8) (a1 : Int) (a2 : Int) (a3 : Int) : Nat → (List Int) → Nat → Option ((List Int × Bool) ⊕ (List Int × Nat))
  | 0, _, _ => none
  | kk + 1, x16, x17 => (if x17 < a0.length then (if (((dec a0 x17).1 : Int) == a1) = true then (if (x16.length + ([(-1 : Int)] : List Int).length) * 8 ≤ 140737488355328 then addr_parts.l0 a0 a1 a2 a3 kk (x16 ++ ([(-1 : Int)] : List Int)) (x17 + (dec a0 x17).2) else none) else (addr_value.f ((dec a0 x17).1 : Int) a2).bind fun t38 => (if 0 ≤ (IntKind.i64.wrap ((x16.length : Int) - (1 : Int))) ∧ (IntKind.i64.wrap ((x16.length : Int) - (1 : Int))) < (x16.length : Int) then ((if (!t38.2) = true then some (true : Bool) else (if (decide ((IntKind.i64.wrap ((IntKind.i64.wrap ((if (0 : Int) > (rd x16 (IntKind.i64.wrap ((x16.length : Int) - (1 : Int)))) then (0 : Int) else (rd x16 (IntKind.i64.wrap ((x16.length : Int) - (1 : Int))))) * a2)) + t38.1)) ≥ a3)) = true then some (true : Bool) else (if 0 ≤ (IntKind.i64.wrap ((x16.length : Int) - (1 : Int))) ∧ (IntKind.i64.wrap ((x16.length : Int) - (1 : Int))) < (x16.length : Int) then some ((rd x16 (IntKind.i64.wrap ((x16.length : Int) - (1 : Int)))) == (0 : Int) : Bool) else none)))).bind fun s50 => (if s50 = true then some (.inl ((([] : List Int) : List Int), (false : Bool))) else (if 0 ≤ (IntKind.i64.wrap ((x16.length : Int) - (1 : Int))) ∧ (IntKind.i64.wrap ((x16.length : Int) - (1 : Int))) < (x16.length : Int) then addr_parts.l0 a0 a1 a2 a3 kk (x16.set (Int.toNat (IntKind.i64.wrap ((x16.length : Int) - (1 : Int)))) (IntKind.i64.wrap ((IntKind.i64.wrap ((if (0 : Int) > (rd x16 (IntKind.i64.wrap ((x16.length : Int) - (1 : Int)))) then (0 : Int) else (rd x16 (IntKind.i64.wrap ((x16.length : Int) - (1 : Int))))) * a2)) + t38.1))) (x17 + (dec a0 x17).2) else none)) else none)) else some (.inr ((x16 : List Int), (x17 : Nat))))
def addr_parts.f (k : Nat) (a0 : List UInt8) (a1 : Int) (a2 : Int) (a3 : Int) : Option (List Int × Bool) := (addr_parts.l0 a0 a1 a2 a3 k ([(-1 : Int)] : List Int) (0 : Nat)).bind fun s14 => match s14 with | .inl r => some r | .inr s14' => some ((s14'.1 : List Int), (true : Bool))
set_option maxRecDepth 100000 in
theorem addr_parts.walk (w : World) (M : List Nat) (hM : MS M w) (a0 : List UInt8) (a1 : Int) (a2 : Int) (a3 : Int) (k : Nat) (r : List Int × Bool) (H : addr_parts.f k a0 a1 a2 a3 = some r) :
    To Tryz.prog 125 [.string (bstr a0), .int .i32 a1, .int .i64 a2, .int .i64 a3] w fun v w' => ∃ (ao69 : Option Addr) (cap69 : Nat), v = .tuple #[.slice ao69 r.1.length cap69, .bool r.2] ∧ (Own (rInt .i64) 3 w' (blkL ao69 ++ (M)) ao69 cap69 r.1) ∧ (∀ x ∈ blkL ao69, w.heap.size ≤ x) ∧ Chg [] w w' ∧ MS (blkL ao69 ++ (M)) w' := by
 unfold addr_parts.f at H
 refine ent Tryz.func125 rfl [(0, .string (bstr a0)), (1, .int .i32 a1), (2, .int .i64 a2), (3, .int .i64 a3)] rfl (by rfl) fun a ha => ?_
 have hC : Chg [] w w := Chg.refl _ _
 refine wp_seq_k fun K1 hK1 => ?_
 refine wp_region_lit ?_
 refine seg ha 2 [(0, .string (bstr a0)), (1, .int .i32 a1), (2, .int .i64 a2), (3, .int .i64 a3)] (by kernel_rfl) fun a ha => ?_
 refine hK1 _ _ ?_; try clear hK1 K1
 refine wp_seq_k fun K2 hK2 => ?_
 refine wp_region_lit ?_
 refine bsl (vals := ([.int .i64 (-1 : Int)] : List Value)) (T := 3) ha rfl (([.int .i64 (-1 : Int)] : List Value) ++ ([] : List Value)) (fun w => by kernel_rfl) rfl rfl rfl fun a w3 g4 hN5 ha => ?_
 have p_i6_M : ∀ x ∈ [g4], x ∉ M := fun x hx hy => absurd (hM x (hy)) (Nat.not_lt.2 ((hN5.ge1) x hx))
 have e_i6 : ∀ x ∈ [g4], w.heap.size ≤ x := fun x hx => Nat.le_trans hC.size ((hN5.ge1) x hx)
 have hM : MS ([g4] ++ (M)) w3 := (MS.app hN5.ms (hM.chg hN5.chg))
 have hC := hC.trans hN5.chg (Ok.nil _ _)
 have f7 : Own (rInt .i64) 3 w3 ([g4] ++ (M)) (some ⟨g4, 0, none⟩) 1 ([(-1 : Int)] : List Int) := hN5.own ⟨([.int .i64 (-1 : Int)] : List Value), _, rfl, rfl, rfl⟩ (Nat.le_of_ble_eq_true rfl)
 refine seg ha 1 [(0, .string (bstr a0)), (1, .int .i32 a1), (2, .int .i64 a2), (3, .int .i64 a3), (10, .slice (some ⟨g4, 0, none⟩) ([(-1 : Int)] : List Int).length 1)] (by kernel_rfl) fun a ha => ?_
 refine hK2 _ _ ?_; try clear hK2 K2
 refine wp_seq_k fun K8 hK8 => ?_
 refine wp_seq_k fun K9 hK9 => ?_
 refine wp_region_lit ?_
 refine seg ha 1 [(1, .int .i32 a1), (2, .int .i64 a2), (3, .int .i64 a3), (10, .slice (some ⟨g4, 0, none⟩) ([(-1 : Int)] : List Int).length 1), (18, .string (bstr a0))] (by kernel_rfl) fun a ha => ?_
 refine rng (s := a0) ha (by kernel_rfl) rfl rfl rfl rfl fun a w10 g11 hN12 ha => ?_
 have o1 : Ok [] ([g4] ++ (M)) w3.heap.size := Ok.nil _ _
 have o2 : Ok ([g11] ++ ([g4] ++ (M))) ([g4] ++ (M)) w3.heap.size := (Ok.app (hN12.ok _) (Ok.refl _ _))
 have f7 := f7.chg hN12.chg o1 o2 (fun _ _ h => nomatch h) (fun _ h => mr (ml h))
 have p_i13_i6 : ∀ x ∈ [g11], x ∉ ([g4]) := fun x hx hy => absurd (hM x (ml hy)) (Nat.not_lt.2 ((hN12.ge1) x hx))
 have p_i13_M : ∀ x ∈ [g11], x ∉ M := fun x hx hy => absurd (hM x (mr (hy))) (Nat.not_lt.2 ((hN12.ge1) x hx))
 have e_i13 : ∀ x ∈ [g11], w.heap.size ≤ x := fun x hx => Nat.le_trans hC.size ((hN12.ge1) x hx)
 have hM : MS ([g11] ++ ([g4] ++ (M))) w10 := (MS.app hN12.ms (hM.chg hN12.chg))
 have hC := hC.trans hN12.chg (Ok.nil _ _)
 have hBg11 : Iter w10 g11 a0 0 := hN12.at_
 refine hK9 _ _ ?_; try clear hK9 K9
 refine wp_block ?_
 obtain ⟨s14, H14, H⟩ := bind_some H
 have J14 : ∀ s14' (a : Act) (wx14 : World) (ao18 : Option Addr) (cap18 : Nat), s14 = .inr s14' → Has a Tryz.f125.ntmps [(10, .slice ao18 s14'.1.length cap18)] → (Own (rInt .i64) 3 wx14 (blkL ao18 ++ ([g11] ++ (M))) ao18 cap18 s14'.1) → (Iter wx14 g11 a0 s14'.2) → (∀ x ∈ blkL ao18, w.heap.size ≤ x) → (∀ x ∈ blkL ao18, x ∉ [g11]) → (∀ x ∈ blkL ao18, x ∉ M) → (Chg [] w wx14) → (MS (blkL ao18 ++ ([g11] ++ (M))) wx14) → K8 a wx14 := by
  intro s14' a wx14 ao18 cap18 hs ha f18 hBg11 e_i18 p_i18_i13 p_i18_M hC hM
  subst hs
  refine hK8 _ _ ?_; try clear hK8 K8
  refine wp_seq_k fun K19 hK19 => ?_
  refine wp_region_lit ?_
  refine seg ha 3 [(8, .slice ao18 s14'.1.length cap18), (9, .bool true)] (by kernel_rfl) fun a ha => ?_
  refine hK19 _ _ ?_; try clear hK19 K19
  refine wp_ret ?_
  try simp only [Exit.then, Exit.inBlock]
  have o1 : Ok [] (blkL ao18 ++ ([g11] ++ (M))) wx14.heap.size := Ok.nil _ _
  have o2 : Ok (blkL ao18 ++ (M)) (blkL ao18 ++ ([g11] ++ (M))) wx14.heap.size := (Ok.app (fun _ h => .inl (ml h)) (fun _ h => .inl (mr (mr (h)))))
  have f18 := f18.chg (Chg.refl [] _) o1 o2 (fun _ _ h => nomatch h) (fun _ h => ml h)
  have hM : MS (blkL ao18 ++ (M)) wx14 := (MS.app (fun x h => hM.chg (Chg.refl [] _) x (ml h)) (fun x h => hM.chg (Chg.refl [] _) x (mr (mr (h)))))
  obtain rfl := Option.some.inj H
  refine rt2 ha rfl rfl rfl ?_
  exact ⟨ao18, cap18, rfl, f18, e_i18, hC, hM⟩
 have Hc14 := H
 have H := H14
 refine wp_loop_ghost (fun kk a w14 => ∃ (x16 : List Int) (x17 : Nat) (ao15 : Option Addr) (cap15 : Nat), addr_parts.l0 a0 a1 a2 a3 kk x16 x17 = some s14 ∧ Has a Tryz.f125.ntmps [(1, .int .i32 a1), (2, .int .i64 a2), (3, .int .i64 a3), (10, .slice ao15 x16.length cap15), (19, .pointer (some ⟨g11, 0, none⟩))] ∧ (Own (rInt .i64) 3 w14 (blkL ao15 ++ ([g11] ++ (M))) ao15 cap15 x16) ∧ (Iter w14 g11 a0 x17) ∧ (∀ x ∈ blkL ao15, w.heap.size ≤ x) ∧ (∀ x ∈ blkL ao15, x ∉ [g11]) ∧ (∀ x ∈ blkL ao15, x ∉ M) ∧ (Chg [] w w14) ∧ (MS (blkL ao15 ++ ([g11] ++ (M))) w14)) k ?_ ?_
 ·skip
  have o1 : Ok [] ([g11] ++ ([g4] ++ (M))) w10.heap.size := Ok.nil _ _
  have o2 : Ok ([g4] ++ ([g11] ++ (M))) ([g11] ++ ([g4] ++ (M))) w10.heap.size := (Ok.app (fun _ h => .inl (mr (ml h))) (Ok.app (fun _ h => .inl (ml h)) (fun _ h => .inl (mr (mr (h))))))
  have f7 := f7.chg (Chg.refl [] _) o1 o2 (fun _ _ h => nomatch h) (fun _ h => ml h)
  have hM : MS ([g4] ++ ([g11] ++ (M))) w10 := (MS.app (fun x h => hM.chg (Chg.refl [] _) x (mr (ml h))) (MS.app (fun x h => hM.chg (Chg.refl [] _) x (ml h)) (fun x h => hM.chg (Chg.refl [] _) x (mr (mr (h))))))
  exact ⟨([(-1 : Int)] : List Int), (0 : Nat), (some ⟨g4, 0, none⟩), 1, H, (ha.sel (by kernel_rfl)), f7, hBg11, e_i6, (fun x hx hy => p_i13_i6 x hy hx), p_i6_M, hC, hM⟩
 ·rintro kk a w14 ⟨x16, x17, ao15, cap15, H, ha, f15, hBg11, e_i15, p_i15_i13, p_i15_M, hC, hM⟩
  obtain _ | kk := kk
  ·exact nomatch (show none = some _ from H)
  rw [addr_parts.l0] at H
  refine wp_seq_k fun K20 hK20 => ?_
  refine wp_region_lit ?_
  by_cases hp21 : x17 < a0.length
  ·have H := (if_pos hp21).symm.trans H
   refine nxt_more ha rfl rfl rfl rfl hBg11 hp21 fun a w21 hI21 hc21 ha => ?_
   have o1 : Ok [g11] (blkL ao15 ++ ([g11] ++ (M))) w14.heap.size := (fun _ h => .inl (mr (ml h)))
   have o2 : Ok (blkL ao15 ++ ([g11] ++ (M))) (blkL ao15 ++ ([g11] ++ (M))) w14.heap.size := (Ok.refl _ _)
   have f15 := f15.chg hc21 o1 o2 p_i15_i13 (fun _ h => ml h)
   have hM : MS (blkL ao15 ++ ([g11] ++ (M))) w21 := (hM.chg hc21)
   have hC := hC.trans hc21 (fun x h => .inr (e_i13 x h))
   have hBg11 := hI21
   refine seg ha 1 [(1, .int .i32 a1), (2, .int .i64 a2), (3, .int .i64 a3), (10, .slice ao15 x16.length cap15), (19, .pointer (some ⟨g11, 0, none⟩)), (20, .tuple #[.bool true, .int .i64 (x17 : Int), .int .i32 ((dec a0 x17).1 : Int)]), (21, .bool true)] (by kernel_rfl) fun a ha => ?_
   refine hK20 _ _ ?_; try clear hK20 K20
   refine wp_seq_k fun K22 hK22 => ?_
   refine cnd ha rfl (fun _ => ?_) (fun h => nomatch h)
   refine wp_skip ?_
   refine hK22 _ _ ?_; try clear hK22 K22
   refine wp_block ?_
   refine wp_seq_k fun K24 hK24 => ?_
   refine wp_region_lit ?_
   refine seg ha 2 [(1, .int .i32 a1), (2, .int .i64 a2), (3, .int .i64 a3), (10, .slice ao15 x16.length cap15), (12, .int .i32 ((dec a0 x17).1 : Int)), (19, .pointer (some ⟨g11, 0, none⟩))] (by kernel_rfl) fun a ha => ?_
   refine hK24 _ _ ?_; try clear hK24 K24
   refine wp_seq_k fun K25 hK25 => ?_
   refine wp_seq_k fun K26 hK26 => ?_
   refine wp_region_lit ?_
   refine seg ha 3 [(1, .int .i32 a1), (2, .int .i64 a2), (3, .int .i64 a3), (10, .slice ao15 x16.length cap15), (12, .int .i32 ((dec a0 x17).1 : Int)), (19, .pointer (some ⟨g11, 0, none⟩)), (25, .bool (((dec a0 x17).1 : Int) == a1))] (by kernel_rfl) fun a ha => ?_
   refine hK26 _ _ ?_; try clear hK26 K26
   refine cnd ha rfl (fun hc27 => ?_) (fun hc27 => ?_)
   ·have H := ite_t hc27 H
    refine wp_seq_k fun K28 hK28 => ?_
    refine wp_region_lit ?_
    refine seg ha 1 [(1, .int .i32 a1), (2, .int .i64 a2), (3, .int .i64 a3), (19, .pointer (some ⟨g11, 0, none⟩)), (26, .slice ao15 x16.length cap15)] (by kernel_rfl) fun a ha => ?_
    refine bsl (vals := ([.int .i64 (-1 : Int)] : List Value)) (T := 3) ha rfl (([.int .i64 (-1 : Int)] : List Value) ++ ([] : List Value)) (fun w => by kernel_rfl) rfl rfl rfl fun a w29 g30 hN31 ha => ?_
    have o1 : Ok [] (blkL ao15 ++ ([g11] ++ (M))) w21.heap.size := Ok.nil _ _
    have o2 : Ok ([g30] ++ (blkL ao15 ++ ([g11] ++ (M)))) (blkL ao15 ++ ([g11] ++ (M))) w21.heap.size := (Ok.app (hN31.ok _) (Ok.refl _ _))
    have f15 := f15.chg hN31.chg o1 o2 (fun _ _ h => nomatch h) (fun _ h => mr (ml h))
    have hBg11 := hBg11.chg hN31.chg (fun h => nomatch h)
    have p_i32_i15 : ∀ x ∈ [g30], x ∉ (blkL ao15) := fun x hx hy => absurd (hM x (ml hy)) (Nat.not_lt.2 ((hN31.ge1) x hx))
    have p_i32_i13 : ∀ x ∈ [g30], x ∉ ([g11]) := fun x hx hy => absurd (hM x (mr (ml hy))) (Nat.not_lt.2 ((hN31.ge1) x hx))
    have p_i32_M : ∀ x ∈ [g30], x ∉ M := fun x hx hy => absurd (hM x (mr (mr (hy)))) (Nat.not_lt.2 ((hN31.ge1) x hx))
    have e_i32 : ∀ x ∈ [g30], w.heap.size ≤ x := fun x hx => Nat.le_trans hC.size ((hN31.ge1) x hx)
    have hM : MS ([g30] ++ (blkL ao15 ++ ([g11] ++ (M)))) w29 := (MS.app hN31.ms (hM.chg hN31.chg))
    have hC := hC.trans hN31.chg (Ok.nil _ _)
    have f33 : Own (rInt .i64) 3 w29 ([g30] ++ (blkL ao15 ++ ([g11] ++ (M)))) (some ⟨g30, 0, none⟩) 1 ([(-1 : Int)] : List Int) := hN31.own ⟨([.int .i64 (-1 : Int)] : List Value), _, rfl, rfl, rfl⟩ (Nat.le_of_ble_eq_true rfl)
    obtain ⟨hx34, H⟩ := ite_some H
    refine app (r := (rInt .i64)) (xs := x16) (ys := ([(-1 : Int)] : List Int)) ha (ElemT.mk' (bytes := 8) (by kernel_rfl)) rfl rfl rfl rfl rfl f15 f33.src hx34 (by decide) fun a w35 ao36 cap36 hO36 hc36 hk36 hl36 ha => ?_
    have o1 : Ok (blkL ao15) ([g30] ++ (blkL ao15 ++ ([g11] ++ (M)))) w29.heap.size := (fun _ h => .inl (mr (ml h)))
    have o2 : Ok (blkL ao36 ++ ([g30] ++ ([g11] ++ (M)))) ([g30] ++ (blkL ao15 ++ ([g11] ++ (M)))) w29.heap.size := (Ok.app (Ok.to hk36 (fun _ h => mr (ml h))) (Ok.app (fun _ h => .inl (ml h)) (fun _ h => .inl (mr (mr (h))))))
    have f33 := f33.chg hc36 o1 o2 p_i32_i15 (fun _ h => mr (ml h))
    have hBg11 := hBg11.chg hc36 ((fun x (hx : x ∈ [g11]) (hy : x ∈ blkL ao15) => p_i15_i13 x hy hx) g11 (by simp))
    have p_i36_i32 : ∀ x ∈ blkL ao36, x ∉ ([g30]) := fun x hx hy => (hk36 x hx).elim (fun h => (fun x hx hy => p_i32_i15 x hy hx) x h hy) (fun h => absurd (hM x (ml hy)) (Nat.not_lt.2 h))
    have p_i36_i13 : ∀ x ∈ blkL ao36, x ∉ ([g11]) := fun x hx hy => (hk36 x hx).elim (fun h => p_i15_i13 x h hy) (fun h => absurd (hM x (mr (mr (ml hy)))) (Nat.not_lt.2 h))
    have p_i36_M : ∀ x ∈ blkL ao36, x ∉ M := fun x hx hy => (hk36 x hx).elim (fun h => p_i15_M x h hy) (fun h => absurd (hM x (mr (mr (mr (hy))))) (Nat.not_lt.2 h))
    have e_i36 : ∀ x ∈ blkL ao36, w.heap.size ≤ x := fun x hx => (hk36 x hx).elim (e_i15 x) (Nat.le_trans hC.size)
    have hM : MS (blkL ao36 ++ ([g30] ++ ([g11] ++ (M)))) w35 := (MS.app hl36 (MS.app (fun x h => hM.chg hc36 x (ml h)) (fun x h => hM.chg hc36 x (mr (mr (h))))))
    have hC := hC.trans hc36 (fun x h => .inr (e_i15 x h))
    have f36 := hO36.chg (M' := blkL ao36 ++ ([g30] ++ ([g11] ++ (M)))) (Chg.refl [] _) (Ok.nil _ _) (Ok.app (fun _ h => .inl (ml h)) (Ok.to (Ok.app (fun _ h => .inl (ml h)) (fun _ h => .inl (mr (mr (h))))) (fun _ h => mr h))) (fun _ _ h => nomatch h) (fun _ h => ml h)
    refine seg ha 1 [(1, .int .i32 a1), (2, .int .i64 a2), (3, .int .i64 a3), (10, .slice ao36 (x16 ++ ([(-1 : Int)] : List Int)).length cap36), (19, .pointer (some ⟨g11, 0, none⟩))] (by kernel_rfl) fun a ha => ?_
    refine hK28 _ _ ?_; try clear hK28 K28
    refine wp_exit ?_
    simp only [Exit.then, Exit.inBlock, ↓reduceIte, Nat.reduceEqDiff]
    have o1 : Ok [] (blkL ao36 ++ ([g30] ++ ([g11] ++ (M)))) w35.heap.size := Ok.nil _ _
    have o2 : Ok (blkL ao36 ++ ([g11] ++ (M))) (blkL ao36 ++ ([g30] ++ ([g11] ++ (M)))) w35.heap.size := (Ok.app (fun _ h => .inl (ml h)) (fun _ h => .inl (mr (mr (h)))))
    have f36 := f36.chg (Chg.refl [] _) o1 o2 (fun _ _ h => nomatch h) (fun _ h => ml h)
    have hM : MS (blkL ao36 ++ ([g11] ++ (M))) w35 := (MS.app (fun x h => hM.chg (Chg.refl [] _) x (ml h)) (fun x h => hM.chg (Chg.refl [] _) x (mr (mr (h)))))
    exact ⟨kk, Nat.lt_succ_self _, ⟨(x16 ++ ([(-1 : Int)] : List Int)), x17 + (dec a0 x17).2, ao36, cap36, H, (ha.sel (by kernel_rfl)), f36, hBg11, e_i36, p_i36_i13, p_i36_M, hC, hM⟩⟩
   ·have H := ite_f hc27 H
    refine wp_skip ?_
    refine hK25 _ _ ?_; try clear hK25 K25
    refine wp_seq_k fun K37 hK37 => ?_
    refine wp_region_lit ?_
    refine seg ha 2 [(1, .int .i32 a1), (2, .int .i64 a2), (3, .int .i64 a3), (10, .slice ao15 x16.length cap15), (19, .pointer (some ⟨g11, 0, none⟩)), (30, .int .i32 ((dec a0 x17).1 : Int)), (31, .int .i64 a2)] (by kernel_rfl) fun a ha => ?_
    obtain ⟨t38, H38, H⟩ := bind_some H
    refine cl ha (by rfl) (by kernel_rfl) (by rfl) (by rfl) (by rfl) (addr_value.walk w21 _ hM ((dec a0 x17).1 : Int) a2 _ H38) ?_
    rintro _ w38 ⟨rfl, hc38, hMn⟩ a ha
    have o1 : Ok [] (blkL ao15 ++ ([g11] ++ (M))) w21.heap.size := Ok.nil _ _
    have o2 : Ok (blkL ao15 ++ ([g11] ++ (M))) (blkL ao15 ++ ([g11] ++ (M))) w21.heap.size := (Ok.refl _ _)
    have f15 := f15.chg hc38 o1 o2 (fun _ _ h => nomatch h) (fun _ h => ml h)
    have hBg11 := hBg11.chg hc38 (fun h => nomatch h)
    have hM : MS (blkL ao15 ++ ([g11] ++ (M))) w38 := (hM.chg hc38)
    have hC := hC.trans hc38 (Ok.nil _ _)
    refine seg ha 5 [(1, .int .i32 a1), (2, .int .i64 a2), (3, .int .i64 a3), (10, .slice ao15 x16.length cap15), (13, .int .i64 t38.1), (14, .bool t38.2), (19, .pointer (some ⟨g11, 0, none⟩))] (by kernel_rfl) fun a ha => ?_
    refine hK37 _ _ ?_; try clear hK37 K37
    refine wp_seq_k fun K39 hK39 => ?_
    refine wp_region_lit ?_
    refine seg ha 4 [(1, .int .i32 a1), (2, .int .i64 a2), (3, .int .i64 a3), (10, .slice ao15 x16.length cap15), (13, .int .i64 t38.1), (14, .bool t38.2), (15, .int .i64 (IntKind.i64.wrap ((x16.length : Int) - (1 : Int)))), (19, .pointer (some ⟨g11, 0, none⟩))] (by kernel_rfl) fun a ha => ?_
    refine hK39 _ _ ?_; try clear hK39 K39
    refine wp_seq_k fun K40 hK40 => ?_
    refine wp_region_lit ?_
    refine seg ha 2 [(1, .int .i32 a1), (2, .int .i64 a2), (3, .int .i64 a3), (10, .slice ao15 x16.length cap15), (13, .int .i64 t38.1), (14, .bool t38.2), (15, .int .i64 (IntKind.i64.wrap ((x16.length : Int) - (1 : Int)))), (19, .pointer (some ⟨g11, 0, none⟩)), (38, .slice ao15 x16.length cap15), (39, .int .i64 (IntKind.i64.wrap ((x16.length : Int) - (1 : Int))))] (by kernel_rfl) fun a ha => ?_
    obtain ⟨⟨hx41, hx41'⟩, H⟩ := ite_some H
    refine ix (r := (rInt .i64)) ha (by kernel_rfl) (by kernel_rfl) rfl rfl rfl rfl rfl (Own.toRSl (M' := []) f15 (Ok.nil _ _) (fun _ _ h => nomatch h)) hx41 hx41' fun a ge42 oe43 cs44 hn47 hR45 hE46 ha => ?_
    rw [rd_get] at hR45
    obtain rfl := hR45
    have hE46 : ∀ j v, ([.int .i64 (rd x16 (IntKind.i64.wrap ((x16.length : Int) - (1 : Int))))] : List Value)[j]? = some v → w38.cell? ⟨ge42, oe43 + j, none⟩ = some v := hE46
    refine ld ha rfl (by kernel_rfl) rfl rfl rfl (hE46 0 (.int .i64 (rd x16 (IntKind.i64.wrap ((x16.length : Int) - (1 : Int))))) (by kernel_rfl)) fun a ha => ?_
    refine opk (v := .int .i64 (if (0 : Int) > (rd x16 (IntKind.i64.wrap ((x16.length : Int) - (1 : Int)))) then (0 : Int) else (rd x16 (IntKind.i64.wrap ((x16.length : Int) - (1 : Int)))))) ha rfl rfl rfl rfl rfl (fun w => by kernel_rfl) fun a ha => ?_
    refine seg ha 5 [(1, .int .i32 a1), (2, .int .i64 a2), (3, .int .i64 a3), (10, .slice ao15 x16.length cap15), (14, .bool t38.2), (15, .int .i64 (IntKind.i64.wrap ((x16.length : Int) - (1 : Int)))), (16, .int .i64 (IntKind.i64.wrap ((IntKind.i64.wrap ((if (0 : Int) > (rd x16 (IntKind.i64.wrap ((x16.length : Int) - (1 : Int)))) then (0 : Int) else (rd x16 (IntKind.i64.wrap ((x16.length : Int) - (1 : Int))))) * a2)) + t38.1))), (19, .pointer (some ⟨g11, 0, none⟩))] (by kernel_rfl) fun a ha => ?_
    refine hK40 _ _ ?_; try clear hK40 K40
    refine wp_seq_k fun K48 hK48 => ?_
    refine wp_seq_k fun K49 hK49 => ?_
    refine wp_region_lit ?_
    obtain ⟨s50, H50, H⟩ := bind_some H
    have J50 : ∀ (a : Act) (w50 : World), Has a Tryz.f125.ntmps [(1, .int .i32 a1), (2, .int .i64 a2), (3, .int .i64 a3), (10, .slice ao15 x16.length cap15), (15, .int .i64 (IntKind.i64.wrap ((x16.length : Int) - (1 : Int)))), (16, .int .i64 (IntKind.i64.wrap ((IntKind.i64.wrap ((if (0 : Int) > (rd x16 (IntKind.i64.wrap ((x16.length : Int) - (1 : Int)))) then (0 : Int) else (rd x16 (IntKind.i64.wrap ((x16.length : Int) - (1 : Int))))) * a2)) + t38.1))), (19, .pointer (some ⟨g11, 0, none⟩)), (60, .bool s50)] → (Own (rInt .i64) 3 w50 (blkL ao15 ++ ([g11] ++ (M))) ao15 cap15 x16) → (Iter w50 g11 a0 (x17 + (dec a0 x17).2)) → (Chg [] w w50) → (MS (blkL ao15 ++ ([g11] ++ (M))) w50) → K49 a w50 := by
     intro a w50 ha f15 hBg11 hC hM
     refine hK49 _ _ ?_; try clear hK49 K49
     refine cnd ha rfl (fun hc51 => ?_) (fun hc51 => ?_)
     ·have H := ite_t hc51 H
      refine wp_seq_k fun K52 hK52 => ?_
      refine wp_region_lit ?_
      refine seg ha 2 [(8, .slice none 0 0), (9, .bool false)] (by kernel_rfl) fun a ha => ?_
      refine hK52 _ _ ?_; try clear hK52 K52
      refine wp_ret ?_
      try simp only [Exit.then, Exit.inBlock]
      have p_z53_M : ∀ x ∈ blkL none, x ∉ M := fun x hx hy => absurd (hM x (mr (mr (hy)))) (Nat.not_lt.2 ((fun _ h => nomatch h) x hx))
      have e_z53 : ∀ x ∈ blkL none, w.heap.size ≤ x := fun x hx => Nat.le_trans hC.size ((fun _ h => nomatch h) x hx)
      have hM : MS (blkL none ++ (M)) w50 := (MS.app (fun _ h => nomatch h) (fun x h => hM.chg (Chg.refl [] _) x (mr (mr (h)))))
      obtain rfl := Option.some.inj H
      have H := (show some _ = some _ from Hc14)
      obtain rfl := Option.some.inj H
      refine rt2 ha rfl rfl rfl ?_
      exact ⟨none, 0, rfl, Own.nil, e_z53, hC, hM⟩
     ·have H := ite_f hc51 H
      refine wp_skip ?_
      refine hK48 _ _ ?_; try clear hK48 K48
      refine wp_region_lit ?_
      refine seg ha 3 [(1, .int .i32 a1), (2, .int .i64 a2), (3, .int .i64 a3), (10, .slice ao15 x16.length cap15), (19, .pointer (some ⟨g11, 0, none⟩)), (61, .slice ao15 x16.length cap15), (62, .int .i64 (IntKind.i64.wrap ((x16.length : Int) - (1 : Int)))), (63, .int .i64 (IntKind.i64.wrap ((IntKind.i64.wrap ((if (0 : Int) > (rd x16 (IntKind.i64.wrap ((x16.length : Int) - (1 : Int)))) then (0 : Int) else (rd x16 (IntKind.i64.wrap ((x16.length : Int) - (1 : Int))))) * a2)) + t38.1)))] (by kernel_rfl) fun a ha => ?_
      obtain ⟨⟨hx54, hx54'⟩, H⟩ := ite_some H
      have hi54 : (Int.toNat (IntKind.i64.wrap ((x16.length : Int) - (1 : Int)))) < x16.length := by omega
      obtain ⟨ge54, ee54⟩ := Own.addr f15 hi54
      refine hop (v := .pointer (some ⟨ge54, (Int.toNat (IntKind.i64.wrap ((x16.length : Int) - (1 : Int)))), none⟩)) (w' := w50) ha rfl rfl rfl (ixO_run (r := (rInt .i64)) (T := 3) (k := .i64) (i := IntKind.i64.wrap ((x16.length : Int) - (1 : Int))) rfl ha (by kernel_rfl) (by kernel_rfl) (by rfl) (by rfl) ee54 hx54 hx54' _) fun a ha => ?_
      refine stO (r := (rInt .i64)) (z := IntKind.i64.wrap ((IntKind.i64.wrap ((if (0 : Int) > (rd x16 (IntKind.i64.wrap ((x16.length : Int) - (1 : Int)))) then (0 : Int) else (rd x16 (IntKind.i64.wrap ((x16.length : Int) - (1 : Int))))) * a2)) + t38.1)) ha rfl rfl (by kernel_rfl) rfl rfl f15 rfl ee54 hi54 (fun _ _ => rfl) fun a w55 ha hO57 hc56 => ?_
      have o1 : Ok (blkL ao15) (blkL ao15 ++ ([g11] ++ (M))) w50.heap.size := (fun _ h => .inl (ml h))
      have o2 : Ok (blkL ao15 ++ ([g11] ++ (M))) (blkL ao15 ++ ([g11] ++ (M))) w50.heap.size := (Ok.refl _ _)
      have hBg11 := hBg11.chg hc56 ((fun x (hx : x ∈ [g11]) (hy : x ∈ blkL ao15) => p_i15_i13 x hy hx) g11 (by simp))
      have hM : MS (blkL ao15 ++ ([g11] ++ (M))) w55 := (hM.chg hc56)
      have hC := hC.trans hc56 (fun x h => .inr (e_i15 x h))
      have f57 := hO57
      have hl57 : (x16.set (Int.toNat (IntKind.i64.wrap ((x16.length : Int) - (1 : Int)))) (IntKind.i64.wrap ((IntKind.i64.wrap ((if (0 : Int) > (rd x16 (IntKind.i64.wrap ((x16.length : Int) - (1 : Int)))) then (0 : Int) else (rd x16 (IntKind.i64.wrap ((x16.length : Int) - (1 : Int))))) * a2)) + t38.1))).length = x16.length := List.length_set
      have ha : Has a Tryz.f125.ntmps [(1, .int .i32 a1), (2, .int .i64 a2), (3, .int .i64 a3), (10, .slice ao15 (x16.set (Int.toNat (IntKind.i64.wrap ((x16.length : Int) - (1 : Int)))) (IntKind.i64.wrap ((IntKind.i64.wrap ((if (0 : Int) > (rd x16 (IntKind.i64.wrap ((x16.length : Int) - (1 : Int)))) then (0 : Int) else (rd x16 (IntKind.i64.wrap ((x16.length : Int) - (1 : Int))))) * a2)) + t38.1))).length cap15), (19, .pointer (some ⟨g11, 0, none⟩)), (63, .int .i64 (IntKind.i64.wrap ((IntKind.i64.wrap ((if (0 : Int) > (rd x16 (IntKind.i64.wrap ((x16.length : Int) - (1 : Int)))) then (0 : Int) else (rd x16 (IntKind.i64.wrap ((x16.length : Int) - (1 : Int))))) * a2)) + t38.1)))] := by rw [hl57]; exact ha.sel (by kernel_rfl)
      exact ⟨kk, Nat.lt_succ_self _, ⟨(x16.set (Int.toNat (IntKind.i64.wrap ((x16.length : Int) - (1 : Int)))) (IntKind.i64.wrap ((IntKind.i64.wrap ((if (0 : Int) > (rd x16 (IntKind.i64.wrap ((x16.length : Int) - (1 : Int)))) then (0 : Int) else (rd x16 (IntKind.i64.wrap ((x16.length : Int) - (1 : Int))))) * a2)) + t38.1))), x17 + (dec a0 x17).2, ao15, cap15, H, (ha.sel (by kernel_rfl)), f57, hBg11, e_i15, p_i15_i13, p_i15_M, hC, hM⟩⟩
    have H := H50
    refine seg ha 3 [(49, .bool (!t38.2)), (1, .int .i32 a1), (2, .int .i64 a2), (3, .int .i64 a3), (10, .slice ao15 x16.length cap15), (15, .int .i64 (IntKind.i64.wrap ((x16.length : Int) - (1 : Int)))), (16, .int .i64 (IntKind.i64.wrap ((IntKind.i64.wrap ((if (0 : Int) > (rd x16 (IntKind.i64.wrap ((x16.length : Int) - (1 : Int)))) then (0 : Int) else (rd x16 (IntKind.i64.wrap ((x16.length : Int) - (1 : Int))))) * a2)) + t38.1))), (19, .pointer (some ⟨g11, 0, none⟩))] (by kernel_rfl) fun a ha => ?_
    rcases Bool.eq_false_or_eq_true (!t38.2) with hb58 | hb58
    ·have ha := ha.lit hb58
     have H := ite_t hb58 H
     refine sgh ha 11 [1, 1, 1, 3, 0, 1, 1, 1, 1, 1, 3] [(1, .int .i32 a1), (2, .int .i64 a2), (3, .int .i64 a3), (10, .slice ao15 x16.length cap15), (15, .int .i64 (IntKind.i64.wrap ((x16.length : Int) - (1 : Int)))), (16, .int .i64 (IntKind.i64.wrap ((IntKind.i64.wrap ((if (0 : Int) > (rd x16 (IntKind.i64.wrap ((x16.length : Int) - (1 : Int)))) then (0 : Int) else (rd x16 (IntKind.i64.wrap ((x16.length : Int) - (1 : Int))))) * a2)) + t38.1))), (19, .pointer (some ⟨g11, 0, none⟩)), (60, .bool true)] (by kernel_rfl) fun a ha => ?_
     obtain rfl := Option.some.inj H
     exact J50 _ _ (ha.sel (by kernel_rfl)) f15 hBg11 hC hM
    ·have ha := ha.lit hb58
     have H := ite_f hb58 H
     refine sgh ha 5 [2, 2, 2, 4, 0] [(54, .bool (decide ((IntKind.i64.wrap ((IntKind.i64.wrap ((if (0 : Int) > (rd x16 (IntKind.i64.wrap ((x16.length : Int) - (1 : Int)))) then (0 : Int) else (rd x16 (IntKind.i64.wrap ((x16.length : Int) - (1 : Int))))) * a2)) + t38.1)) ≥ a3))), (1, .int .i32 a1), (2, .int .i64 a2), (3, .int .i64 a3), (10, .slice ao15 x16.length cap15), (15, .int .i64 (IntKind.i64.wrap ((x16.length : Int) - (1 : Int)))), (16, .int .i64 (IntKind.i64.wrap ((IntKind.i64.wrap ((if (0 : Int) > (rd x16 (IntKind.i64.wrap ((x16.length : Int) - (1 : Int)))) then (0 : Int) else (rd x16 (IntKind.i64.wrap ((x16.length : Int) - (1 : Int))))) * a2)) + t38.1))), (19, .pointer (some ⟨g11, 0, none⟩))] (by kernel_rfl) fun a ha => ?_
     rcases Bool.eq_false_or_eq_true (decide ((IntKind.i64.wrap ((IntKind.i64.wrap ((if (0 : Int) > (rd x16 (IntKind.i64.wrap ((x16.length : Int) - (1 : Int)))) then (0 : Int) else (rd x16 (IntKind.i64.wrap ((x16.length : Int) - (1 : Int))))) * a2)) + t38.1)) ≥ a3)) with hb59 | hb59
     ·have ha := ha.lit hb59
      have H := ite_t hb59 H
      refine sgh ha 6 [1, 1, 1, 1, 1, 3] [(1, .int .i32 a1), (2, .int .i64 a2), (3, .int .i64 a3), (10, .slice ao15 x16.length cap15), (15, .int .i64 (IntKind.i64.wrap ((x16.length : Int) - (1 : Int)))), (16, .int .i64 (IntKind.i64.wrap ((IntKind.i64.wrap ((if (0 : Int) > (rd x16 (IntKind.i64.wrap ((x16.length : Int) - (1 : Int)))) then (0 : Int) else (rd x16 (IntKind.i64.wrap ((x16.length : Int) - (1 : Int))))) * a2)) + t38.1))), (19, .pointer (some ⟨g11, 0, none⟩)), (60, .bool true)] (by kernel_rfl) fun a ha => ?_
      obtain rfl := Option.some.inj H
      exact J50 _ _ (ha.sel (by kernel_rfl)) f15 hBg11 hC hM
     ·have ha := ha.lit hb59
      have H := ite_f hb59 H
      refine sgh ha 2 [2, 2] [(1, .int .i32 a1), (2, .int .i64 a2), (3, .int .i64 a3), (10, .slice ao15 x16.length cap15), (15, .int .i64 (IntKind.i64.wrap ((x16.length : Int) - (1 : Int)))), (16, .int .i64 (IntKind.i64.wrap ((IntKind.i64.wrap ((if (0 : Int) > (rd x16 (IntKind.i64.wrap ((x16.length : Int) - (1 : Int)))) then (0 : Int) else (rd x16 (IntKind.i64.wrap ((x16.length : Int) - (1 : Int))))) * a2)) + t38.1))), (19, .pointer (some ⟨g11, 0, none⟩)), (54, .bool false), (55, .slice ao15 x16.length cap15), (56, .int .i64 (IntKind.i64.wrap ((x16.length : Int) - (1 : Int))))] (by kernel_rfl) fun a ha => ?_
      obtain ⟨⟨hx60, hx60'⟩, H⟩ := ite_some H
      refine ix (r := (rInt .i64)) ha (by kernel_rfl) (by kernel_rfl) rfl rfl rfl rfl rfl (Own.toRSl (M' := []) f15 (Ok.nil _ _) (fun _ _ h => nomatch h)) hx60 hx60' fun a ge61 oe62 cs63 hn66 hR64 hE65 ha => ?_
      rw [rd_get] at hR64
      obtain rfl := hR64
      have hE65 : ∀ j v, ([.int .i64 (rd x16 (IntKind.i64.wrap ((x16.length : Int) - (1 : Int))))] : List Value)[j]? = some v → w38.cell? ⟨ge61, oe62 + j, none⟩ = some v := hE65
      refine ld ha rfl (by kernel_rfl) rfl rfl rfl (hE65 0 (.int .i64 (rd x16 (IntKind.i64.wrap ((x16.length : Int) - (1 : Int))))) (by kernel_rfl)) fun a ha => ?_
      refine sgh ha 2 [2, 4] [(1, .int .i32 a1), (2, .int .i64 a2), (3, .int .i64 a3), (10, .slice ao15 x16.length cap15), (15, .int .i64 (IntKind.i64.wrap ((x16.length : Int) - (1 : Int)))), (16, .int .i64 (IntKind.i64.wrap ((IntKind.i64.wrap ((if (0 : Int) > (rd x16 (IntKind.i64.wrap ((x16.length : Int) - (1 : Int)))) then (0 : Int) else (rd x16 (IntKind.i64.wrap ((x16.length : Int) - (1 : Int))))) * a2)) + t38.1))), (19, .pointer (some ⟨g11, 0, none⟩)), (60, .bool ((rd x16 (IntKind.i64.wrap ((x16.length : Int) - (1 : Int)))) == (0 : Int)))] (by kernel_rfl) fun a ha => ?_
      obtain rfl := Option.some.inj H
      exact J50 _ _ (ha.sel (by kernel_rfl)) f15 hBg11 hC hM
  ·have H := (if_neg hp21).symm.trans H
   refine nxt_over ha rfl rfl rfl rfl hBg11 hp21 fun a ha => ?_
   refine seg ha 1 [(1, .int .i32 a1), (2, .int .i64 a2), (3, .int .i64 a3), (10, .slice ao15 x16.length cap15), (19, .pointer (some ⟨g11, 0, none⟩)), (20, .tuple #[.bool false]), (21, .bool false)] (by kernel_rfl) fun a ha => ?_
   refine hK20 _ _ ?_; try clear hK20 K20
   refine wp_seq_k fun K67 hK67 => ?_
   refine cnd ha rfl (fun h => nomatch h) (fun _ => ?_)
   refine wp_exit ?_
   simp only [Exit.then, Exit.inBlock, ↓reduceIte, Nat.reduceEqDiff]
   obtain rfl := Option.some.inj H
   exact J14 _ _ _ ao15 cap15 rfl (ha.sel (by kernel_rfl)) f15 hBg11 e_i15 p_i15_i13 p_i15_M hC hM
def addr_read4.l0 (t7 : List Int × Bool) : Nat → Int → (List Int) → Option ((S_api_Addr × Bool) ⊕ (List Int))
  | 0, _, _ => none
  | kk + 1, x21, x22 => (if (decide (x21 < (t7.1.length : Int))) = true then (if 0 ≤ x21 ∧ x21 < (t7.1.length : Int) then (if (decide ((rd t7.1 x21) < (0 : Int))) = true then some (.inl (((⟨(0 : Int), (List.replicate 16 (0 : Int))⟩ : S_api_Addr) : S_api_Addr), (false : Bool))) else (if 0 ≤ x21 ∧ x21 < (16 : Int) then addr_read4.l0 t7 kk (IntKind.i64.wrap (x21 + (1 : Int))) ((arL 16 x22).set (Int.toNat x21) (IntKind.u8.wrap (rd t7.1 x21))) else none)) else none) else some (.inr (x22 : List Int)))
def addr_read4.f (k : Nat) (a0 : List UInt8) : Option (S_api_Addr × Bool) := (addr_parts.f k a0 (46 : Int) (10 : Int) (256 : Int)).bind fun t7 => (if (if (!t7.2) = true then true else ((t7.1.length : Int) != (4 : Int))) = true then some (((⟨(0 : Int), (List.replicate 16 (0 : Int))⟩ : S_api_Addr) : S_api_Addr), (false : Bool)) else (addr_read4.l0 t7 k (0 : Int) (List.replicate 16 (0 : Int))).bind fun s20 => match s20 with | .inl r => some r | .inr s20' => some (((⟨(4 : Int), s20'⟩ : S_api_Addr) : S_api_Addr), (true : Bool)))
set_option maxRecDepth 100000 in
theorem addr_read4.walk (w : World) (M : List Nat) (hM : MS M w) (a0 : List UInt8) (k : Nat) (r : S_api_Addr × Bool) (H : addr_read4.f k a0 = some r) :
    To Tryz.prog 91 [.string (bstr a0)] w fun v w' => v = .tuple #[.agg (cS_api_Addr r.1).toArray, .bool r.2] ∧ Chg [] w w' ∧ MS (M) w' := by
 unfold addr_read4.f at H
 refine ent Tryz.func91 rfl [(0, .string (bstr a0))] rfl (by rfl) fun a ha => ?_
 have hC : Chg [] w w := Chg.refl _ _
 refine wp_seq_k fun K1 hK1 => ?_
 refine wp_region_lit ?_
 refine al (cs := (cS_api_Addr (⟨(0 : Int), (List.replicate 16 (0 : Int))⟩ : S_api_Addr))) (z := .agg (cS_api_Addr (⟨(0 : Int), (List.replicate 16 (0 : Int))⟩ : S_api_Addr)).toArray) ha (fun w => by kernel_rfl) rfl rfl rfl rfl fun a w2 g3 hN4 ha => ?_
 have p_i5_M : ∀ x ∈ [g3], x ∉ M := fun x hx hy => absurd (hM x (hy)) (Nat.not_lt.2 ((hN4.ge1) x hx))
 have e_i5 : ∀ x ∈ [g3], w.heap.size ≤ x := fun x hx => Nat.le_trans hC.size ((hN4.ge1) x hx)
 have hM : MS ([g3] ++ (M)) w2 := (MS.app hN4.ms (hM.chg hN4.chg))
 have hC := hC.trans hN4.chg (Ok.nil _ _)
 have hBg3 : Box w2 g3 (cS_api_Addr (⟨(0 : Int), (List.replicate 16 (0 : Int))⟩ : S_api_Addr)) := hN4.box
 refine seg ha 1 [(0, .string (bstr a0)), (2, .pointer (some ⟨g3, 0, none⟩))] (by kernel_rfl) fun a ha => ?_
 refine hK1 _ _ ?_; try clear hK1 K1
 refine wp_seq_k fun K6 hK6 => ?_
 refine wp_region_lit ?_
 refine seg ha 1 [(2, .pointer (some ⟨g3, 0, none⟩)), (8, .string (bstr a0))] (by kernel_rfl) fun a ha => ?_
 obtain ⟨t7, H7, H⟩ := bind_some H
 refine cl ha (by rfl) (by kernel_rfl) (by rfl) (by rfl) (by rfl) (addr_parts.walk w2 _ hM a0 (46 : Int) (10 : Int) (256 : Int) k _ H7) ?_
 rintro _ w7 ⟨ao8, cap8, rfl, f8, ne_i8, hc7, hMn⟩ a ha
 have hBg3 := hBg3.chg hc7 (fun h => nomatch h)
 have p_i8_i5 : ∀ x ∈ blkL ao8, x ∉ ([g3]) := fun x hx hy => absurd (hM x (ml hy)) (Nat.not_lt.2 (ne_i8 x hx))
 have p_i8_M : ∀ x ∈ blkL ao8, x ∉ M := fun x hx hy => absurd (hM x (mr (hy))) (Nat.not_lt.2 (ne_i8 x hx))
 have e_i8 : ∀ x ∈ blkL ao8, w.heap.size ≤ x := fun x hx => Nat.le_trans hC.size (ne_i8 x hx)
 have hM : MS (blkL ao8 ++ ([g3] ++ (M))) w7 := (MS.app (fun x h => hMn x (ml h)) (hM.chg hc7))
 have hC := hC.trans hc7 (Ok.nil _ _)
 refine seg ha 5 [(2, .pointer (some ⟨g3, 0, none⟩)), (3, .bool t7.2), (4, .slice ao8 t7.1.length cap8)] (by kernel_rfl) fun a ha => ?_
 refine hK6 _ _ ?_; try clear hK6 K6
 refine wp_seq_k fun K9 hK9 => ?_
 refine wp_seq_k fun K10 hK10 => ?_
 refine wp_region_lit ?_
 refine seg ha 7 [(2, .pointer (some ⟨g3, 0, none⟩)), (4, .slice ao8 t7.1.length cap8), (18, .bool (if (!t7.2) = true then true else ((t7.1.length : Int) != (4 : Int))))] (by kernel_rfl) fun a ha => ?_
 refine hK10 _ _ ?_; try clear hK10 K10
 refine cnd ha rfl (fun hc11 => ?_) (fun hc11 => ?_)
 ·have H := ite_t hc11 H
  refine wp_seq_k fun K12 hK12 => ?_
  refine wp_region_lit ?_
  refine ldA (cs := (cS_api_Addr (⟨(0 : Int), (List.replicate 16 (0 : Int))⟩ : S_api_Addr))) ha rfl (by kernel_rfl) rfl rfl rfl (cells_sub (Box.cells hBg3) (all := (cS_api_Addr (⟨(0 : Int), (List.replicate 16 (0 : Int))⟩ : S_api_Addr))) [] [] (by kernel_rfl)) fun a ha => ?_
  refine stA (l := (cS_api_Addr (⟨(0 : Int), (List.replicate 16 (0 : Int))⟩ : S_api_Addr))) ha rfl rfl rfl (by kernel_rfl) rfl rfl hBg3 rfl fun a w13 ha hb2 hc14 _ => ?_
  have hM : MS (blkL ao8 ++ ([g3] ++ (M))) w13 := (hM.chg hc14)
  have hC := hC.trans hc14 (fun x h => .inr (e_i5 x h))
  have hBg3 : Box w13 g3 (cS_api_Addr (⟨(0 : Int), (List.replicate 16 (0 : Int))⟩ : S_api_Addr)) := hb2
  refine seg ha 1 [(2, .pointer (some ⟨g3, 0, none⟩)), (3, .bool false)] (by kernel_rfl) fun a ha => ?_
  refine hK12 _ _ ?_; try clear hK12 K12
  refine wp_ret ?_
  try simp only [Exit.then, Exit.inBlock]
  have hM : MS (M) w13 := (fun x h => hM.chg (Chg.refl [] _) x (mr (mr (h))))
  obtain rfl := Option.some.inj H
  refine rtr ha (res2 rfl (roA ha rfl hBg3 (by kernel_rfl)) (roT ha rfl)) ?_
  exact ⟨rfl, hC, hM⟩
 ·have H := ite_f hc11 H
  refine wp_skip ?_
  refine hK9 _ _ ?_; try clear hK9 K9
  refine wp_seq_k fun K15 hK15 => ?_
  refine wp_region_lit ?_
  refine seg ha 1 [(2, .pointer (some ⟨g3, 0, none⟩)), (4, .slice ao8 t7.1.length cap8), (20, .pointer (some ⟨g3, 0, none⟩))] (by kernel_rfl) fun a ha => ?_
  refine st ha rfl rfl rfl (by kernel_rfl) rfl rfl hBg3 (Nat.le_of_ble_eq_true (by kernel_rfl)) fun a w16 ha hb2 hc17 _ => ?_
  have o1 : Ok [g3] (blkL ao8 ++ ([g3] ++ (M))) w7.heap.size := (fun _ h => .inl (mr (ml h)))
  have o2 : Ok (blkL ao8 ++ ([g3] ++ (M))) (blkL ao8 ++ ([g3] ++ (M))) w7.heap.size := (Ok.refl _ _)
  have f8 := f8.chg hc17 o1 o2 p_i8_i5 (fun _ h => ml h)
  have hM : MS (blkL ao8 ++ ([g3] ++ (M))) w16 := (hM.chg hc17)
  have hC := hC.trans hc17 (fun x h => .inr (e_i5 x h))
  have hBg3 : Box w16 g3 (cS_api_Addr (⟨(4 : Int), (List.replicate 16 (0 : Int))⟩ : S_api_Addr)) := hb2
  refine hK15 _ _ ?_; try clear hK15 K15
  refine wp_seq_k fun K18 hK18 => ?_
  refine wp_seq_k fun K19 hK19 => ?_
  refine wp_region_lit ?_
  refine seg ha 3 [(2, .pointer (some ⟨g3, 0, none⟩)), (21, .slice ao8 t7.1.length cap8), (22, .int .i64 (t7.1.length : Int)), (23, .int .i64 (0 : Int))] (by kernel_rfl) fun a ha => ?_
  refine hK19 _ _ ?_; try clear hK19 K19
  refine wp_block ?_
  obtain ⟨s20, H20, H⟩ := bind_some H
  have J20 : ∀ s20' (a : Act) (wx20 : World), s20 = .inr s20' → Has a Tryz.f91.ntmps [(2, .pointer (some ⟨g3, 0, none⟩))] → (Box wx20 g3 (cS_api_Addr (⟨(4 : Int), s20'⟩ : S_api_Addr))) → (Chg [] w wx20) → (MS ([g3] ++ (M)) wx20) → K18 a wx20 := by
   intro s20' a wx20 hs ha hBg3 hC hM
   subst hs
   refine hK18 _ _ ?_; try clear hK18 K18
   refine wp_seq_k fun K23 hK23 => ?_
   refine wp_region_lit ?_
   refine ldA (cs := (cS_api_Addr (⟨(4 : Int), s20'⟩ : S_api_Addr))) ha rfl (by kernel_rfl) rfl rfl rfl (cells_sub (Box.cells hBg3) (all := (cS_api_Addr (⟨(4 : Int), s20'⟩ : S_api_Addr))) [] [] (by kernel_rfl)) fun a ha => ?_
   refine stA (l := (cS_api_Addr (⟨(4 : Int), s20'⟩ : S_api_Addr))) ha rfl rfl rfl (by kernel_rfl) rfl rfl hBg3 rfl fun a w24 ha hb2 hc25 _ => ?_
   have hM : MS ([g3] ++ (M)) w24 := (hM.chg hc25)
   have hC := hC.trans hc25 (fun x h => .inr (e_i5 x h))
   have hBg3 : Box w24 g3 (cS_api_Addr (⟨(4 : Int), s20'⟩ : S_api_Addr)) := hb2
   refine seg ha 1 [(2, .pointer (some ⟨g3, 0, none⟩)), (3, .bool true)] (by kernel_rfl) fun a ha => ?_
   refine hK23 _ _ ?_; try clear hK23 K23
   refine wp_ret ?_
   try simp only [Exit.then, Exit.inBlock]
   have hM : MS (M) w24 := (fun x h => hM.chg (Chg.refl [] _) x (mr (h)))
   obtain rfl := Option.some.inj H
   refine rtr ha (res2 rfl (roA ha rfl hBg3 (by kernel_rfl)) (roT ha rfl)) ?_
   exact ⟨rfl, hC, hM⟩
  have Hc20 := H
  have H := H20
  refine wp_loop_ghost (fun kk a w20 => ∃ (x21 : Int) (x22 : List Int), addr_read4.l0 t7 kk x21 x22 = some s20 ∧ Has a Tryz.f91.ntmps [(2, .pointer (some ⟨g3, 0, none⟩)), (21, .slice ao8 t7.1.length cap8), (22, .int .i64 (t7.1.length : Int)), (23, .int .i64 x21)] ∧ (Own (rInt .i64) 3 w20 (blkL ao8 ++ ([g3] ++ (M))) ao8 cap8 t7.1) ∧ (Box w20 g3 (cS_api_Addr (⟨(4 : Int), x22⟩ : S_api_Addr))) ∧ (Chg [] w w20) ∧ (MS (blkL ao8 ++ ([g3] ++ (M))) w20)) k ?_ ?_
  ·skip
   exact ⟨(0 : Int), (List.replicate 16 (0 : Int)), H, (ha.sel (by kernel_rfl)), f8, hBg3, hC, hM⟩
  ·rintro kk a w20 ⟨x21, x22, H, ha, f8, hBg3, hC, hM⟩
   obtain _ | kk := kk
   ·exact nomatch (show none = some _ from H)
   rw [addr_read4.l0] at H
   refine wp_seq_k fun K26 hK26 => ?_
   refine wp_region_lit ?_
   refine seg ha 1 [(2, .pointer (some ⟨g3, 0, none⟩)), (21, .slice ao8 t7.1.length cap8), (22, .int .i64 (t7.1.length : Int)), (23, .int .i64 x21), (24, .bool (decide (x21 < (t7.1.length : Int))))] (by kernel_rfl) fun a ha => ?_
   refine hK26 _ _ ?_; try clear hK26 K26
   refine wp_seq_k fun K27 hK27 => ?_
   refine cnd ha rfl (fun hc28 => ?_) (fun hc28 => ?_)
   ·have H := ite_t hc28 H
    refine wp_skip ?_
    refine hK27 _ _ ?_; try clear hK27 K27
    refine wp_seq_k fun K29 hK29 => ?_
    refine wp_block ?_
    refine wp_seq_k fun K30 hK30 => ?_
    refine wp_region_lit ?_
    refine seg ha 1 [(2, .pointer (some ⟨g3, 0, none⟩)), (21, .slice ao8 t7.1.length cap8), (22, .int .i64 (t7.1.length : Int)), (23, .int .i64 x21), (25, .int .i64 x21)] (by kernel_rfl) fun a ha => ?_
    obtain ⟨⟨hx31, hx31'⟩, H⟩ := ite_some H
    refine ix (r := (rInt .i64)) ha (by kernel_rfl) (by kernel_rfl) rfl rfl rfl rfl rfl (Own.toRSl (M' := []) f8 (Ok.nil _ _) (fun _ _ h => nomatch h)) hx31 hx31' fun a ge32 oe33 cs34 hn37 hR35 hE36 ha => ?_
    rw [rd_get] at hR35
    obtain rfl := hR35
    have hE36 : ∀ j v, ([.int .i64 (rd t7.1 x21)] : List Value)[j]? = some v → w20.cell? ⟨ge32, oe33 + j, none⟩ = some v := hE36
    refine ld ha rfl (by kernel_rfl) rfl rfl rfl (hE36 0 (.int .i64 (rd t7.1 x21)) (by kernel_rfl)) fun a ha => ?_
    refine seg ha 2 [(2, .pointer (some ⟨g3, 0, none⟩)), (5, .int .i64 x21), (6, .int .i64 (rd t7.1 x21)), (21, .slice ao8 t7.1.length cap8), (22, .int .i64 (t7.1.length : Int)), (23, .int .i64 x21)] (by kernel_rfl) fun a ha => ?_
    refine hK30 _ _ ?_; try clear hK30 K30
    refine wp_seq_k fun K38 hK38 => ?_
    refine wp_seq_k fun K39 hK39 => ?_
    refine wp_region_lit ?_
    refine seg ha 2 [(2, .pointer (some ⟨g3, 0, none⟩)), (5, .int .i64 x21), (6, .int .i64 (rd t7.1 x21)), (21, .slice ao8 t7.1.length cap8), (22, .int .i64 (t7.1.length : Int)), (23, .int .i64 x21), (29, .bool (decide ((rd t7.1 x21) < (0 : Int))))] (by kernel_rfl) fun a ha => ?_
    refine hK39 _ _ ?_; try clear hK39 K39
    refine cnd ha rfl (fun hc40 => ?_) (fun hc40 => ?_)
    ·have H := ite_t hc40 H
     refine wp_seq_k fun K41 hK41 => ?_
     refine wp_region_lit ?_
     refine opk (v := .agg (cS_api_Addr (⟨(0 : Int), (List.replicate 16 (0 : Int))⟩ : S_api_Addr)).toArray) ha rfl rfl rfl rfl rfl (fun w => by kernel_rfl) fun a ha => ?_
     refine stA (l := (cS_api_Addr (⟨(0 : Int), (List.replicate 16 (0 : Int))⟩ : S_api_Addr))) ha rfl rfl rfl (by kernel_rfl) rfl rfl hBg3 rfl fun a w42 ha hb2 hc43 _ => ?_
     have hM : MS (blkL ao8 ++ ([g3] ++ (M))) w42 := (hM.chg hc43)
     have hC := hC.trans hc43 (fun x h => .inr (e_i5 x h))
     have hBg3 : Box w42 g3 (cS_api_Addr (⟨(0 : Int), (List.replicate 16 (0 : Int))⟩ : S_api_Addr)) := hb2
     refine seg ha 1 [(2, .pointer (some ⟨g3, 0, none⟩)), (3, .bool false)] (by kernel_rfl) fun a ha => ?_
     refine hK41 _ _ ?_; try clear hK41 K41
     refine wp_ret ?_
     try simp only [Exit.then, Exit.inBlock]
     have hM : MS (M) w42 := (fun x h => hM.chg (Chg.refl [] _) x (mr (mr (h))))
     obtain rfl := Option.some.inj H
     have H := (show some _ = some _ from Hc20)
     obtain rfl := Option.some.inj H
     refine rtr ha (res2 rfl (roA ha rfl hBg3 (by kernel_rfl)) (roT ha rfl)) ?_
     exact ⟨rfl, hC, hM⟩
    ·have H := ite_f hc40 H
     refine wp_skip ?_
     refine hK38 _ _ ?_; try clear hK38 K38
     refine wp_region_lit ?_
     refine seg ha 4 [(2, .pointer (some ⟨g3, 0, none⟩)), (21, .slice ao8 t7.1.length cap8), (22, .int .i64 (t7.1.length : Int)), (23, .int .i64 x21), (31, .int .i64 x21), (33, .int .u8 (IntKind.u8.wrap (rd t7.1 x21))), (34, .pointer (some ⟨g3, 1, none⟩))] (by kernel_rfl) fun a ha => ?_
     obtain ⟨⟨hx44, hx44'⟩, H⟩ := ite_some H
     have hi44 : (Int.toNat x21) < 16 := by omega
     refine hop (v := .pointer (some ⟨g3, 1 + (Int.toNat x21), none⟩)) (w' := w20) ha rfl rfl rfl (ixA_run (T := 5) (N := 16) (g := g3) (o' := 1) (k := .i64) (i := x21) ha (by kernel_rfl) (by kernel_rfl) (by rfl) (by rfl) hx44 hx44' _) fun a ha => ?_
     refine st (o' := 1 + (Int.toNat x21)) ha rfl rfl rfl (by kernel_rfl) rfl rfl hBg3 (arr_lt (k := .u8) (m := 16) (x := x22) ([.int .i64 (4 : Int)] : List Value) ([] : List Value) (by kernel_rfl) hi44) fun a w45 ha hb2 hc46 _ => ?_
     have o1 : Ok [g3] (blkL ao8 ++ ([g3] ++ (M))) w20.heap.size := (fun _ h => .inl (mr (ml h)))
     have o2 : Ok (blkL ao8 ++ ([g3] ++ (M))) (blkL ao8 ++ ([g3] ++ (M))) w20.heap.size := (Ok.refl _ _)
     have f8 := f8.chg hc46 o1 o2 p_i8_i5 (fun _ h => ml h)
     have hM : MS (blkL ao8 ++ ([g3] ++ (M))) w45 := (hM.chg hc46)
     have hC := hC.trans hc46 (fun x h => .inr (e_i5 x h))
     have hBg3 : Box w45 g3 (cS_api_Addr (⟨(4 : Int), ((arL 16 x22).set (Int.toNat x21) (IntKind.u8.wrap (rd t7.1 x21)))⟩ : S_api_Addr)) := Box.setA (k := .u8) (m := 16) (x := x22) ([.int .i64 (4 : Int)] : List Value) ([] : List Value) hb2 (by kernel_rfl) hi44 (by kernel_rfl)
     refine hK29 _ _ ?_; try clear hK29 K29
     refine wp_region_lit ?_
     refine seg ha 2 [(2, .pointer (some ⟨g3, 0, none⟩)), (21, .slice ao8 t7.1.length cap8), (22, .int .i64 (t7.1.length : Int)), (23, .int .i64 (IntKind.i64.wrap (x21 + (1 : Int))))] (by kernel_rfl) fun a ha => ?_
     exact ⟨kk, Nat.lt_succ_self _, ⟨IntKind.i64.wrap (x21 + (1 : Int)), ((arL 16 x22).set (Int.toNat x21) (IntKind.u8.wrap (rd t7.1 x21))), H, (ha.sel (by kernel_rfl)), f8, hBg3, hC, hM⟩⟩
   ·have H := ite_f hc28 H
    refine wp_exit ?_
    simp only [Exit.then, Exit.inBlock, ↓reduceIte, Nat.reduceEqDiff]
    obtain rfl := Option.some.inj H
    have hM : MS ([g3] ++ (M)) w20 := (fun x h => hM.chg (Chg.refl [] _) x (mr (h)))
    exact J20 _ _ _ rfl (ha.sel (by kernel_rfl)) hBg3 hC hM
def addr_half.l0 (t8 : List Int × Bool) : Nat → Int → Option ((List Int × Bool) ⊕ (Unit))
  | 0, _ => none
  | kk + 1, x18 => (if (decide (x18 < (t8.1.length : Int))) = true then (if 0 ≤ x18 ∧ x18 < (t8.1.length : Int) then (if (decide ((rd t8.1 x18) < (0 : Int))) = true then some (.inl ((([] : List Int) : List Int), (false : Bool))) else addr_half.l0 t8 kk (IntKind.i64.wrap (x18 + (1 : Int)))) else none) else some (.inr (() : Unit)))
def addr_half.f (k : Nat) (a0 : List UInt8) : Option (List Int × Bool) := (if ((bstr a0).toList == (bstr ([] : List UInt8)).toList) = true then some ((([] : List Int) : List Int), (true : Bool)) else (addr_parts.f k a0 (58 : Int) (16 : Int) (65536 : Int)).bind fun t8 => (if (if (!t8.2) = true then true else (decide ((t8.1.length : Int) > (8 : Int)))) = true then some ((([] : List Int) : List Int), (false : Bool)) else (addr_half.l0 t8 k (0 : Int)).bind fun s17 => match s17 with | .inl r => some r | .inr s17' => some ((t8.1 : List Int), (true : Bool))))
set_option maxRecDepth 100000 in
theorem addr_half.walk (w : World) (M : List Nat) (hM : MS M w) (a0 : List UInt8) (k : Nat) (r : List Int × Bool) (H : addr_half.f k a0 = some r) :
    To Tryz.prog 126 [.string (bstr a0)] w fun v w' => ∃ (ao36 : Option Addr) (cap36 : Nat), v = .tuple #[.slice ao36 r.1.length cap36, .bool r.2] ∧ (Own (rInt .i64) 3 w' (blkL ao36 ++ (M)) ao36 cap36 r.1) ∧ (∀ x ∈ blkL ao36, w.heap.size ≤ x) ∧ Chg [] w w' ∧ MS (blkL ao36 ++ (M)) w' := by
 unfold addr_half.f at H
 refine ent Tryz.func126 rfl [(0, .string (bstr a0))] rfl (by rfl) fun a ha => ?_
 have hC : Chg [] w w := Chg.refl _ _
 refine wp_seq_k fun K1 hK1 => ?_
 refine wp_region_lit ?_
 refine seg ha 2 [(0, .string (bstr a0))] (by kernel_rfl) fun a ha => ?_
 refine hK1 _ _ ?_; try clear hK1 K1
 refine wp_seq_k fun K2 hK2 => ?_
 refine wp_seq_k fun K3 hK3 => ?_
 refine wp_region_lit ?_
 refine seg ha 2 [(0, .string (bstr a0)), (9, .bool ((bstr a0).toList == (bstr ([] : List UInt8)).toList))] (by kernel_rfl) fun a ha => ?_
 refine hK3 _ _ ?_; try clear hK3 K3
 refine cnd ha rfl (fun hc4 => ?_) (fun hc4 => ?_)
 ·have H := ite_t hc4 H
  refine wp_seq_k fun K5 hK5 => ?_
  refine wp_region_lit ?_
  refine seg ha 2 [(2, .slice none 0 0), (3, .bool true)] (by kernel_rfl) fun a ha => ?_
  refine hK5 _ _ ?_; try clear hK5 K5
  refine wp_ret ?_
  try simp only [Exit.then, Exit.inBlock]
  have p_z6_M : ∀ x ∈ blkL none, x ∉ M := fun x hx hy => absurd (hM x (hy)) (Nat.not_lt.2 ((fun _ h => nomatch h) x hx))
  have e_z6 : ∀ x ∈ blkL none, w.heap.size ≤ x := fun x hx => Nat.le_trans hC.size ((fun _ h => nomatch h) x hx)
  have hM : MS (blkL none ++ (M)) w := (MS.app (fun _ h => nomatch h) (hM.chg (Chg.refl [] _)))
  obtain rfl := Option.some.inj H
  refine rt2 ha rfl rfl rfl ?_
  exact ⟨none, 0, rfl, Own.nil, e_z6, hC, hM⟩
 ·have H := ite_f hc4 H
  refine wp_skip ?_
  refine hK2 _ _ ?_; try clear hK2 K2
  refine wp_seq_k fun K7 hK7 => ?_
  refine wp_region_lit ?_
  refine seg ha 1 [(11, .string (bstr a0))] (by kernel_rfl) fun a ha => ?_
  obtain ⟨t8, H8, H⟩ := bind_some H
  refine cl ha (by rfl) (by kernel_rfl) (by rfl) (by rfl) (by rfl) (addr_parts.walk w _ hM a0 (58 : Int) (16 : Int) (65536 : Int) k _ H8) ?_
  rintro _ w8 ⟨ao9, cap9, rfl, f9, ne_i9, hc8, hMn⟩ a ha
  have p_i9_M : ∀ x ∈ blkL ao9, x ∉ M := fun x hx hy => absurd (hM x (hy)) (Nat.not_lt.2 (ne_i9 x hx))
  have e_i9 : ∀ x ∈ blkL ao9, w.heap.size ≤ x := fun x hx => Nat.le_trans hC.size (ne_i9 x hx)
  have hM : MS (blkL ao9 ++ (M)) w8 := (MS.app (fun x h => hMn x (ml h)) (hM.chg hc8))
  have hC := hC.trans hc8 (Ok.nil _ _)
  refine seg ha 5 [(4, .slice ao9 t8.1.length cap9), (5, .bool t8.2)] (by kernel_rfl) fun a ha => ?_
  refine hK7 _ _ ?_; try clear hK7 K7
  refine wp_seq_k fun K10 hK10 => ?_
  refine wp_seq_k fun K11 hK11 => ?_
  refine wp_region_lit ?_
  refine seg ha 7 [(4, .slice ao9 t8.1.length cap9), (21, .bool (if (!t8.2) = true then true else (decide ((t8.1.length : Int) > (8 : Int)))))] (by kernel_rfl) fun a ha => ?_
  refine hK11 _ _ ?_; try clear hK11 K11
  refine cnd ha rfl (fun hc12 => ?_) (fun hc12 => ?_)
  ·have H := ite_t hc12 H
   refine wp_seq_k fun K13 hK13 => ?_
   refine wp_region_lit ?_
   refine seg ha 2 [(2, .slice none 0 0), (3, .bool false)] (by kernel_rfl) fun a ha => ?_
   refine hK13 _ _ ?_; try clear hK13 K13
   refine wp_ret ?_
   try simp only [Exit.then, Exit.inBlock]
   have p_z14_M : ∀ x ∈ blkL none, x ∉ M := fun x hx hy => absurd (hM x (mr (hy))) (Nat.not_lt.2 ((fun _ h => nomatch h) x hx))
   have e_z14 : ∀ x ∈ blkL none, w.heap.size ≤ x := fun x hx => Nat.le_trans hC.size ((fun _ h => nomatch h) x hx)
   have hM : MS (blkL none ++ (M)) w8 := (MS.app (fun _ h => nomatch h) (fun x h => hM.chg (Chg.refl [] _) x (mr (h))))
   obtain rfl := Option.some.inj H
   refine rt2 ha rfl rfl rfl ?_
   exact ⟨none, 0, rfl, Own.nil, e_z14, hC, hM⟩
  ·have H := ite_f hc12 H
   refine wp_skip ?_
   refine hK10 _ _ ?_; try clear hK10 K10
   refine wp_seq_k fun K15 hK15 => ?_
   refine wp_seq_k fun K16 hK16 => ?_
   refine wp_region_lit ?_
   refine seg ha 3 [(4, .slice ao9 t8.1.length cap9), (22, .slice ao9 t8.1.length cap9), (23, .int .i64 (t8.1.length : Int)), (24, .int .i64 (0 : Int))] (by kernel_rfl) fun a ha => ?_
   refine hK16 _ _ ?_; try clear hK16 K16
   refine wp_block ?_
   obtain ⟨s17, H17, H⟩ := bind_some H
   have J17 : ∀ s17' (a : Act) (wx17 : World), s17 = .inr s17' → Has a Tryz.f126.ntmps [(4, .slice ao9 t8.1.length cap9)] → (Own (rInt .i64) 3 wx17 (blkL ao9 ++ (M)) ao9 cap9 t8.1) → (Chg [] w wx17) → (MS (blkL ao9 ++ (M)) wx17) → K15 a wx17 := by
    intro s17' a wx17 hs ha f9 hC hM
    subst hs
    refine hK15 _ _ ?_; try clear hK15 K15
    refine wp_seq_k fun K19 hK19 => ?_
    refine wp_region_lit ?_
    refine seg ha 3 [(2, .slice ao9 t8.1.length cap9), (3, .bool true)] (by kernel_rfl) fun a ha => ?_
    refine hK19 _ _ ?_; try clear hK19 K19
    refine wp_ret ?_
    try simp only [Exit.then, Exit.inBlock]
    obtain rfl := Option.some.inj H
    refine rt2 ha rfl rfl rfl ?_
    exact ⟨ao9, cap9, rfl, f9, e_i9, hC, hM⟩
   have Hc17 := H
   have H := H17
   refine wp_loop_ghost (fun kk a w17 => ∃ (x18 : Int), addr_half.l0 t8 kk x18 = some s17 ∧ Has a Tryz.f126.ntmps [(4, .slice ao9 t8.1.length cap9), (22, .slice ao9 t8.1.length cap9), (23, .int .i64 (t8.1.length : Int)), (24, .int .i64 x18)] ∧ (Own (rInt .i64) 3 w17 (blkL ao9 ++ (M)) ao9 cap9 t8.1) ∧ (Chg [] w w17) ∧ (MS (blkL ao9 ++ (M)) w17)) k ?_ ?_
   ·skip
    exact ⟨(0 : Int), H, (ha.sel (by kernel_rfl)), f9, hC, hM⟩
   ·rintro kk a w17 ⟨x18, H, ha, f9, hC, hM⟩
    obtain _ | kk := kk
    ·exact nomatch (show none = some _ from H)
    rw [addr_half.l0] at H
    refine wp_seq_k fun K20 hK20 => ?_
    refine wp_region_lit ?_
    refine seg ha 1 [(4, .slice ao9 t8.1.length cap9), (22, .slice ao9 t8.1.length cap9), (23, .int .i64 (t8.1.length : Int)), (24, .int .i64 x18), (25, .bool (decide (x18 < (t8.1.length : Int))))] (by kernel_rfl) fun a ha => ?_
    refine hK20 _ _ ?_; try clear hK20 K20
    refine wp_seq_k fun K21 hK21 => ?_
    refine cnd ha rfl (fun hc22 => ?_) (fun hc22 => ?_)
    ·have H := ite_t hc22 H
     refine wp_skip ?_
     refine hK21 _ _ ?_; try clear hK21 K21
     refine wp_seq_k fun K23 hK23 => ?_
     refine wp_block ?_
     refine wp_seq_k fun K24 hK24 => ?_
     refine wp_region_lit ?_
     obtain ⟨⟨hx25, hx25'⟩, H⟩ := ite_some H
     refine ix (r := (rInt .i64)) ha (by kernel_rfl) (by kernel_rfl) rfl rfl rfl rfl rfl (Own.toRSl (M' := []) f9 (Ok.nil _ _) (fun _ _ h => nomatch h)) hx25 hx25' fun a ge26 oe27 cs28 hn31 hR29 hE30 ha => ?_
     rw [rd_get] at hR29
     obtain rfl := hR29
     have hE30 : ∀ j v, ([.int .i64 (rd t8.1 x18)] : List Value)[j]? = some v → w17.cell? ⟨ge26, oe27 + j, none⟩ = some v := hE30
     refine ld ha rfl (by kernel_rfl) rfl rfl rfl (hE30 0 (.int .i64 (rd t8.1 x18)) (by kernel_rfl)) fun a ha => ?_
     refine seg ha 1 [(4, .slice ao9 t8.1.length cap9), (7, .int .i64 (rd t8.1 x18)), (22, .slice ao9 t8.1.length cap9), (23, .int .i64 (t8.1.length : Int)), (24, .int .i64 x18)] (by kernel_rfl) fun a ha => ?_
     refine hK24 _ _ ?_; try clear hK24 K24
     refine wp_seq_k fun K32 hK32 => ?_
     refine wp_region_lit ?_
     refine seg ha 2 [(4, .slice ao9 t8.1.length cap9), (22, .slice ao9 t8.1.length cap9), (23, .int .i64 (t8.1.length : Int)), (24, .int .i64 x18), (29, .bool (decide ((rd t8.1 x18) < (0 : Int))))] (by kernel_rfl) fun a ha => ?_
     refine hK32 _ _ ?_; try clear hK32 K32
     refine cnd ha rfl (fun hc33 => ?_) (fun hc33 => ?_)
     ·have H := ite_t hc33 H
      refine wp_seq_k fun K34 hK34 => ?_
      refine wp_region_lit ?_
      refine seg ha 2 [(2, .slice none 0 0), (3, .bool false)] (by kernel_rfl) fun a ha => ?_
      refine hK34 _ _ ?_; try clear hK34 K34
      refine wp_ret ?_
      try simp only [Exit.then, Exit.inBlock]
      have p_z35_M : ∀ x ∈ blkL none, x ∉ M := fun x hx hy => absurd (hM x (mr (hy))) (Nat.not_lt.2 ((fun _ h => nomatch h) x hx))
      have e_z35 : ∀ x ∈ blkL none, w.heap.size ≤ x := fun x hx => Nat.le_trans hC.size ((fun _ h => nomatch h) x hx)
      have hM : MS (blkL none ++ (M)) w17 := (MS.app (fun _ h => nomatch h) (fun x h => hM.chg (Chg.refl [] _) x (mr (h))))
      obtain rfl := Option.some.inj H
      have H := (show some _ = some _ from Hc17)
      obtain rfl := Option.some.inj H
      refine rt2 ha rfl rfl rfl ?_
      exact ⟨none, 0, rfl, Own.nil, e_z35, hC, hM⟩
     ·have H := ite_f hc33 H
      refine wp_skip ?_
      refine hK23 _ _ ?_; try clear hK23 K23
      refine wp_region_lit ?_
      refine seg ha 2 [(4, .slice ao9 t8.1.length cap9), (22, .slice ao9 t8.1.length cap9), (23, .int .i64 (t8.1.length : Int)), (24, .int .i64 (IntKind.i64.wrap (x18 + (1 : Int))))] (by kernel_rfl) fun a ha => ?_
      exact ⟨kk, Nat.lt_succ_self _, ⟨IntKind.i64.wrap (x18 + (1 : Int)), H, (ha.sel (by kernel_rfl)), f9, hC, hM⟩⟩
    ·have H := ite_f hc22 H
     refine wp_exit ?_
     simp only [Exit.then, Exit.inBlock, ↓reduceIte, Nat.reduceEqDiff]
     obtain rfl := Option.some.inj H
     exact J17 _ _ _ rfl (ha.sel (by kernel_rfl)) f9 hC hM
def addr_put6.l0 (a1 : Int) (a2 : List Int) : Nat → Int → (List Int) → Option (List Int)
  | 0, _, _ => none
  | kk + 1, x4, x5 => (if (decide (x4 < (a2.length : Int))) = true then (if 0 ≤ x4 ∧ x4 < (a2.length : Int) then (if 0 ≤ (IntKind.i64.wrap ((2 : Int) * (IntKind.i64.wrap (a1 + x4)))) ∧ (IntKind.i64.wrap ((2 : Int) * (IntKind.i64.wrap (a1 + x4)))) < (16 : Int) then (if 0 ≤ (IntKind.i64.wrap ((IntKind.i64.wrap ((2 : Int) * (IntKind.i64.wrap (a1 + x4)))) + (1 : Int))) ∧ (IntKind.i64.wrap ((IntKind.i64.wrap ((2 : Int) * (IntKind.i64.wrap (a1 + x4)))) + (1 : Int))) < (16 : Int) then addr_put6.l0 a1 a2 kk (IntKind.i64.wrap (x4 + (1 : Int))) ((arL 16 ((arL 16 x5).set (Int.toNat (IntKind.i64.wrap ((2 : Int) * (IntKind.i64.wrap (a1 + x4))))) (IntKind.u8.wrap (Int.fdiv (rd a2 x4) (2 ^ (min (8 : Int).toNat IntKind.i64.bits)))))).set (Int.toNat (IntKind.i64.wrap ((IntKind.i64.wrap ((2 : Int) * (IntKind.i64.wrap (a1 + x4)))) + (1 : Int)))) (IntKind.u8.wrap (rd a2 x4))) else none) else none) else none) else some (x5 : List Int))
def addr_put6.f (k : Nat) (a0 : S_api_Addr) (a1 : Int) (a2 : List Int) : Option (S_api_Addr) := (addr_put6.l0 a1 a2 k (0 : Int) a0.B).bind fun s3 => some (((⟨a0.Size, s3⟩ : S_api_Addr) : S_api_Addr))
set_option maxRecDepth 100000 in
theorem addr_put6.walk (w : World) (M : List Nat) (hM : MS M w) (gp0 : Nat) (a0 : S_api_Addr) (hBgp0 : Box w gp0 (cS_api_Addr a0)) (hg_gp0 : gp0 ∈ M) (a1 : Int) (a2 : List Int) (ao1 : Option Addr) (cap1 : Nat) (f1 : RSl (rInt .i64) 3 w M ao1 cap1 a2) (k : Nat) (r : S_api_Addr) (H : addr_put6.f k a0 a1 a2 = some r) :
    To Tryz.prog 127 [.pointer (some ⟨gp0, 0, none⟩), .int .i64 a1, .slice ao1 a2.length cap1] w fun v w' => v = .tuple #[] ∧ (Box w' gp0 (cS_api_Addr r)) ∧ Chg [gp0] w w' ∧ MS (M) w' := by
 unfold addr_put6.f at H
 refine ent Tryz.func127 rfl [(0, .pointer (some ⟨gp0, 0, none⟩)), (1, .int .i64 a1), (2, .slice ao1 a2.length cap1)] rfl (by rfl) fun a ha => ?_
 have hC : Chg [gp0] w w := Chg.refl _ _
 refine wp_top_k fun K0 hK0 => ?_
 refine wp_seq_k fun K2 hK2 => ?_
 refine wp_region_lit ?_
 refine seg ha 3 [(0, .pointer (some ⟨gp0, 0, none⟩)), (1, .int .i64 a1), (8, .slice ao1 a2.length cap1), (9, .int .i64 (a2.length : Int)), (10, .int .i64 (0 : Int))] (by kernel_rfl) fun a ha => ?_
 refine hK2 _ _ ?_; try clear hK2 K2
 refine wp_block ?_
 obtain ⟨s3, H3, H⟩ := bind_some H
 have J3 : ∀ (a : Act) (wx3 : World), Has a Tryz.f127.ntmps [] → (Box wx3 gp0 (cS_api_Addr (⟨a0.Size, s3⟩ : S_api_Addr))) → (Chg [gp0] w wx3) → (MS (M) wx3) → K0 a wx3 := by
  intro a wx3 ha hBgp0 hC hM
  refine hK0 _ _ ?_
  obtain rfl := Option.some.inj H
  refine rt0 ha rfl ?_
  exact ⟨rfl, hBgp0, hC, hM⟩
 have Hc3 := H
 have H := H3
 refine wp_loop_ghost (fun kk a w3 => ∃ (x4 : Int) (x5 : List Int), addr_put6.l0 a1 a2 kk x4 x5 = some s3 ∧ Has a Tryz.f127.ntmps [(0, .pointer (some ⟨gp0, 0, none⟩)), (1, .int .i64 a1), (8, .slice ao1 a2.length cap1), (9, .int .i64 (a2.length : Int)), (10, .int .i64 x4)] ∧ (RSl (rInt .i64) 3 w3 (M) ao1 cap1 a2) ∧ (Box w3 gp0 (cS_api_Addr (⟨a0.Size, x5⟩ : S_api_Addr))) ∧ (Chg [gp0] w w3) ∧ (MS (M) w3)) k ?_ ?_
 ·skip
  exact ⟨(0 : Int), a0.B, H, (ha.sel (by kernel_rfl)), f1, hBgp0, hC, hM⟩
 ·rintro kk a w3 ⟨x4, x5, H, ha, f1, hBgp0, hC, hM⟩
  obtain _ | kk := kk
  ·exact nomatch (show none = some _ from H)
  rw [addr_put6.l0] at H
  refine wp_seq_k fun K6 hK6 => ?_
  refine wp_region_lit ?_
  refine seg ha 1 [(0, .pointer (some ⟨gp0, 0, none⟩)), (1, .int .i64 a1), (8, .slice ao1 a2.length cap1), (9, .int .i64 (a2.length : Int)), (10, .int .i64 x4), (11, .bool (decide (x4 < (a2.length : Int))))] (by kernel_rfl) fun a ha => ?_
  refine hK6 _ _ ?_; try clear hK6 K6
  refine wp_seq_k fun K7 hK7 => ?_
  refine cnd ha rfl (fun hc8 => ?_) (fun hc8 => ?_)
  ·have H := ite_t hc8 H
   refine wp_skip ?_
   refine hK7 _ _ ?_; try clear hK7 K7
   refine wp_seq_k fun K9 hK9 => ?_
   refine wp_block ?_
   refine wp_seq_k fun K10 hK10 => ?_
   refine wp_region_lit ?_
   refine seg ha 1 [(0, .pointer (some ⟨gp0, 0, none⟩)), (1, .int .i64 a1), (8, .slice ao1 a2.length cap1), (9, .int .i64 (a2.length : Int)), (10, .int .i64 x4), (12, .int .i64 x4)] (by kernel_rfl) fun a ha => ?_
   obtain ⟨⟨hx11, hx11'⟩, H⟩ := ite_some H
   refine ix (r := (rInt .i64)) ha (by kernel_rfl) (by kernel_rfl) rfl rfl rfl rfl rfl f1 hx11 hx11' fun a ge12 oe13 cs14 hn17 hR15 hE16 ha => ?_
   rw [rd_get] at hR15
   obtain rfl := hR15
   have hE16 : ∀ j v, ([.int .i64 (rd a2 x4)] : List Value)[j]? = some v → w3.cell? ⟨ge12, oe13 + j, none⟩ = some v := hE16
   refine ld ha rfl (by kernel_rfl) rfl rfl rfl (hE16 0 (.int .i64 (rd a2 x4)) (by kernel_rfl)) fun a ha => ?_
   refine seg ha 2 [(0, .pointer (some ⟨gp0, 0, none⟩)), (1, .int .i64 a1), (6, .int .i64 x4), (7, .int .i64 (rd a2 x4)), (8, .slice ao1 a2.length cap1), (9, .int .i64 (a2.length : Int)), (10, .int .i64 x4)] (by kernel_rfl) fun a ha => ?_
   refine hK10 _ _ ?_; try clear hK10 K10
   have okS : Ok ([gp0]) (M) w3.heap.size := (Ok.one (.inl (hg_gp0)))
   have z_f1 := f1
   refine drw (fun w' => Chg ([gp0]) w3 w') (by kernel_rfl) fun w18 hc19 _ => ?_
   have hS : Chg ([gp0]) w3 w18 := (Chg.refl ([gp0]) _).trans hc19 (Ok.nil _ _)
   have o1 : Ok [] (M) w3.heap.size := Ok.nil _ _
   have o2 : Ok (M) (M) w3.heap.size := (Ok.refl _ _)
   have f1 := f1.chg hc19 o1 o2
   have hBgp0 := hBgp0.chg hc19 (fun h => nomatch h)
   have hM : MS (M) w18 := (hM.chg hc19)
   have hC := hC.trans hc19 (Ok.nil _ _)
   refine tkpz 0 0 (.pointer (some ⟨gp0, 0, none⟩)) ha (s := hS) (q := fun a ha => ?_)
   refine tkpz 1 0 (.int .i64 a1) ha (s := hS) (q := fun a ha => ?_)
   refine tkpz 2 0 (.int .i64 x4) ha (s := hS) (q := fun a ha => ?_)
   refine tkpz 3 0 (.int .i64 (IntKind.i64.wrap (a1 + x4))) ha (s := hS) (q := fun a ha => ?_)
   refine tkpz 4 0 (.int .i64 (IntKind.i64.wrap ((2 : Int) * (IntKind.i64.wrap (a1 + x4))))) ha (s := hS) (q := fun a ha => ?_)
   refine tkpz 5 0 (.pointer (some ⟨gp0, 0, none⟩)) ha (s := hS) (q := fun a ha => ?_)
   refine tkpz 6 0 (.int .i64 a1) ha (s := hS) (q := fun a ha => ?_)
   refine tkpz 7 0 (.int .i64 x4) ha (s := hS) (q := fun a ha => ?_)
   refine tkpz 8 0 (.int .i64 (IntKind.i64.wrap (a1 + x4))) ha (s := hS) (q := fun a ha => ?_)
   refine tkpz 9 0 (.int .i64 (IntKind.i64.wrap ((2 : Int) * (IntKind.i64.wrap (a1 + x4))))) ha (s := hS) (q := fun a ha => ?_)
   refine tkpz 10 0 (.int .i64 (IntKind.i64.wrap ((IntKind.i64.wrap ((2 : Int) * (IntKind.i64.wrap (a1 + x4)))) + (1 : Int)))) ha (s := hS) (q := fun a ha => ?_)
   refine tkpz 11 0 (.int .i64 (rd a2 x4)) ha (s := hS) (q := fun a ha => ?_)
   refine tkpz 12 0 (.int .i64 (Int.fdiv (rd a2 x4) (2 ^ (min (8 : Int).toNat IntKind.i64.bits)))) ha (s := hS) (q := fun a ha => ?_)
   refine tkpz 13 0 (.int .u8 (IntKind.u8.wrap (Int.fdiv (rd a2 x4) (2 ^ (min (8 : Int).toNat IntKind.i64.bits))))) ha (s := hS) (q := fun a ha => ?_)
   refine tkpz 14 0 (.int .i64 (rd a2 x4)) ha (s := hS) (q := fun a ha => ?_)
   refine tkpz 15 0 (.int .u8 (IntKind.u8.wrap (rd a2 x4))) ha (s := hS) (q := fun a ha => ?_)
   refine tkpz 16 0 (.pointer (some ⟨gp0, 0, none⟩)) ha (s := hS) (q := fun a ha => ?_)
   refine tkpz 17 0 (.pointer (some ⟨gp0, 1, none⟩)) ha (s := hS) (q := fun a ha => ?_)
   obtain ⟨⟨hx20, hx20'⟩, H⟩ := ite_some H
   have hi20 : (Int.toNat (IntKind.i64.wrap ((2 : Int) * (IntKind.i64.wrap (a1 + x4))))) < 16 := by omega
   refine tkz 18 ha (v := .pointer (some ⟨gp0, 1 + (Int.toNat (IntKind.i64.wrap ((2 : Int) * (IntKind.i64.wrap (a1 + x4))))), none⟩)) (y := fun w' hs => ixA_run (T := 5) (N := 16) (g := gp0) (o' := 1) (k := .i64) (i := IntKind.i64.wrap ((2 : Int) * (IntKind.i64.wrap (a1 + x4)))) ha (by kernel_rfl) (by kernel_rfl) (by rfl) (by rfl) hx20 hx20' w') (s := hS) (q := fun a ha => ?_)
   refine tkpz 20 0 (.pointer (some ⟨gp0, 0, none⟩)) ha (s := hS) (q := fun a ha => ?_)
   refine tkpz 21 0 (.pointer (some ⟨gp0, 1, none⟩)) ha (s := hS) (q := fun a ha => ?_)
   refine ac 19 (by kernel_rfl) (by rfl) fun K21 hK21 => ?_
   refine st (o' := 1 + (Int.toNat (IntKind.i64.wrap ((2 : Int) * (IntKind.i64.wrap (a1 + x4)))))) ha rfl rfl rfl (by kernel_rfl) rfl rfl hBgp0 (arr_lt (k := .u8) (m := 16) (x := x5) ([.int .i64 a0.Size] : List Value) ([] : List Value) (by kernel_rfl) hi20) fun a w22 ha hb2 hc23 _ => ?_
   have o1 : Ok [gp0] (M) w18.heap.size := Ok.one (.inl (hg_gp0))
   have o2 : Ok (M) (M) w18.heap.size := (Ok.refl _ _)
   have f1 := f1.chg hc23 o1 o2
   have hM : MS (M) w22 := (hM.chg hc23)
   have hC := hC.trans hc23 (Ok.one (.inl (by simp)))
   have hS := hS.trans hc23 (fun x h => .inl (h))
   have hBgp0 : Box w22 gp0 (cS_api_Addr (⟨a0.Size, ((arL 16 x5).set (Int.toNat (IntKind.i64.wrap ((2 : Int) * (IntKind.i64.wrap (a1 + x4))))) (IntKind.u8.wrap (Int.fdiv (rd a2 x4) (2 ^ (min (8 : Int).toNat IntKind.i64.bits)))))⟩ : S_api_Addr)) := Box.setA (k := .u8) (m := 16) (x := x5) ([.int .i64 a0.Size] : List Value) ([] : List Value) hb2 (by kernel_rfl) hi20 (by kernel_rfl)
   refine ae hK21 hS ?_; clear hK21 K21
   obtain ⟨⟨hx24, hx24'⟩, H⟩ := ite_some H
   have hi24 : (Int.toNat (IntKind.i64.wrap ((IntKind.i64.wrap ((2 : Int) * (IntKind.i64.wrap (a1 + x4)))) + (1 : Int)))) < 16 := by omega
   refine tkz 22 ha (v := .pointer (some ⟨gp0, 1 + (Int.toNat (IntKind.i64.wrap ((IntKind.i64.wrap ((2 : Int) * (IntKind.i64.wrap (a1 + x4)))) + (1 : Int)))), none⟩)) (y := fun w' hs => ixA_run (T := 5) (N := 16) (g := gp0) (o' := 1) (k := .i64) (i := IntKind.i64.wrap ((IntKind.i64.wrap ((2 : Int) * (IntKind.i64.wrap (a1 + x4)))) + (1 : Int))) ha (by kernel_rfl) (by kernel_rfl) (by rfl) (by rfl) hx24 hx24' w') (s := hS) (q := fun a ha => ?_)
   refine ac 23 (by kernel_rfl) (by rfl) fun K25 hK25 => ?_
   refine st (o' := 1 + (Int.toNat (IntKind.i64.wrap ((IntKind.i64.wrap ((2 : Int) * (IntKind.i64.wrap (a1 + x4)))) + (1 : Int))))) ha rfl rfl rfl (by kernel_rfl) rfl rfl hBgp0 (arr_lt (k := .u8) (m := 16) (x := ((arL 16 x5).set (Int.toNat (IntKind.i64.wrap ((2 : Int) * (IntKind.i64.wrap (a1 + x4))))) (IntKind.u8.wrap (Int.fdiv (rd a2 x4) (2 ^ (min (8 : Int).toNat IntKind.i64.bits)))))) ([.int .i64 a0.Size] : List Value) ([] : List Value) (by kernel_rfl) hi24) fun a w26 ha hb2 hc27 _ => ?_
   have o1 : Ok [gp0] (M) w22.heap.size := Ok.one (.inl (hg_gp0))
   have o2 : Ok (M) (M) w22.heap.size := (Ok.refl _ _)
   have f1 := f1.chg hc27 o1 o2
   have hM : MS (M) w26 := (hM.chg hc27)
   have hC := hC.trans hc27 (Ok.one (.inl (by simp)))
   have hS := hS.trans hc27 (fun x h => .inl (h))
   have hBgp0 : Box w26 gp0 (cS_api_Addr (⟨a0.Size, ((arL 16 ((arL 16 x5).set (Int.toNat (IntKind.i64.wrap ((2 : Int) * (IntKind.i64.wrap (a1 + x4))))) (IntKind.u8.wrap (Int.fdiv (rd a2 x4) (2 ^ (min (8 : Int).toNat IntKind.i64.bits)))))).set (Int.toNat (IntKind.i64.wrap ((IntKind.i64.wrap ((2 : Int) * (IntKind.i64.wrap (a1 + x4)))) + (1 : Int)))) (IntKind.u8.wrap (rd a2 x4)))⟩ : S_api_Addr)) := Box.setA (k := .u8) (m := 16) (x := ((arL 16 x5).set (Int.toNat (IntKind.i64.wrap ((2 : Int) * (IntKind.i64.wrap (a1 + x4))))) (IntKind.u8.wrap (Int.fdiv (rd a2 x4) (2 ^ (min (8 : Int).toNat IntKind.i64.bits)))))) ([.int .i64 a0.Size] : List Value) ([] : List Value) hb2 (by kernel_rfl) hi24 (by kernel_rfl)
   refine ae hK25 hS ?_; clear hK25 K25
   refine dn (by kernel_rfl) ?_
   refine hK9 _ _ ?_; try clear hK9 K9
   refine wp_region_lit ?_
   refine seg ha 2 [(0, .pointer (some ⟨gp0, 0, none⟩)), (1, .int .i64 a1), (8, .slice ao1 a2.length cap1), (9, .int .i64 (a2.length : Int)), (10, .int .i64 (IntKind.i64.wrap (x4 + (1 : Int))))] (by kernel_rfl) fun a ha => ?_
   exact ⟨kk, Nat.lt_succ_self _, ⟨IntKind.i64.wrap (x4 + (1 : Int)), ((arL 16 ((arL 16 x5).set (Int.toNat (IntKind.i64.wrap ((2 : Int) * (IntKind.i64.wrap (a1 + x4))))) (IntKind.u8.wrap (Int.fdiv (rd a2 x4) (2 ^ (min (8 : Int).toNat IntKind.i64.bits)))))).set (Int.toNat (IntKind.i64.wrap ((IntKind.i64.wrap ((2 : Int) * (IntKind.i64.wrap (a1 + x4)))) + (1 : Int)))) (IntKind.u8.wrap (rd a2 x4))), H, (ha.sel (by kernel_rfl)), f1, hBgp0, hC, hM⟩⟩
  ·have H := ite_f hc8 H
   refine wp_exit ?_
   simp only [Exit.then, Exit.inBlock, ↓reduceIte, Nat.reduceEqDiff]
   obtain rfl := Option.some.inj H
   exact J3 _ _ (ha.sel (by kernel_rfl)) hBgp0 hC hM
def addr_read6.f (k : Nat) (a0 : List UInt8) : Option (S_api_Addr × Bool) := (strings_Cut.f a0 ([58, 58] : List UInt8)).bind fun t7 => (addr_half.f k t7.1).bind fun t9 => (addr_half.f k t7.2.1).bind fun t12 => (if (if (if (if (!t9.2) = true then true else (!t12.2)) = true then true else (decide ((IntKind.i64.wrap ((t9.1.length : Int) + (t12.1.length : Int))) > (8 : Int)))) = true then true else (if (!t7.2.2) = true then ((t9.1.length : Int) != (8 : Int)) else false)) = true then some (((⟨(0 : Int), (List.replicate 16 (0 : Int))⟩ : S_api_Addr) : S_api_Addr), (false : Bool)) else (addr_put6.f k (⟨(16 : Int), (List.replicate 16 (0 : Int))⟩ : S_api_Addr) (0 : Int) t9.1).bind fun t24 => (addr_put6.f k t24 (IntKind.i64.wrap ((8 : Int) - (t12.1.length : Int))) t12.1).bind fun t26 => some ((t26 : S_api_Addr), (true : Bool)))
set_option maxRecDepth 100000 in
theorem addr_read6.walk (w : World) (M : List Nat) (hM : MS M w) (hG : GF w M) (a0 : List UInt8) (k : Nat) (r : S_api_Addr × Bool) (H : addr_read6.f k a0 = some r) :
    To Tryz.prog 92 [.string (bstr a0)] w fun v w' => v = .tuple #[.agg (cS_api_Addr r.1).toArray, .bool r.2] ∧ Chg [] w w' ∧ MS (M) w' := by
 unfold addr_read6.f at H
 refine ent Tryz.func92 rfl [(0, .string (bstr a0))] rfl (by rfl) fun a ha => ?_
 have hC : Chg [] w w := Chg.refl _ _
 refine wp_seq_k fun K1 hK1 => ?_
 refine wp_region_lit ?_
 refine al (cs := (cS_api_Addr (⟨(0 : Int), (List.replicate 16 (0 : Int))⟩ : S_api_Addr))) (z := .agg (cS_api_Addr (⟨(0 : Int), (List.replicate 16 (0 : Int))⟩ : S_api_Addr)).toArray) ha (fun w => by kernel_rfl) rfl rfl rfl rfl fun a w2 g3 hN4 ha => ?_
 have o1 : Ok [] (M) w.heap.size := Ok.nil _ _
 have o2 : Ok ([g3] ++ (M)) (M) w.heap.size := (Ok.app (hN4.ok _) (Ok.refl _ _))
 have hG := hG.chg hN4.chg o1 o2
 have p_i5_M : ∀ x ∈ [g3], x ∉ M := fun x hx hy => absurd (hM x (hy)) (Nat.not_lt.2 ((hN4.ge1) x hx))
 have e_i5 : ∀ x ∈ [g3], w.heap.size ≤ x := fun x hx => Nat.le_trans hC.size ((hN4.ge1) x hx)
 have hM : MS ([g3] ++ (M)) w2 := (MS.app hN4.ms (hM.chg hN4.chg))
 have hC := hC.trans hN4.chg (Ok.nil _ _)
 have hBg3 : Box w2 g3 (cS_api_Addr (⟨(0 : Int), (List.replicate 16 (0 : Int))⟩ : S_api_Addr)) := hN4.box
 refine seg ha 1 [(0, .string (bstr a0)), (2, .pointer (some ⟨g3, 0, none⟩))] (by kernel_rfl) fun a ha => ?_
 refine hK1 _ _ ?_; try clear hK1 K1
 refine wp_seq_k fun K6 hK6 => ?_
 refine wp_region_lit ?_
 refine seg ha 1 [(2, .pointer (some ⟨g3, 0, none⟩)), (12, .string (bstr a0))] (by kernel_rfl) fun a ha => ?_
 obtain ⟨t7, H7, H⟩ := bind_some H
 refine cl ha (by rfl) (by kernel_rfl) (by rfl) (by rfl) (by rfl) (strings_Cut.walk w2 _ hM hG a0 ([58, 58] : List UInt8) _ H7) ?_
 rintro _ w7 ⟨rfl, hc7, hMn⟩ a ha
 have o1 : Ok [] ([g3] ++ (M)) w2.heap.size := Ok.nil _ _
 have o2 : Ok ([g3] ++ (M)) ([g3] ++ (M)) w2.heap.size := (Ok.refl _ _)
 have hG := hG.chg hc7 o1 o2
 have hBg3 := hBg3.chg hc7 (fun h => nomatch h)
 have hM : MS ([g3] ++ (M)) w7 := (hM.chg hc7)
 have hC := hC.trans hc7 (Ok.nil _ _)
 refine seg ha 7 [(2, .pointer (some ⟨g3, 0, none⟩)), (4, .string (bstr t7.1)), (5, .string (bstr t7.2.1)), (6, .bool t7.2.2)] (by kernel_rfl) fun a ha => ?_
 refine hK6 _ _ ?_; try clear hK6 K6
 refine wp_seq_k fun K8 hK8 => ?_
 refine wp_region_lit ?_
 refine seg ha 1 [(2, .pointer (some ⟨g3, 0, none⟩)), (5, .string (bstr t7.2.1)), (6, .bool t7.2.2), (18, .string (bstr t7.1))] (by kernel_rfl) fun a ha => ?_
 obtain ⟨t9, H9, H⟩ := bind_some H
 refine cl ha (by rfl) (by kernel_rfl) (by rfl) (by rfl) (by rfl) (addr_half.walk w7 _ hM t7.1 k _ H9) ?_
 rintro _ w9 ⟨ao10, cap10, rfl, f10, ne_i10, hc9, hMn⟩ a ha
 have o1 : Ok [] ([g3] ++ (M)) w7.heap.size := Ok.nil _ _
 have o2 : Ok (blkL ao10 ++ ([g3] ++ (M))) ([g3] ++ (M)) w7.heap.size := (Ok.app (fun x h => .inr (ne_i10 x h)) (Ok.refl _ _))
 have hG := hG.chg hc9 o1 o2
 have hBg3 := hBg3.chg hc9 (fun h => nomatch h)
 have p_i10_i5 : ∀ x ∈ blkL ao10, x ∉ ([g3]) := fun x hx hy => absurd (hM x (ml hy)) (Nat.not_lt.2 (ne_i10 x hx))
 have p_i10_M : ∀ x ∈ blkL ao10, x ∉ M := fun x hx hy => absurd (hM x (mr (hy))) (Nat.not_lt.2 (ne_i10 x hx))
 have e_i10 : ∀ x ∈ blkL ao10, w.heap.size ≤ x := fun x hx => Nat.le_trans hC.size (ne_i10 x hx)
 have hM : MS (blkL ao10 ++ ([g3] ++ (M))) w9 := (MS.app (fun x h => hMn x (ml h)) (hM.chg hc9))
 have hC := hC.trans hc9 (Ok.nil _ _)
 refine seg ha 5 [(2, .pointer (some ⟨g3, 0, none⟩)), (5, .string (bstr t7.2.1)), (6, .bool t7.2.2), (7, .slice ao10 t9.1.length cap10), (8, .bool t9.2)] (by kernel_rfl) fun a ha => ?_
 refine hK8 _ _ ?_; try clear hK8 K8
 refine wp_seq_k fun K11 hK11 => ?_
 refine wp_region_lit ?_
 refine seg ha 1 [(2, .pointer (some ⟨g3, 0, none⟩)), (6, .bool t7.2.2), (7, .slice ao10 t9.1.length cap10), (8, .bool t9.2), (23, .string (bstr t7.2.1))] (by kernel_rfl) fun a ha => ?_
 obtain ⟨t12, H12, H⟩ := bind_some H
 refine cl ha (by rfl) (by kernel_rfl) (by rfl) (by rfl) (by rfl) (addr_half.walk w9 _ hM t7.2.1 k _ H12) ?_
 rintro _ w12 ⟨ao13, cap13, rfl, f13, ne_i13, hc12, hMn⟩ a ha
 have o1 : Ok [] (blkL ao10 ++ ([g3] ++ (M))) w9.heap.size := Ok.nil _ _
 have o2 : Ok (blkL ao13 ++ (blkL ao10 ++ ([g3] ++ (M)))) (blkL ao10 ++ ([g3] ++ (M))) w9.heap.size := (Ok.app (fun x h => .inr (ne_i13 x h)) (Ok.refl _ _))
 have hG := hG.chg hc12 o1 o2
 have f10 := f10.chg hc12 o1 o2 (fun _ _ h => nomatch h) (fun _ h => mr (ml h))
 have hBg3 := hBg3.chg hc12 (fun h => nomatch h)
 have p_i13_i10 : ∀ x ∈ blkL ao13, x ∉ (blkL ao10) := fun x hx hy => absurd (hM x (ml hy)) (Nat.not_lt.2 (ne_i13 x hx))
 have p_i13_i5 : ∀ x ∈ blkL ao13, x ∉ ([g3]) := fun x hx hy => absurd (hM x (mr (ml hy))) (Nat.not_lt.2 (ne_i13 x hx))
 have p_i13_M : ∀ x ∈ blkL ao13, x ∉ M := fun x hx hy => absurd (hM x (mr (mr (hy)))) (Nat.not_lt.2 (ne_i13 x hx))
 have e_i13 : ∀ x ∈ blkL ao13, w.heap.size ≤ x := fun x hx => Nat.le_trans hC.size (ne_i13 x hx)
 have hM : MS (blkL ao13 ++ (blkL ao10 ++ ([g3] ++ (M)))) w12 := (MS.app (fun x h => hMn x (ml h)) (hM.chg hc12))
 have hC := hC.trans hc12 (Ok.nil _ _)
 refine seg ha 5 [(2, .pointer (some ⟨g3, 0, none⟩)), (6, .bool t7.2.2), (7, .slice ao10 t9.1.length cap10), (8, .bool t9.2), (9, .slice ao13 t12.1.length cap13), (10, .bool t12.2)] (by kernel_rfl) fun a ha => ?_
 refine hK11 _ _ ?_; try clear hK11 K11
 refine wp_seq_k fun K14 hK14 => ?_
 refine wp_seq_k fun K15 hK15 => ?_
 refine wp_region_lit ?_
 refine seg ha 23 [(2, .pointer (some ⟨g3, 0, none⟩)), (7, .slice ao10 t9.1.length cap10), (9, .slice ao13 t12.1.length cap13), (49, .bool (if (if (if (!t9.2) = true then true else (!t12.2)) = true then true else (decide ((IntKind.i64.wrap ((t9.1.length : Int) + (t12.1.length : Int))) > (8 : Int)))) = true then true else (if (!t7.2.2) = true then ((t9.1.length : Int) != (8 : Int)) else false)))] (by kernel_rfl) fun a ha => ?_
 refine hK15 _ _ ?_; try clear hK15 K15
 refine cnd ha rfl (fun hc16 => ?_) (fun hc16 => ?_)
 ·have H := ite_t hc16 H
  refine wp_seq_k fun K17 hK17 => ?_
  refine wp_region_lit ?_
  refine ldA (cs := (cS_api_Addr (⟨(0 : Int), (List.replicate 16 (0 : Int))⟩ : S_api_Addr))) ha rfl (by kernel_rfl) rfl rfl rfl (cells_sub (Box.cells hBg3) (all := (cS_api_Addr (⟨(0 : Int), (List.replicate 16 (0 : Int))⟩ : S_api_Addr))) [] [] (by kernel_rfl)) fun a ha => ?_
  refine stA (l := (cS_api_Addr (⟨(0 : Int), (List.replicate 16 (0 : Int))⟩ : S_api_Addr))) ha rfl rfl rfl (by kernel_rfl) rfl rfl hBg3 rfl fun a w18 ha hb2 hc19 _ => ?_
  have o1 : Ok [g3] (blkL ao13 ++ (blkL ao10 ++ ([g3] ++ (M)))) w12.heap.size := (fun _ h => .inl (mr (mr (ml h))))
  have o2 : Ok (blkL ao13 ++ (blkL ao10 ++ ([g3] ++ (M)))) (blkL ao13 ++ (blkL ao10 ++ ([g3] ++ (M)))) w12.heap.size := (Ok.refl _ _)
  have hG := hG.chg hc19 o1 o2
  have hM : MS (blkL ao13 ++ (blkL ao10 ++ ([g3] ++ (M)))) w18 := (hM.chg hc19)
  have hC := hC.trans hc19 (fun x h => .inr (e_i5 x h))
  have hBg3 : Box w18 g3 (cS_api_Addr (⟨(0 : Int), (List.replicate 16 (0 : Int))⟩ : S_api_Addr)) := hb2
  refine seg ha 1 [(2, .pointer (some ⟨g3, 0, none⟩)), (3, .bool false)] (by kernel_rfl) fun a ha => ?_
  refine hK17 _ _ ?_; try clear hK17 K17
  refine wp_ret ?_
  try simp only [Exit.then, Exit.inBlock]
  have o1 : Ok [] (blkL ao13 ++ (blkL ao10 ++ ([g3] ++ (M)))) w18.heap.size := Ok.nil _ _
  have o2 : Ok (M) (blkL ao13 ++ (blkL ao10 ++ ([g3] ++ (M)))) w18.heap.size := (fun _ h => .inl (mr (mr (mr (h)))))
  have hG := hG.chg (Chg.refl [] _) o1 o2
  have hM : MS (M) w18 := (fun x h => hM.chg (Chg.refl [] _) x (mr (mr (mr (h)))))
  obtain rfl := Option.some.inj H
  refine rtr ha (res2 rfl (roA ha rfl hBg3 (by kernel_rfl)) (roT ha rfl)) ?_
  exact ⟨rfl, hC, hM⟩
 ·have H := ite_f hc16 H
  refine wp_skip ?_
  refine hK14 _ _ ?_; try clear hK14 K14
  refine wp_seq_k fun K20 hK20 => ?_
  refine wp_region_lit ?_
  refine seg ha 1 [(2, .pointer (some ⟨g3, 0, none⟩)), (7, .slice ao10 t9.1.length cap10), (9, .slice ao13 t12.1.length cap13), (51, .pointer (some ⟨g3, 0, none⟩))] (by kernel_rfl) fun a ha => ?_
  refine st ha rfl rfl rfl (by kernel_rfl) rfl rfl hBg3 (Nat.le_of_ble_eq_true (by kernel_rfl)) fun a w21 ha hb2 hc22 _ => ?_
  have o1 : Ok [g3] (blkL ao13 ++ (blkL ao10 ++ ([g3] ++ (M)))) w12.heap.size := (fun _ h => .inl (mr (mr (ml h))))
  have o2 : Ok (blkL ao13 ++ (blkL ao10 ++ ([g3] ++ (M)))) (blkL ao13 ++ (blkL ao10 ++ ([g3] ++ (M)))) w12.heap.size := (Ok.refl _ _)
  have hG := hG.chg hc22 o1 o2
  have f10 := f10.chg hc22 o1 o2 p_i10_i5 (fun _ h => mr (ml h))
  have f13 := f13.chg hc22 o1 o2 p_i13_i5 (fun _ h => ml h)
  have hM : MS (blkL ao13 ++ (blkL ao10 ++ ([g3] ++ (M)))) w21 := (hM.chg hc22)
  have hC := hC.trans hc22 (fun x h => .inr (e_i5 x h))
  have hBg3 : Box w21 g3 (cS_api_Addr (⟨(16 : Int), (List.replicate 16 (0 : Int))⟩ : S_api_Addr)) := hb2
  refine hK20 _ _ ?_; try clear hK20 K20
  refine wp_seq_k fun K23 hK23 => ?_
  refine wp_region_lit ?_
  refine seg ha 1 [(2, .pointer (some ⟨g3, 0, none⟩)), (9, .slice ao13 t12.1.length cap13), (52, .slice ao10 t9.1.length cap10)] (by kernel_rfl) fun a ha => ?_
  have hML : MS (blkL ao13 ++ ([g3] ++ (M))) w21 := MS.rest hM (fun _ h => (List.mem_append.1 h).elim (fun h => ml h) (fun h => (List.mem_append.1 h).elim (fun h => mr (mr (ml h))) (fun h => mr (mr (mr (h))))))
  have oL : Ok (blkL ao13 ++ ([g3] ++ (M))) (blkL ao13 ++ (blkL ao10 ++ ([g3] ++ (M)))) w21.heap.size := (Ok.app (fun _ h => .inl (ml h)) (fun _ h => .inl (mr (mr (h)))))
  obtain ⟨t24, H24, H⟩ := bind_some H
  refine cl ha (by rfl) (by kernel_rfl) (by rfl) (by rfl) (by rfl) (addr_put6.walk w21 _ hML g3 (⟨(16 : Int), (List.replicate 16 (0 : Int))⟩ : S_api_Addr) hBg3 (mr (ml (List.mem_singleton.2 rfl))) (0 : Int) t9.1 ao10 cap10 (Own.toRSl (M' := blkL ao13 ++ ([g3] ++ (M))) f10 oL (fun x hx hm => (List.mem_append.1 hm).elim (fun h => (fun x hx hy => p_i13_i10 x hy hx) x hx h) (fun h => (List.mem_append.1 h).elim (fun h => p_i10_i5 x hx h) (fun h => p_i10_M x hx h)))) k _ H24) ?_
  rintro _ w24 ⟨rfl, qhBg3, hc24, hMn⟩ a ha
  have o1 : Ok [g3] (blkL ao13 ++ (blkL ao10 ++ ([g3] ++ (M)))) w21.heap.size := (fun _ h => .inl (mr (mr (ml h))))
  have o2 : Ok (blkL ao13 ++ (blkL ao10 ++ ([g3] ++ (M)))) (blkL ao13 ++ (blkL ao10 ++ ([g3] ++ (M)))) w21.heap.size := (Ok.refl _ _)
  have hG := hG.chg hc24 o1 o2
  have f13 := f13.chg hc24 o1 o2 p_i13_i5 (fun _ h => ml h)
  have f10 := f10.chg hc24 o1 o2 p_i10_i5 (fun _ h => mr (ml h))
  have hM : MS (blkL ao13 ++ (blkL ao10 ++ ([g3] ++ (M)))) w24 := (hM.chg hc24)
  have hC := hC.trans hc24 (fun x h => .inr (e_i5 x h))
  have hBg3 := qhBg3
  refine hK23 _ _ ?_; try clear hK23 K23
  refine wp_seq_k fun K25 hK25 => ?_
  refine wp_region_lit ?_
  refine seg ha 4 [(2, .pointer (some ⟨g3, 0, none⟩)), (56, .int .i64 (IntKind.i64.wrap ((8 : Int) - (t12.1.length : Int)))), (57, .slice ao13 t12.1.length cap13)] (by kernel_rfl) fun a ha => ?_
  have hML : MS (blkL ao10 ++ ([g3] ++ (M))) w24 := MS.rest hM (fun _ h => (List.mem_append.1 h).elim (fun h => mr (ml h)) (fun h => (List.mem_append.1 h).elim (fun h => mr (mr (ml h))) (fun h => mr (mr (mr (h))))))
  have oL : Ok (blkL ao10 ++ ([g3] ++ (M))) (blkL ao13 ++ (blkL ao10 ++ ([g3] ++ (M)))) w24.heap.size := (fun _ h => .inl (mr (h)))
  obtain ⟨t26, H26, H⟩ := bind_some H
  refine cl ha (by rfl) (by kernel_rfl) (by rfl) (by rfl) (by rfl) (addr_put6.walk w24 _ hML g3 t24 hBg3 (mr (ml (List.mem_singleton.2 rfl))) (IntKind.i64.wrap ((8 : Int) - (t12.1.length : Int))) t12.1 ao13 cap13 (Own.toRSl (M' := blkL ao10 ++ ([g3] ++ (M))) f13 oL (fun x hx hm => (List.mem_append.1 hm).elim (fun h => p_i13_i10 x hx h) (fun h => (List.mem_append.1 h).elim (fun h => p_i13_i5 x hx h) (fun h => p_i13_M x hx h)))) k _ H26) ?_
  rintro _ w26 ⟨rfl, qhBg3, hc26, hMn⟩ a ha
  have o1 : Ok [g3] (blkL ao13 ++ (blkL ao10 ++ ([g3] ++ (M)))) w24.heap.size := (fun _ h => .inl (mr (mr (ml h))))
  have o2 : Ok (blkL ao13 ++ (blkL ao10 ++ ([g3] ++ (M)))) (blkL ao13 ++ (blkL ao10 ++ ([g3] ++ (M)))) w24.heap.size := (Ok.refl _ _)
  have hG := hG.chg hc26 o1 o2
  have f13 := f13.chg hc26 o1 o2 p_i13_i5 (fun _ h => ml h)
  have hM : MS (blkL ao13 ++ (blkL ao10 ++ ([g3] ++ (M)))) w26 := (hM.chg hc26)
  have hC := hC.trans hc26 (fun x h => .inr (e_i5 x h))
  have hBg3 := qhBg3
  refine hK25 _ _ ?_; try clear hK25 K25
  refine wp_seq_k fun K27 hK27 => ?_
  refine wp_region_lit ?_
  refine ldA (cs := (cS_api_Addr t26)) ha rfl (by kernel_rfl) rfl rfl rfl (cells_sub (Box.cells hBg3) (all := (cS_api_Addr t26)) [] [] (by kernel_rfl)) fun a ha => ?_
  refine stA (l := (cS_api_Addr t26)) ha rfl rfl rfl (by kernel_rfl) rfl rfl hBg3 rfl fun a w28 ha hb2 hc29 _ => ?_
  have o1 : Ok [g3] (blkL ao13 ++ (blkL ao10 ++ ([g3] ++ (M)))) w26.heap.size := (fun _ h => .inl (mr (mr (ml h))))
  have o2 : Ok (blkL ao13 ++ (blkL ao10 ++ ([g3] ++ (M)))) (blkL ao13 ++ (blkL ao10 ++ ([g3] ++ (M)))) w26.heap.size := (Ok.refl _ _)
  have hG := hG.chg hc29 o1 o2
  have hM : MS (blkL ao13 ++ (blkL ao10 ++ ([g3] ++ (M)))) w28 := (hM.chg hc29)
  have hC := hC.trans hc29 (fun x h => .inr (e_i5 x h))
  have hBg3 : Box w28 g3 (cS_api_Addr t26) := hb2
  refine seg ha 1 [(2, .pointer (some ⟨g3, 0, none⟩)), (3, .bool true)] (by kernel_rfl) fun a ha => ?_
  refine hK27 _ _ ?_; try clear hK27 K27
  refine wp_ret ?_
  try simp only [Exit.then, Exit.inBlock]
  have o1 : Ok [] (blkL ao13 ++ (blkL ao10 ++ ([g3] ++ (M)))) w28.heap.size := Ok.nil _ _
  have o2 : Ok (M) (blkL ao13 ++ (blkL ao10 ++ ([g3] ++ (M)))) w28.heap.size := (fun _ h => .inl (mr (mr (mr (h)))))
  have hG := hG.chg (Chg.refl [] _) o1 o2
  have hM : MS (M) w28 := (fun x h => hM.chg (Chg.refl [] _) x (mr (mr (mr (h)))))
  obtain rfl := Option.some.inj H
  refine rtr ha (res2 rfl (roA ha rfl hBg3 (by kernel_rfl)) (roT ha rfl)) ?_
  exact ⟨rfl, hC, hM⟩
def addr_Parse.f (k : Nat) (a0 : List UInt8) : Option (S_api_Addr × Int) := (if ((bstr a0).toList == (bstr ([] : List UInt8)).toList) = true then some (((⟨(0 : Int), (List.replicate 16 (0 : Int))⟩ : S_api_Addr) : S_api_Addr), ((0 : Int) : Int)) else (addr_read4.f k a0).bind fun t13 => ((if (!t13.2) = true then (addr_read6.f k a0).bind fun t36 => some ((t36.2 : Bool), (t36.1.Size : Int), (t36.1.B : List Int)) else some ((t13.2 : Bool), (t13.1.Size : Int), (t13.1.B : List Int)))).bind fun s21 => ((if (!s21.1) = true then some (true : Bool) else (addr_Text.f k (⟨s21.2.1, s21.2.2⟩ : S_api_Addr)).bind fun t33 => some (!((bstr t33).toList == (bstr a0).toList) : Bool))).bind fun s24 => (if s24 = true then some (((⟨(0 : Int), (List.replicate 16 (0 : Int))⟩ : S_api_Addr) : S_api_Addr), ((4 : Int) : Int)) else some (((⟨s21.2.1, s21.2.2⟩ : S_api_Addr) : S_api_Addr), ((0 : Int) : Int))))
set_option maxRecDepth 100000 in
theorem addr_Parse.walk (w : World) (M : List Nat) (hM : MS M w) (hG : GF w M) (a0 : List UInt8) (k : Nat) (r : S_api_Addr × Int) (H : addr_Parse.f k a0 = some r) :
    To Tryz.prog 65 [.string (bstr a0)] w fun v w' => v = .tuple #[.agg (cS_api_Addr r.1).toArray, .int .i64 r.2] ∧ Chg [] w w' ∧ MS (M) w' := by
 unfold addr_Parse.f at H
 refine ent Tryz.func65 rfl [(0, .string (bstr a0))] rfl (by rfl) fun a ha => ?_
 have hC : Chg [] w w := Chg.refl _ _
 refine wp_seq_k fun K1 hK1 => ?_
 refine wp_region_lit ?_
 refine al (cs := (cS_api_Addr (⟨(0 : Int), (List.replicate 16 (0 : Int))⟩ : S_api_Addr))) (z := .agg (cS_api_Addr (⟨(0 : Int), (List.replicate 16 (0 : Int))⟩ : S_api_Addr)).toArray) ha (fun w => by kernel_rfl) rfl rfl rfl rfl fun a w2 g3 hN4 ha => ?_
 have o1 : Ok [] (M) w.heap.size := Ok.nil _ _
 have o2 : Ok ([g3] ++ (M)) (M) w.heap.size := (Ok.app (hN4.ok _) (Ok.refl _ _))
 have hG := hG.chg hN4.chg o1 o2
 have p_i5_M : ∀ x ∈ [g3], x ∉ M := fun x hx hy => absurd (hM x (hy)) (Nat.not_lt.2 ((hN4.ge1) x hx))
 have e_i5 : ∀ x ∈ [g3], w.heap.size ≤ x := fun x hx => Nat.le_trans hC.size ((hN4.ge1) x hx)
 have hM : MS ([g3] ++ (M)) w2 := (MS.app hN4.ms (hM.chg hN4.chg))
 have hC := hC.trans hN4.chg (Ok.nil _ _)
 have hBg3 : Box w2 g3 (cS_api_Addr (⟨(0 : Int), (List.replicate 16 (0 : Int))⟩ : S_api_Addr)) := hN4.box
 refine seg ha 1 [(0, .string (bstr a0)), (2, .pointer (some ⟨g3, 0, none⟩))] (by kernel_rfl) fun a ha => ?_
 refine hK1 _ _ ?_; try clear hK1 K1
 refine wp_seq_k fun K6 hK6 => ?_
 refine wp_seq_k fun K7 hK7 => ?_
 refine wp_region_lit ?_
 refine seg ha 2 [(0, .string (bstr a0)), (2, .pointer (some ⟨g3, 0, none⟩)), (7, .bool ((bstr a0).toList == (bstr ([] : List UInt8)).toList))] (by kernel_rfl) fun a ha => ?_
 refine hK7 _ _ ?_; try clear hK7 K7
 refine cnd ha rfl (fun hc8 => ?_) (fun hc8 => ?_)
 ·have H := ite_t hc8 H
  refine wp_seq_k fun K9 hK9 => ?_
  refine wp_region_lit ?_
  refine opk (v := .agg (cS_api_Addr (⟨(0 : Int), (List.replicate 16 (0 : Int))⟩ : S_api_Addr)).toArray) ha rfl rfl rfl rfl rfl (fun w => by kernel_rfl) fun a ha => ?_
  refine stA (l := (cS_api_Addr (⟨(0 : Int), (List.replicate 16 (0 : Int))⟩ : S_api_Addr))) ha rfl rfl rfl (by kernel_rfl) rfl rfl hBg3 rfl fun a w10 ha hb2 hc11 _ => ?_
  have o1 : Ok [g3] ([g3] ++ (M)) w2.heap.size := (fun _ h => .inl (ml h))
  have o2 : Ok ([g3] ++ (M)) ([g3] ++ (M)) w2.heap.size := (Ok.refl _ _)
  have hG := hG.chg hc11 o1 o2
  have hM : MS ([g3] ++ (M)) w10 := (hM.chg hc11)
  have hC := hC.trans hc11 (fun x h => .inr (e_i5 x h))
  have hBg3 : Box w10 g3 (cS_api_Addr (⟨(0 : Int), (List.replicate 16 (0 : Int))⟩ : S_api_Addr)) := hb2
  refine seg ha 1 [(2, .pointer (some ⟨g3, 0, none⟩)), (3, .int .i64 (0 : Int))] (by kernel_rfl) fun a ha => ?_
  refine hK9 _ _ ?_; try clear hK9 K9
  refine wp_ret ?_
  try simp only [Exit.then, Exit.inBlock]
  have o1 : Ok [] ([g3] ++ (M)) w10.heap.size := Ok.nil _ _
  have o2 : Ok (M) ([g3] ++ (M)) w10.heap.size := (fun _ h => .inl (mr (h)))
  have hG := hG.chg (Chg.refl [] _) o1 o2
  have hM : MS (M) w10 := (fun x h => hM.chg (Chg.refl [] _) x (mr (h)))
  obtain rfl := Option.some.inj H
  refine rtr ha (res2 rfl (roA ha rfl hBg3 (by kernel_rfl)) (roT ha rfl)) ?_
  exact ⟨rfl, hC, hM⟩
 ·have H := ite_f hc8 H
  refine wp_skip ?_
  refine hK6 _ _ ?_; try clear hK6 K6
  refine wp_seq_k fun K12 hK12 => ?_
  refine wp_region_lit ?_
  refine seg ha 1 [(0, .string (bstr a0)), (2, .pointer (some ⟨g3, 0, none⟩)), (10, .string (bstr a0))] (by kernel_rfl) fun a ha => ?_
  obtain ⟨t13, H13, H⟩ := bind_some H
  refine cl ha (by rfl) (by kernel_rfl) (by rfl) (by rfl) (by rfl) (addr_read4.walk w2 _ hM a0 k _ H13) ?_
  rintro _ w13 ⟨rfl, hc13, hMn⟩ a ha
  have o1 : Ok [] ([g3] ++ (M)) w2.heap.size := Ok.nil _ _
  have o2 : Ok ([g3] ++ (M)) ([g3] ++ (M)) w2.heap.size := (Ok.refl _ _)
  have hG := hG.chg hc13 o1 o2
  have hBg3 := hBg3.chg hc13 (fun h => nomatch h)
  have hM : MS ([g3] ++ (M)) w13 := (hM.chg hc13)
  have hC := hC.trans hc13 (Ok.nil _ _)
  refine seg ha 3 [(0, .string (bstr a0)), (2, .pointer (some ⟨g3, 0, none⟩)), (12, .agg (cS_api_Addr t13.1).toArray), (13, .bool t13.2)] (by kernel_rfl) fun a ha => ?_
  refine al (cs := (cS_api_Addr (⟨(0 : Int), (List.replicate 16 (0 : Int))⟩ : S_api_Addr))) (z := .agg (cS_api_Addr (⟨(0 : Int), (List.replicate 16 (0 : Int))⟩ : S_api_Addr)).toArray) ha (fun w => by kernel_rfl) rfl rfl rfl rfl fun a w14 g15 hN16 ha => ?_
  have o1 : Ok [] ([g3] ++ (M)) w13.heap.size := Ok.nil _ _
  have o2 : Ok ([g15] ++ ([g3] ++ (M))) ([g3] ++ (M)) w13.heap.size := (Ok.app (hN16.ok _) (Ok.refl _ _))
  have hG := hG.chg hN16.chg o1 o2
  have hBg3 := hBg3.chg hN16.chg (fun h => nomatch h)
  have p_i17_i5 : ∀ x ∈ [g15], x ∉ ([g3]) := fun x hx hy => absurd (hM x (ml hy)) (Nat.not_lt.2 ((hN16.ge1) x hx))
  have p_i17_M : ∀ x ∈ [g15], x ∉ M := fun x hx hy => absurd (hM x (mr (hy))) (Nat.not_lt.2 ((hN16.ge1) x hx))
  have e_i17 : ∀ x ∈ [g15], w.heap.size ≤ x := fun x hx => Nat.le_trans hC.size ((hN16.ge1) x hx)
  have hM : MS ([g15] ++ ([g3] ++ (M))) w14 := (MS.app hN16.ms (hM.chg hN16.chg))
  have hC := hC.trans hN16.chg (Ok.nil _ _)
  have hBg15 : Box w14 g15 (cS_api_Addr (⟨(0 : Int), (List.replicate 16 (0 : Int))⟩ : S_api_Addr)) := hN16.box
  refine stA (l := (cS_api_Addr t13.1)) ha rfl rfl rfl (by kernel_rfl) rfl rfl hBg15 rfl fun a w18 ha hb2 hc19 _ => ?_
  have o1 : Ok [g15] ([g15] ++ ([g3] ++ (M))) w14.heap.size := (fun _ h => .inl (ml h))
  have o2 : Ok ([g15] ++ ([g3] ++ (M))) ([g15] ++ ([g3] ++ (M))) w14.heap.size := (Ok.refl _ _)
  have hG := hG.chg hc19 o1 o2
  have hBg3 := hBg3.chg hc19 ((fun x (hx : x ∈ [g3]) (hy : x ∈ [g15]) => p_i17_i5 x hy hx) g3 (by simp))
  have hM : MS ([g15] ++ ([g3] ++ (M))) w18 := (hM.chg hc19)
  have hC := hC.trans hc19 (fun x h => .inr (e_i17 x h))
  have hBg15 : Box w18 g15 (cS_api_Addr t13.1) := hb2
  refine seg ha 1 [(0, .string (bstr a0)), (2, .pointer (some ⟨g3, 0, none⟩)), (4, .pointer (some ⟨g15, 0, none⟩)), (5, .bool t13.2)] (by kernel_rfl) fun a ha => ?_
  refine hK12 _ _ ?_; try clear hK12 K12
  refine wp_seq_k fun K20 hK20 => ?_
  obtain ⟨s21, H21, H⟩ := bind_some H
  have J21 : ∀ (a : Act) (w21 : World), Has a Tryz.f65.ntmps [(0, .string (bstr a0)), (2, .pointer (some ⟨g3, 0, none⟩)), (4, .pointer (some ⟨g15, 0, none⟩)), (5, .bool s21.1)] → (Box w21 g3 (cS_api_Addr (⟨(0 : Int), (List.replicate 16 (0 : Int))⟩ : S_api_Addr))) → (Box w21 g15 (cS_api_Addr (⟨s21.2.1, s21.2.2⟩ : S_api_Addr))) → (GF w21 ([g15] ++ ([g3] ++ (M)))) → (Chg [] w w21) → (MS ([g15] ++ ([g3] ++ (M))) w21) → K20 a w21 := by
   intro a w21 ha hBg3 hBg15 hG hC hM
   refine hK20 _ _ ?_; try clear hK20 K20
   refine wp_seq_k fun K22 hK22 => ?_
   refine wp_seq_k fun K23 hK23 => ?_
   refine wp_region_lit ?_
   obtain ⟨s24, H24, H⟩ := bind_some H
   have J24 : ∀ (a : Act) (w24 : World), Has a Tryz.f65.ntmps [(2, .pointer (some ⟨g3, 0, none⟩)), (4, .pointer (some ⟨g15, 0, none⟩)), (28, .bool s24)] → (Box w24 g3 (cS_api_Addr (⟨(0 : Int), (List.replicate 16 (0 : Int))⟩ : S_api_Addr))) → (Box w24 g15 (cS_api_Addr (⟨s21.2.1, s21.2.2⟩ : S_api_Addr))) → (GF w24 ([g15] ++ ([g3] ++ (M)))) → (Chg [] w w24) → (MS ([g15] ++ ([g3] ++ (M))) w24) → K23 a w24 := by
    intro a w24 ha hBg3 hBg15 hG hC hM
    refine hK23 _ _ ?_; try clear hK23 K23
    refine cnd ha rfl (fun hc25 => ?_) (fun hc25 => ?_)
    ·have H := ite_t hc25 H
     refine wp_seq_k fun K26 hK26 => ?_
     refine wp_region_lit ?_
     refine opk (v := .agg (cS_api_Addr (⟨(0 : Int), (List.replicate 16 (0 : Int))⟩ : S_api_Addr)).toArray) ha rfl rfl rfl rfl rfl (fun w => by kernel_rfl) fun a ha => ?_
     refine stA (l := (cS_api_Addr (⟨(0 : Int), (List.replicate 16 (0 : Int))⟩ : S_api_Addr))) ha rfl rfl rfl (by kernel_rfl) rfl rfl hBg3 rfl fun a w27 ha hb2 hc28 _ => ?_
     have o1 : Ok [g3] ([g15] ++ ([g3] ++ (M))) w24.heap.size := (fun _ h => .inl (mr (ml h)))
     have o2 : Ok ([g15] ++ ([g3] ++ (M))) ([g15] ++ ([g3] ++ (M))) w24.heap.size := (Ok.refl _ _)
     have hG := hG.chg hc28 o1 o2
     have hBg15 := hBg15.chg hc28 (p_i17_i5 g15 (by simp))
     have hM : MS ([g15] ++ ([g3] ++ (M))) w27 := (hM.chg hc28)
     have hC := hC.trans hc28 (fun x h => .inr (e_i5 x h))
     have hBg3 : Box w27 g3 (cS_api_Addr (⟨(0 : Int), (List.replicate 16 (0 : Int))⟩ : S_api_Addr)) := hb2
     refine seg ha 1 [(2, .pointer (some ⟨g3, 0, none⟩)), (3, .int .i64 (4 : Int))] (by kernel_rfl) fun a ha => ?_
     refine hK26 _ _ ?_; try clear hK26 K26
     refine wp_ret ?_
     try simp only [Exit.then, Exit.inBlock]
     have o1 : Ok [] ([g15] ++ ([g3] ++ (M))) w27.heap.size := Ok.nil _ _
     have o2 : Ok (M) ([g15] ++ ([g3] ++ (M))) w27.heap.size := (fun _ h => .inl (mr (mr (h))))
     have hG := hG.chg (Chg.refl [] _) o1 o2
     have hM : MS (M) w27 := (fun x h => hM.chg (Chg.refl [] _) x (mr (mr (h))))
     obtain rfl := Option.some.inj H
     refine rtr ha (res2 rfl (roA ha rfl hBg3 (by kernel_rfl)) (roT ha rfl)) ?_
     exact ⟨rfl, hC, hM⟩
    ·have H := ite_f hc25 H
     refine wp_skip ?_
     refine hK22 _ _ ?_; try clear hK22 K22
     refine wp_seq_k fun K29 hK29 => ?_
     refine wp_region_lit ?_
     refine ldA (cs := (cS_api_Addr (⟨s21.2.1, s21.2.2⟩ : S_api_Addr))) ha rfl (by kernel_rfl) rfl rfl rfl (cells_sub (Box.cells hBg15) (all := (cS_api_Addr (⟨s21.2.1, s21.2.2⟩ : S_api_Addr))) [] [] (by kernel_rfl)) fun a ha => ?_
     refine stA (l := (cS_api_Addr (⟨s21.2.1, s21.2.2⟩ : S_api_Addr))) ha rfl rfl rfl (by kernel_rfl) rfl rfl hBg3 rfl fun a w30 ha hb2 hc31 _ => ?_
     have o1 : Ok [g3] ([g15] ++ ([g3] ++ (M))) w24.heap.size := (fun _ h => .inl (mr (ml h)))
     have o2 : Ok ([g15] ++ ([g3] ++ (M))) ([g15] ++ ([g3] ++ (M))) w24.heap.size := (Ok.refl _ _)
     have hG := hG.chg hc31 o1 o2
     have hBg15 := hBg15.chg hc31 (p_i17_i5 g15 (by simp))
     have hM : MS ([g15] ++ ([g3] ++ (M))) w30 := (hM.chg hc31)
     have hC := hC.trans hc31 (fun x h => .inr (e_i5 x h))
     have hBg3 : Box w30 g3 (cS_api_Addr (⟨s21.2.1, s21.2.2⟩ : S_api_Addr)) := hb2
     refine seg ha 1 [(2, .pointer (some ⟨g3, 0, none⟩)), (3, .int .i64 (0 : Int))] (by kernel_rfl) fun a ha => ?_
     refine hK29 _ _ ?_; try clear hK29 K29
     refine wp_ret ?_
     try simp only [Exit.then, Exit.inBlock]
     have o1 : Ok [] ([g15] ++ ([g3] ++ (M))) w30.heap.size := Ok.nil _ _
     have o2 : Ok (M) ([g15] ++ ([g3] ++ (M))) w30.heap.size := (fun _ h => .inl (mr (mr (h))))
     have hG := hG.chg (Chg.refl [] _) o1 o2
     have hM : MS (M) w30 := (fun x h => hM.chg (Chg.refl [] _) x (mr (mr (h))))
     obtain rfl := Option.some.inj H
     refine rtr ha (res2 rfl (roA ha rfl hBg3 (by kernel_rfl)) (roT ha rfl)) ?_
     exact ⟨rfl, hC, hM⟩
   have H := H24
   refine seg ha 3 [(23, .bool (!s21.1)), (0, .string (bstr a0)), (2, .pointer (some ⟨g3, 0, none⟩)), (4, .pointer (some ⟨g15, 0, none⟩))] (by kernel_rfl) fun a ha => ?_
   rcases Bool.eq_false_or_eq_true (!s21.1) with hb32 | hb32
   ·have ha := ha.lit hb32
    have H := ite_t hb32 H
    refine sgh ha 5 [1, 1, 1, 1, 3] [(2, .pointer (some ⟨g3, 0, none⟩)), (4, .pointer (some ⟨g15, 0, none⟩)), (28, .bool true)] (by kernel_rfl) fun a ha => ?_
    obtain rfl := Option.some.inj H
    exact J24 _ _ (ha.sel (by kernel_rfl)) hBg3 hBg15 hG hC hM
   ·have ha := ha.lit hb32
    have H := ite_f hb32 H
    refine ldA (cs := (cS_api_Addr (⟨s21.2.1, s21.2.2⟩ : S_api_Addr))) ha rfl (by kernel_rfl) rfl rfl rfl (cells_sub (Box.cells hBg15) (all := (cS_api_Addr (⟨s21.2.1, s21.2.2⟩ : S_api_Addr))) [] [] (by kernel_rfl)) fun a ha => ?_
    obtain ⟨t33, H33, H⟩ := bind_some H
    refine cl ha (by rfl) (by kernel_rfl) (by rfl) (by rfl) (by rfl) (addr_Text.walk w21 _ hM hG (⟨s21.2.1, s21.2.2⟩ : S_api_Addr) k _ H33) ?_
    rintro _ w33 ⟨rfl, hc33, hMn⟩ a ha
    have o1 : Ok [] ([g15] ++ ([g3] ++ (M))) w21.heap.size := Ok.nil _ _
    have o2 : Ok ([g15] ++ ([g3] ++ (M))) ([g15] ++ ([g3] ++ (M))) w21.heap.size := (Ok.refl _ _)
    have hG := hG.chg hc33 o1 o2
    have hBg3 := hBg3.chg hc33 (fun h => nomatch h)
    have hBg15 := hBg15.chg hc33 (fun h => nomatch h)
    have hM : MS ([g15] ++ ([g3] ++ (M))) w33 := (hM.chg hc33)
    have hC := hC.trans hc33 (Ok.nil _ _)
    refine sgh ha 3 [2, 2, 4] [(2, .pointer (some ⟨g3, 0, none⟩)), (4, .pointer (some ⟨g15, 0, none⟩)), (28, .bool (!((bstr t33).toList == (bstr a0).toList)))] (by kernel_rfl) fun a ha => ?_
    obtain rfl := Option.some.inj H
    exact J24 _ _ (ha.sel (by kernel_rfl)) hBg3 hBg15 hG hC hM
  have H := H21
  refine wp_seq_k fun K34 hK34 => ?_
  refine wp_region_lit ?_
  refine seg ha 2 [(0, .string (bstr a0)), (2, .pointer (some ⟨g3, 0, none⟩)), (4, .pointer (some ⟨g15, 0, none⟩)), (5, .bool t13.2), (15, .bool (!t13.2))] (by kernel_rfl) fun a ha => ?_
  refine hK34 _ _ ?_; try clear hK34 K34
  refine cnd ha rfl (fun hc35 => ?_) (fun hc35 => ?_)
  ·have H := ite_t hc35 H
   refine wp_region_lit ?_
   refine seg ha 1 [(0, .string (bstr a0)), (2, .pointer (some ⟨g3, 0, none⟩)), (4, .pointer (some ⟨g15, 0, none⟩)), (17, .string (bstr a0))] (by kernel_rfl) fun a ha => ?_
   obtain ⟨t36, H36, H⟩ := bind_some H
   refine cl ha (by rfl) (by kernel_rfl) (by rfl) (by rfl) (by rfl) (addr_read6.walk w18 _ hM hG a0 k _ H36) ?_
   rintro _ w36 ⟨rfl, hc36, hMn⟩ a ha
   have o1 : Ok [] ([g15] ++ ([g3] ++ (M))) w18.heap.size := Ok.nil _ _
   have o2 : Ok ([g15] ++ ([g3] ++ (M))) ([g15] ++ ([g3] ++ (M))) w18.heap.size := (Ok.refl _ _)
   have hG := hG.chg hc36 o1 o2
   have hBg3 := hBg3.chg hc36 (fun h => nomatch h)
   have hBg15 := hBg15.chg hc36 (fun h => nomatch h)
   have hM : MS ([g15] ++ ([g3] ++ (M))) w36 := (hM.chg hc36)
   have hC := hC.trans hc36 (Ok.nil _ _)
   refine seg ha 3 [(0, .string (bstr a0)), (2, .pointer (some ⟨g3, 0, none⟩)), (4, .pointer (some ⟨g15, 0, none⟩)), (19, .agg (cS_api_Addr t36.1).toArray), (20, .bool t36.2)] (by kernel_rfl) fun a ha => ?_
   refine stA (l := (cS_api_Addr t36.1)) ha rfl rfl rfl (by kernel_rfl) rfl rfl hBg15 rfl fun a w37 ha hb2 hc38 _ => ?_
   have o1 : Ok [g15] ([g15] ++ ([g3] ++ (M))) w36.heap.size := (fun _ h => .inl (ml h))
   have o2 : Ok ([g15] ++ ([g3] ++ (M))) ([g15] ++ ([g3] ++ (M))) w36.heap.size := (Ok.refl _ _)
   have hG := hG.chg hc38 o1 o2
   have hBg3 := hBg3.chg hc38 ((fun x (hx : x ∈ [g3]) (hy : x ∈ [g15]) => p_i17_i5 x hy hx) g3 (by simp))
   have hM : MS ([g15] ++ ([g3] ++ (M))) w37 := (hM.chg hc38)
   have hC := hC.trans hc38 (fun x h => .inr (e_i17 x h))
   have hBg15 : Box w37 g15 (cS_api_Addr t36.1) := hb2
   refine seg ha 1 [(0, .string (bstr a0)), (2, .pointer (some ⟨g3, 0, none⟩)), (4, .pointer (some ⟨g15, 0, none⟩)), (5, .bool t36.2)] (by kernel_rfl) fun a ha => ?_
   obtain rfl := Option.some.inj H
   exact J21 _ _ (ha.sel (by kernel_rfl)) hBg3 hBg15 hG hC hM
  ·have H := ite_f hc35 H
   refine wp_skip ?_
   obtain rfl := Option.some.inj H
   exact J21 _ _ (ha.sel (by kernel_rfl)) hBg3 hBg15 hG hC hM
def rd_known.f (k : Nat) (a0 : List UInt8) (a1 : List UInt8) (a2 : List UInt8) : Option (List Int × Bool) := (rd_number.f k a0).bind fun t7 => (rd_number.f k a2).bind fun t9 => (rd_number.f k a1).bind fun t11 => ((if (t7.1 == (1 : Int)) = true then (addr_Parse.f k a1).bind fun t28 => (addr_Bytes.f k t28.1).bind fun t36 => (cursor_Open.f t36).bind fun t38 => ((cursor_Reader_Num.f k t38 (4 : Int)).bind fun t47 => (if (t28.2 == (0 : Int)) = true then some ((t28.1.Size == (4 : Int) : Bool), (t47.1 : Int), (t47.2.rest.left : List Int), (t47.2.rest.bad : Bool)) else some ((false : Bool), (t47.1 : Int), (t47.2.rest.left : List Int), (t47.2.rest.bad : Bool)))).bind fun s44 => some ((s44.2.1 : Int), (s44.1 : Bool)) else some ((t11.1 : Int), (t11.2 : Bool)))).bind fun s13 => (rd_Make.f k t7.1 s13.1 t9.1).bind fun t15 => some ((t15.1 : List Int), (if (if (if t7.2 = true then t9.2 else false) = true then s13.2 else false) = true then (t15.2 == (0 : Int)) else false : Bool))
set_option maxRecDepth 100000 in
theorem rd_known.walk (w : World) (M : List Nat) (hM : MS M w) (hG : GF w M) (a0 : List UInt8) (a1 : List UInt8) (a2 : List UInt8) (k : Nat) (r : List Int × Bool) (H : rd_known.f k a0 a1 a2 = some r) :
    To Tryz.prog 90 [.string (bstr a0), .string (bstr a1), .string (bstr a2)] w fun v w' => v = .tuple #[.agg (cA .u8 8 r.1).toArray, .bool r.2] ∧ Chg [] w w' ∧ MS (M) w' := by
 unfold rd_known.f at H
 refine ent Tryz.func90 rfl [(0, .string (bstr a0)), (1, .string (bstr a1)), (2, .string (bstr a2))] rfl (by rfl) fun a ha => ?_
 have hC : Chg [] w w := Chg.refl _ _
 refine wp_seq_k fun K1 hK1 => ?_
 refine wp_region_lit ?_
 refine al (cs := (cA .u8 8 (List.replicate 8 (0 : Int)))) (z := .agg (cA .u8 8 (List.replicate 8 (0 : Int))).toArray) ha (fun w => by kernel_rfl) rfl rfl rfl rfl fun a w2 g3 hN4 ha => ?_
 have o1 : Ok [] (M) w.heap.size := Ok.nil _ _
 have o2 : Ok ([g3] ++ (M)) (M) w.heap.size := (Ok.app (hN4.ok _) (Ok.refl _ _))
 have hG := hG.chg hN4.chg o1 o2
 have p_i5_M : ∀ x ∈ [g3], x ∉ M := fun x hx hy => absurd (hM x (hy)) (Nat.not_lt.2 ((hN4.ge1) x hx))
 have e_i5 : ∀ x ∈ [g3], w.heap.size ≤ x := fun x hx => Nat.le_trans hC.size ((hN4.ge1) x hx)
 have hM : MS ([g3] ++ (M)) w2 := (MS.app hN4.ms (hM.chg hN4.chg))
 have hC := hC.trans hN4.chg (Ok.nil _ _)
 have hBg3 : Box w2 g3 (cA .u8 8 (List.replicate 8 (0 : Int))) := hN4.box
 refine seg ha 1 [(0, .string (bstr a0)), (1, .string (bstr a1)), (2, .string (bstr a2)), (6, .pointer (some ⟨g3, 0, none⟩))] (by kernel_rfl) fun a ha => ?_
 refine hK1 _ _ ?_; try clear hK1 K1
 refine wp_seq_k fun K6 hK6 => ?_
 refine wp_region_lit ?_
 refine seg ha 1 [(1, .string (bstr a1)), (2, .string (bstr a2)), (6, .pointer (some ⟨g3, 0, none⟩)), (20, .string (bstr a0))] (by kernel_rfl) fun a ha => ?_
 obtain ⟨t7, H7, H⟩ := bind_some H
 refine cl ha (by rfl) (by kernel_rfl) (by rfl) (by rfl) (by rfl) (rd_number.walk w2 _ hM a0 k _ H7) ?_
 rintro _ w7 ⟨rfl, hc7, hMn⟩ a ha
 have o1 : Ok [] ([g3] ++ (M)) w2.heap.size := Ok.nil _ _
 have o2 : Ok ([g3] ++ (M)) ([g3] ++ (M)) w2.heap.size := (Ok.refl _ _)
 have hG := hG.chg hc7 o1 o2
 have hBg3 := hBg3.chg hc7 (fun h => nomatch h)
 have hM : MS ([g3] ++ (M)) w7 := (hM.chg hc7)
 have hC := hC.trans hc7 (Ok.nil _ _)
 refine seg ha 5 [(1, .string (bstr a1)), (2, .string (bstr a2)), (6, .pointer (some ⟨g3, 0, none⟩)), (8, .int .i64 t7.1), (9, .bool t7.2)] (by kernel_rfl) fun a ha => ?_
 refine hK6 _ _ ?_; try clear hK6 K6
 refine wp_seq_k fun K8 hK8 => ?_
 refine wp_region_lit ?_
 refine seg ha 1 [(1, .string (bstr a1)), (6, .pointer (some ⟨g3, 0, none⟩)), (8, .int .i64 t7.1), (9, .bool t7.2), (25, .string (bstr a2))] (by kernel_rfl) fun a ha => ?_
 obtain ⟨t9, H9, H⟩ := bind_some H
 refine cl ha (by rfl) (by kernel_rfl) (by rfl) (by rfl) (by rfl) (rd_number.walk w7 _ hM a2 k _ H9) ?_
 rintro _ w9 ⟨rfl, hc9, hMn⟩ a ha
 have o1 : Ok [] ([g3] ++ (M)) w7.heap.size := Ok.nil _ _
 have o2 : Ok ([g3] ++ (M)) ([g3] ++ (M)) w7.heap.size := (Ok.refl _ _)
 have hG := hG.chg hc9 o1 o2
 have hBg3 := hBg3.chg hc9 (fun h => nomatch h)
 have hM : MS ([g3] ++ (M)) w9 := (hM.chg hc9)
 have hC := hC.trans hc9 (Ok.nil _ _)
 refine seg ha 5 [(1, .string (bstr a1)), (6, .pointer (some ⟨g3, 0, none⟩)), (8, .int .i64 t7.1), (9, .bool t7.2), (10, .int .i64 t9.1), (11, .bool t9.2)] (by kernel_rfl) fun a ha => ?_
 refine hK8 _ _ ?_; try clear hK8 K8
 refine wp_seq_k fun K10 hK10 => ?_
 refine wp_region_lit ?_
 refine seg ha 1 [(1, .string (bstr a1)), (6, .pointer (some ⟨g3, 0, none⟩)), (8, .int .i64 t7.1), (9, .bool t7.2), (10, .int .i64 t9.1), (11, .bool t9.2), (30, .string (bstr a1))] (by kernel_rfl) fun a ha => ?_
 obtain ⟨t11, H11, H⟩ := bind_some H
 refine cl ha (by rfl) (by kernel_rfl) (by rfl) (by rfl) (by rfl) (rd_number.walk w9 _ hM a1 k _ H11) ?_
 rintro _ w11 ⟨rfl, hc11, hMn⟩ a ha
 have o1 : Ok [] ([g3] ++ (M)) w9.heap.size := Ok.nil _ _
 have o2 : Ok ([g3] ++ (M)) ([g3] ++ (M)) w9.heap.size := (Ok.refl _ _)
 have hG := hG.chg hc11 o1 o2
 have hBg3 := hBg3.chg hc11 (fun h => nomatch h)
 have hM : MS ([g3] ++ (M)) w11 := (hM.chg hc11)
 have hC := hC.trans hc11 (Ok.nil _ _)
 refine seg ha 5 [(1, .string (bstr a1)), (6, .pointer (some ⟨g3, 0, none⟩)), (8, .int .i64 t7.1), (9, .bool t7.2), (10, .int .i64 t9.1), (11, .bool t9.2), (12, .int .i64 t11.1), (13, .bool t11.2)] (by kernel_rfl) fun a ha => ?_
 refine hK10 _ _ ?_; try clear hK10 K10
 refine wp_seq_k fun K12 hK12 => ?_
 obtain ⟨s13, H13, H⟩ := bind_some H
 have J13 : ∀ (a : Act) (w13 : World), Has a Tryz.f90.ntmps [(6, .pointer (some ⟨g3, 0, none⟩)), (8, .int .i64 t7.1), (9, .bool t7.2), (10, .int .i64 t9.1), (11, .bool t9.2), (12, .int .i64 s13.1), (13, .bool s13.2)] → (Box w13 g3 (cA .u8 8 (List.replicate 8 (0 : Int)))) → (GF w13 ([g3] ++ (M))) → (Chg [] w w13) → (MS ([g3] ++ (M)) w13) → K12 a w13 := by
  intro a w13 ha hBg3 hG hC hM
  refine hK12 _ _ ?_; try clear hK12 K12
  refine wp_seq_k fun K14 hK14 => ?_
  refine wp_region_lit ?_
  refine seg ha 3 [(6, .pointer (some ⟨g3, 0, none⟩)), (9, .bool t7.2), (11, .bool t9.2), (13, .bool s13.2), (54, .int .i64 t7.1), (55, .int .i64 s13.1), (56, .int .i64 t9.1)] (by kernel_rfl) fun a ha => ?_
  obtain ⟨t15, H15, H⟩ := bind_some H
  refine cl ha (by rfl) (by kernel_rfl) (by rfl) (by rfl) (by rfl) (rd_Make.walk w13 _ hM t7.1 s13.1 t9.1 k _ H15) ?_
  rintro _ w15 ⟨rfl, hc15, hMn⟩ a ha
  have o1 : Ok [] ([g3] ++ (M)) w13.heap.size := Ok.nil _ _
  have o2 : Ok ([g3] ++ (M)) ([g3] ++ (M)) w13.heap.size := (Ok.refl _ _)
  have hG := hG.chg hc15 o1 o2
  have hBg3 := hBg3.chg hc15 (fun h => nomatch h)
  have hM : MS ([g3] ++ (M)) w15 := (hM.chg hc15)
  have hC := hC.trans hc15 (Ok.nil _ _)
  refine seg ha 3 [(6, .pointer (some ⟨g3, 0, none⟩)), (9, .bool t7.2), (11, .bool t9.2), (13, .bool s13.2), (58, .agg (cA .u8 8 t15.1).toArray), (59, .int .i64 t15.2)] (by kernel_rfl) fun a ha => ?_
  refine al (cs := (cA .u8 8 (List.replicate 8 (0 : Int)))) (z := .agg (cA .u8 8 (List.replicate 8 (0 : Int))).toArray) ha (fun w => by kernel_rfl) rfl rfl rfl rfl fun a w16 g17 hN18 ha => ?_
  have o1 : Ok [] ([g3] ++ (M)) w15.heap.size := Ok.nil _ _
  have o2 : Ok ([g17] ++ ([g3] ++ (M))) ([g3] ++ (M)) w15.heap.size := (Ok.app (hN18.ok _) (Ok.refl _ _))
  have hG := hG.chg hN18.chg o1 o2
  have hBg3 := hBg3.chg hN18.chg (fun h => nomatch h)
  have p_i19_i5 : ∀ x ∈ [g17], x ∉ ([g3]) := fun x hx hy => absurd (hM x (ml hy)) (Nat.not_lt.2 ((hN18.ge1) x hx))
  have p_i19_M : ∀ x ∈ [g17], x ∉ M := fun x hx hy => absurd (hM x (mr (hy))) (Nat.not_lt.2 ((hN18.ge1) x hx))
  have e_i19 : ∀ x ∈ [g17], w.heap.size ≤ x := fun x hx => Nat.le_trans hC.size ((hN18.ge1) x hx)
  have hM : MS ([g17] ++ ([g3] ++ (M))) w16 := (MS.app hN18.ms (hM.chg hN18.chg))
  have hC := hC.trans hN18.chg (Ok.nil _ _)
  have hBg17 : Box w16 g17 (cA .u8 8 (List.replicate 8 (0 : Int))) := hN18.box
  refine stA (l := (cA .u8 8 t15.1)) ha rfl rfl rfl (by kernel_rfl) rfl rfl hBg17 rfl fun a w20 ha hb2 hc21 _ => ?_
  have o1 : Ok [g17] ([g17] ++ ([g3] ++ (M))) w16.heap.size := (fun _ h => .inl (ml h))
  have o2 : Ok ([g17] ++ ([g3] ++ (M))) ([g17] ++ ([g3] ++ (M))) w16.heap.size := (Ok.refl _ _)
  have hG := hG.chg hc21 o1 o2
  have hBg3 := hBg3.chg hc21 ((fun x (hx : x ∈ [g3]) (hy : x ∈ [g17]) => p_i19_i5 x hy hx) g3 (by simp))
  have hM : MS ([g17] ++ ([g3] ++ (M))) w20 := (hM.chg hc21)
  have hC := hC.trans hc21 (fun x h => .inr (e_i19 x h))
  have hBg17 : Box w20 g17 (cA .u8 8 t15.1) := hb2
  refine seg ha 1 [(6, .pointer (some ⟨g3, 0, none⟩)), (9, .bool t7.2), (11, .bool t9.2), (13, .bool s13.2), (17, .pointer (some ⟨g17, 0, none⟩)), (18, .int .i64 t15.2)] (by kernel_rfl) fun a ha => ?_
  refine hK14 _ _ ?_; try clear hK14 K14
  refine wp_seq_k fun K22 hK22 => ?_
  refine wp_region_lit ?_
  refine ldA (cs := (cA .u8 8 t15.1)) ha rfl (by kernel_rfl) rfl rfl rfl (cells_sub (Box.cells hBg17) (all := (cA .u8 8 t15.1)) [] [] (by kernel_rfl)) fun a ha => ?_
  refine seg ha 11 [(6, .pointer (some ⟨g3, 0, none⟩)), (60, .agg (cA .u8 8 t15.1).toArray), (71, .bool (if (if (if t7.2 = true then t9.2 else false) = true then s13.2 else false) = true then (t15.2 == (0 : Int)) else false))] (by kernel_rfl) fun a ha => ?_
  refine stA (l := (cA .u8 8 t15.1)) ha rfl rfl rfl (by kernel_rfl) rfl rfl hBg3 rfl fun a w23 ha hb2 hc24 _ => ?_
  have o1 : Ok [g3] ([g17] ++ ([g3] ++ (M))) w20.heap.size := (fun _ h => .inl (mr (ml h)))
  have o2 : Ok ([g17] ++ ([g3] ++ (M))) ([g17] ++ ([g3] ++ (M))) w20.heap.size := (Ok.refl _ _)
  have hG := hG.chg hc24 o1 o2
  have hBg17 := hBg17.chg hc24 (p_i19_i5 g17 (by simp))
  have hM : MS ([g17] ++ ([g3] ++ (M))) w23 := (hM.chg hc24)
  have hC := hC.trans hc24 (fun x h => .inr (e_i5 x h))
  have hBg3 : Box w23 g3 (cA .u8 8 t15.1) := hb2
  refine seg ha 1 [(6, .pointer (some ⟨g3, 0, none⟩)), (7, .bool (if (if (if t7.2 = true then t9.2 else false) = true then s13.2 else false) = true then (t15.2 == (0 : Int)) else false))] (by kernel_rfl) fun a ha => ?_
  refine hK22 _ _ ?_; try clear hK22 K22
  refine wp_ret ?_
  try simp only [Exit.then, Exit.inBlock]
  have o1 : Ok [] ([g17] ++ ([g3] ++ (M))) w23.heap.size := Ok.nil _ _
  have o2 : Ok (M) ([g17] ++ ([g3] ++ (M))) w23.heap.size := (fun _ h => .inl (mr (mr (h))))
  have hG := hG.chg (Chg.refl [] _) o1 o2
  have hM : MS (M) w23 := (fun x h => hM.chg (Chg.refl [] _) x (mr (mr (h))))
  obtain rfl := Option.some.inj H
  refine rtr ha (res2 rfl (roA ha rfl hBg3 (by kernel_rfl)) (roT ha rfl)) ?_
  exact ⟨rfl, hC, hM⟩
 have H := H13
 refine wp_seq_k fun K25 hK25 => ?_
 refine wp_region_lit ?_
 refine seg ha 2 [(1, .string (bstr a1)), (6, .pointer (some ⟨g3, 0, none⟩)), (8, .int .i64 t7.1), (9, .bool t7.2), (10, .int .i64 t9.1), (11, .bool t9.2), (12, .int .i64 t11.1), (13, .bool t11.2), (35, .bool (t7.1 == (1 : Int)))] (by kernel_rfl) fun a ha => ?_
 refine hK25 _ _ ?_; try clear hK25 K25
 refine cnd ha rfl (fun hc26 => ?_) (fun hc26 => ?_)
 ·have H := ite_t hc26 H
  refine wp_seq_k fun K27 hK27 => ?_
  refine wp_region_lit ?_
  refine seg ha 1 [(6, .pointer (some ⟨g3, 0, none⟩)), (8, .int .i64 t7.1), (9, .bool t7.2), (10, .int .i64 t9.1), (11, .bool t9.2), (37, .string (bstr a1))] (by kernel_rfl) fun a ha => ?_
  obtain ⟨t28, H28, H⟩ := bind_some H
  refine cl ha (by rfl) (by kernel_rfl) (by rfl) (by rfl) (by rfl) (addr_Parse.walk w11 _ hM hG a1 k _ H28) ?_
  rintro _ w28 ⟨rfl, hc28, hMn⟩ a ha
  have o1 : Ok [] ([g3] ++ (M)) w11.heap.size := Ok.nil _ _
  have o2 : Ok ([g3] ++ (M)) ([g3] ++ (M)) w11.heap.size := (Ok.refl _ _)
  have hG := hG.chg hc28 o1 o2
  have hBg3 := hBg3.chg hc28 (fun h => nomatch h)
  have hM : MS ([g3] ++ (M)) w28 := (hM.chg hc28)
  have hC := hC.trans hc28 (Ok.nil _ _)
  refine seg ha 3 [(6, .pointer (some ⟨g3, 0, none⟩)), (8, .int .i64 t7.1), (9, .bool t7.2), (10, .int .i64 t9.1), (11, .bool t9.2), (39, .agg (cS_api_Addr t28.1).toArray), (40, .int .i64 t28.2)] (by kernel_rfl) fun a ha => ?_
  refine al (cs := (cS_api_Addr (⟨(0 : Int), (List.replicate 16 (0 : Int))⟩ : S_api_Addr))) (z := .agg (cS_api_Addr (⟨(0 : Int), (List.replicate 16 (0 : Int))⟩ : S_api_Addr)).toArray) ha (fun w => by kernel_rfl) rfl rfl rfl rfl fun a w29 g30 hN31 ha => ?_
  have o1 : Ok [] ([g3] ++ (M)) w28.heap.size := Ok.nil _ _
  have o2 : Ok ([g30] ++ ([g3] ++ (M))) ([g3] ++ (M)) w28.heap.size := (Ok.app (hN31.ok _) (Ok.refl _ _))
  have hG := hG.chg hN31.chg o1 o2
  have hBg3 := hBg3.chg hN31.chg (fun h => nomatch h)
  have p_i32_i5 : ∀ x ∈ [g30], x ∉ ([g3]) := fun x hx hy => absurd (hM x (ml hy)) (Nat.not_lt.2 ((hN31.ge1) x hx))
  have p_i32_M : ∀ x ∈ [g30], x ∉ M := fun x hx hy => absurd (hM x (mr (hy))) (Nat.not_lt.2 ((hN31.ge1) x hx))
  have e_i32 : ∀ x ∈ [g30], w.heap.size ≤ x := fun x hx => Nat.le_trans hC.size ((hN31.ge1) x hx)
  have hM : MS ([g30] ++ ([g3] ++ (M))) w29 := (MS.app hN31.ms (hM.chg hN31.chg))
  have hC := hC.trans hN31.chg (Ok.nil _ _)
  have hBg30 : Box w29 g30 (cS_api_Addr (⟨(0 : Int), (List.replicate 16 (0 : Int))⟩ : S_api_Addr)) := hN31.box
  refine stA (l := (cS_api_Addr t28.1)) ha rfl rfl rfl (by kernel_rfl) rfl rfl hBg30 rfl fun a w33 ha hb2 hc34 _ => ?_
  have o1 : Ok [g30] ([g30] ++ ([g3] ++ (M))) w29.heap.size := (fun _ h => .inl (ml h))
  have o2 : Ok ([g30] ++ ([g3] ++ (M))) ([g30] ++ ([g3] ++ (M))) w29.heap.size := (Ok.refl _ _)
  have hG := hG.chg hc34 o1 o2
  have hBg3 := hBg3.chg hc34 ((fun x (hx : x ∈ [g3]) (hy : x ∈ [g30]) => p_i32_i5 x hy hx) g3 (by simp))
  have hM : MS ([g30] ++ ([g3] ++ (M))) w33 := (hM.chg hc34)
  have hC := hC.trans hc34 (fun x h => .inr (e_i32 x h))
  have hBg30 : Box w33 g30 (cS_api_Addr t28.1) := hb2
  refine seg ha 1 [(6, .pointer (some ⟨g3, 0, none⟩)), (8, .int .i64 t7.1), (9, .bool t7.2), (10, .int .i64 t9.1), (11, .bool t9.2), (14, .pointer (some ⟨g30, 0, none⟩)), (15, .int .i64 t28.2)] (by kernel_rfl) fun a ha => ?_
  refine hK27 _ _ ?_; try clear hK27 K27
  refine wp_seq_k fun K35 hK35 => ?_
  refine wp_region_lit ?_
  refine ldA (cs := (cS_api_Addr t28.1)) ha rfl (by kernel_rfl) rfl rfl rfl (cells_sub (Box.cells hBg30) (all := (cS_api_Addr t28.1)) [] [] (by kernel_rfl)) fun a ha => ?_
  obtain ⟨t36, H36, H⟩ := bind_some H
  refine cl ha (by rfl) (by kernel_rfl) (by rfl) (by rfl) (by rfl) (addr_Bytes.walk w33 _ hM t28.1 k _ H36) ?_
  rintro _ w36 ⟨ao37, cap37, rfl, f37, ne_i37, hc36, hMn⟩ a ha
  have o1 : Ok [] ([g30] ++ ([g3] ++ (M))) w33.heap.size := Ok.nil _ _
  have o2 : Ok (blkL ao37 ++ ([g30] ++ ([g3] ++ (M)))) ([g30] ++ ([g3] ++ (M))) w33.heap.size := (Ok.app (fun x h => .inr (ne_i37 x h)) (Ok.refl _ _))
  have hG := hG.chg hc36 o1 o2
  have hBg3 := hBg3.chg hc36 (fun h => nomatch h)
  have hBg30 := hBg30.chg hc36 (fun h => nomatch h)
  have p_i37_i32 : ∀ x ∈ blkL ao37, x ∉ ([g30]) := fun x hx hy => absurd (hM x (ml hy)) (Nat.not_lt.2 (ne_i37 x hx))
  have p_i37_i5 : ∀ x ∈ blkL ao37, x ∉ ([g3]) := fun x hx hy => absurd (hM x (mr (ml hy))) (Nat.not_lt.2 (ne_i37 x hx))
  have p_i37_M : ∀ x ∈ blkL ao37, x ∉ M := fun x hx hy => absurd (hM x (mr (mr (hy)))) (Nat.not_lt.2 (ne_i37 x hx))
  have e_i37 : ∀ x ∈ blkL ao37, w.heap.size ≤ x := fun x hx => Nat.le_trans hC.size (ne_i37 x hx)
  have hM : MS (blkL ao37 ++ ([g30] ++ ([g3] ++ (M)))) w36 := (MS.app (fun x h => hMn x (ml h)) (hM.chg hc36))
  have hC := hC.trans hc36 (Ok.nil _ _)
  have fz := f37.toRSl (M' := [g30] ++ ([g3] ++ (M))) (fun _ h => .inl (mr (h))) (fun x hx hm => (List.mem_append.1 hm).elim (fun h => p_i37_i32 x hx h) (fun h => (List.mem_append.1 h).elim (fun h => p_i37_i5 x hx h) (fun h => p_i37_M x hx h)))
  have o1 : Ok [] (blkL ao37 ++ ([g30] ++ ([g3] ++ (M)))) w36.heap.size := Ok.nil _ _
  have o2 : Ok ([g30] ++ ([g3] ++ (M))) (blkL ao37 ++ ([g30] ++ ([g3] ++ (M)))) w36.heap.size := (fun _ h => .inl (mr (h)))
  have hG := hG.chg (Chg.refl [] _) o1 o2
  have hM : MS ([g30] ++ ([g3] ++ (M))) w36 := (fun x h => hM.chg (Chg.refl [] _) x (mr (h)))
  have f37 := fz
  obtain ⟨t38, H38, H⟩ := bind_some H
  refine cl ha (by rfl) (by kernel_rfl) (by rfl) (by rfl) (by rfl) (cursor_Open.walk w36 _ hM t36 ao37 cap37 f37 _ H38) ?_
  rintro _ w38 ⟨g39, ao41, cap41, rfl, f41, hBg39, ne_i40, hc38, hMn⟩ a ha
  have o1 : Ok [] ([g30] ++ ([g3] ++ (M))) w36.heap.size := Ok.nil _ _
  have o2 : Ok ([g39] ++ ([g30] ++ ([g3] ++ (M)))) ([g30] ++ ([g3] ++ (M))) w36.heap.size := (Ok.app (fun x h => .inr (ne_i40 x h)) (Ok.refl _ _))
  have hG := hG.chg hc38 o1 o2
  have f37 := f37.chg hc38 o1 o2
  have hBg3 := hBg3.chg hc38 (fun h => nomatch h)
  have hBg30 := hBg30.chg hc38 (fun h => nomatch h)
  have p_i40_i32 : ∀ x ∈ [g39], x ∉ ([g30]) := fun x hx hy => absurd (hM x (ml hy)) (Nat.not_lt.2 (ne_i40 x hx))
  have p_i40_i5 : ∀ x ∈ [g39], x ∉ ([g3]) := fun x hx hy => absurd (hM x (mr (ml hy))) (Nat.not_lt.2 (ne_i40 x hx))
  have p_i40_M : ∀ x ∈ [g39], x ∉ M := fun x hx hy => absurd (hM x (mr (mr (hy)))) (Nat.not_lt.2 (ne_i40 x hx))
  have e_i40 : ∀ x ∈ [g39], w.heap.size ≤ x := fun x hx => Nat.le_trans hC.size (ne_i40 x hx)
  have hM : MS ([g39] ++ ([g30] ++ ([g3] ++ (M)))) w38 := (MS.app (fun x h => hMn x (ml h)) (hM.chg hc38))
  have hC := hC.trans hc38 (Ok.nil _ _)
  refine seg ha 1 [(6, .pointer (some ⟨g3, 0, none⟩)), (8, .int .i64 t7.1), (9, .bool t7.2), (10, .int .i64 t9.1), (11, .bool t9.2), (14, .pointer (some ⟨g30, 0, none⟩)), (15, .int .i64 t28.2), (16, .pointer (some ⟨g39, 0, none⟩))] (by kernel_rfl) fun a ha => ?_
  refine hK35 _ _ ?_; try clear hK35 K35
  have okS : Ok ([g39]) ([g39] ++ ([g30] ++ ([g3] ++ (M)))) w38.heap.size := (fun _ h => .inl (ml h))
  have z_f41 := f41
  have z_hBg3 := hBg3
  have z_hBg30 := hBg30
  refine drw (fun w' => Chg ([g39]) w38 w') (by kernel_rfl) fun w42 hc43 _ => ?_
  have hS : Chg ([g39]) w38 w42 := (Chg.refl ([g39]) _).trans hc43 (Ok.nil _ _)
  have o1 : Ok [] ([g39] ++ ([g30] ++ ([g3] ++ (M)))) w38.heap.size := Ok.nil _ _
  have o2 : Ok ([g39] ++ ([g30] ++ ([g3] ++ (M)))) ([g39] ++ ([g30] ++ ([g3] ++ (M)))) w38.heap.size := (Ok.refl _ _)
  have hG := hG.chg hc43 o1 o2
  have f41 := f41.chg hc43 o1 o2
  have hBg3 := hBg3.chg hc43 (fun h => nomatch h)
  have hBg30 := hBg30.chg hc43 (fun h => nomatch h)
  have hBg39 := hBg39.chg hc43 (fun h => nomatch h)
  have hM : MS ([g39] ++ ([g30] ++ ([g3] ++ (M)))) w42 := (hM.chg hc43)
  have hC := hC.trans hc43 (Ok.nil _ _)
  obtain ⟨s44, H44, H⟩ := bind_some H
  have J44 : ∀ (a : Act) (w44 : World) (ao45 : Option Addr) (cap45 : Nat), Has a Tryz.f90.ntmps [(6, .pointer (some ⟨g3, 0, none⟩)), (8, .int .i64 t7.1), (9, .bool t7.2), (10, .int .i64 t9.1), (11, .bool t9.2), (12, .int .i64 s44.2.1), (13, .bool s44.1)] → (RSl (rInt .u8) 5 w44 ([g39] ++ ([g30] ++ ([g3] ++ (M)))) ao45 cap45 s44.2.2.1) → (Box w44 g3 (cA .u8 8 (List.replicate 8 (0 : Int)))) → (Box w44 g30 (cS_api_Addr t28.1)) → (Box w44 g39 (cS_cursor_Reader (⟨(⟨s44.2.2.1, s44.2.2.2⟩ : S_cursor_rest)⟩ : S_cursor_Reader) ao45 cap45)) → (GF w44 ([g39] ++ ([g30] ++ ([g3] ++ (M))))) → (Chg [] w w44) → (MS ([g39] ++ ([g30] ++ ([g3] ++ (M)))) w44) → K12 a w44 := by
   intro a w44 ao45 cap45 ha f45 hBg3 hBg30 hBg39 hG hC hM
   obtain rfl := Option.some.inj H
   have o1 : Ok [] ([g39] ++ ([g30] ++ ([g3] ++ (M)))) w44.heap.size := Ok.nil _ _
   have o2 : Ok ([g3] ++ (M)) ([g39] ++ ([g30] ++ ([g3] ++ (M)))) w44.heap.size := (fun _ h => .inl (mr (mr (h))))
   have hG := hG.chg (Chg.refl [] _) o1 o2
   have f45 := f45.chg (Chg.refl [] _) o1 o2
   have hM : MS ([g3] ++ (M)) w44 := (fun x h => hM.chg (Chg.refl [] _) x (mr (mr (h))))
   exact J13 _ _ (ha.sel (by kernel_rfl)) hBg3 hG hC hM
  have H := H44
  refine tkpz 0 0 (.pointer (some ⟨g39, 0, none⟩)) ha (s := hS) (q := fun a ha => ?_)
  refine tkpz 2 0 (.int .i64 t28.2) ha (s := hS) (q := fun a ha => ?_)
  refine tkpz 3 0 (.bool (t28.2 == (0 : Int))) ha (s := hS) (q := fun a ha => ?_)
  refine ac 1 (by kernel_rfl) (by rfl) fun K46 hK46 => ?_
  obtain ⟨t47, H47, H⟩ := bind_some H
  refine cl ha (by rfl) (by kernel_rfl) (by rfl) (by rfl) (by rfl) (cursor_Reader_Num.walk w42 _ hM g39 t38 ao41 cap41 f41 hBg39 (ml (List.mem_singleton.2 rfl)) (4 : Int) k _ H47) ?_
  rintro _ w47 ⟨ao48, cap48, rfl, f48, qhBg39, hc47, hMn⟩ a ha
  have o1 : Ok [g39] ([g39] ++ ([g30] ++ ([g3] ++ (M)))) w42.heap.size := (fun _ h => .inl (ml h))
  have o2 : Ok ([g39] ++ ([g30] ++ ([g3] ++ (M)))) ([g39] ++ ([g30] ++ ([g3] ++ (M)))) w42.heap.size := (Ok.refl _ _)
  have hG := hG.chg hc47 o1 o2
  have f41 := f41.chg hc47 o1 o2
  have hBg3 := hBg3.chg hc47 ((fun x (hx : x ∈ [g3]) (hy : x ∈ [g39]) => p_i40_i5 x hy hx) g3 (by simp))
  have hBg30 := hBg30.chg hc47 ((fun x (hx : x ∈ [g30]) (hy : x ∈ [g39]) => p_i40_i32 x hy hx) g30 (by simp))
  have hM : MS ([g39] ++ ([g30] ++ ([g3] ++ (M)))) w47 := (hM.chg hc47)
  have hC := hC.trans hc47 (fun x h => .inr (e_i40 x h))
  have hS := hS.trans hc47 (fun x h => .inl (h))
  have hBg39 := qhBg39
  refine ae hK46 hS ?_; clear hK46 K46
  refine tkpz 4 0 (.bool (t28.2 == (0 : Int))) ha (s := hS) (q := fun a ha => ?_)
  refine tkpz 9 0 (.int .i64 t47.1) ha (s := hS) (q := fun a ha => ?_)
  have ha := ha.sel (env' := [(48, .bool (t28.2 == (0 : Int))), (6, .pointer (some ⟨g3, 0, none⟩)), (8, .int .i64 t7.1), (9, .bool t7.2), (10, .int .i64 t9.1), (11, .bool t9.2), (12, .int .i64 t47.1), (14, .pointer (some ⟨g30, 0, none⟩))]) (by kernel_rfl)
  rcases Bool.eq_false_or_eq_true (t28.2 == (0 : Int)) with hb49 | hb49
  ·have ha := ha.lit hb49
   have H := ite_t hb49 H
   refine tkpz 5 0 (.pointer (some ⟨g30, 0, none⟩)) ha (s := hS) (q := fun a ha => ?_)
   refine tkz 6 ha (v := .int .i64 t28.1.Size) (y := fun w' hs => ld_run ha rfl (by kernel_rfl) ((Box.chg z_hBg30 hs ((fun x (hx : x ∈ [g30]) (hy : x ∈ [g39]) => p_i40_i32 x hy hx) g30 (by simp))).cell' (o := 0) rfl (by kernel_rfl))) (s := hS) (q := fun a ha => ?_)
   refine tkpz 7 0 (.bool (t28.1.Size == (4 : Int))) ha (s := hS) (q := fun a ha => ?_)
   refine tkpz 8 3 (.bool (t28.1.Size == (4 : Int))) ha (s := hS) (q := fun a ha => ?_)
   refine tkpz 10 0 (.bool (t28.1.Size == (4 : Int))) ha (s := hS) (q := fun a ha => ?_)
   refine dn (by kernel_rfl) ?_
   obtain rfl := Option.some.inj H
   exact J44 _ _ ao48 cap48 (ha.sel (by kernel_rfl)) f48 hBg3 hBg30 hBg39 hG hC hM
  ·have ha := ha.lit hb49
   have H := ite_f hb49 H
   refine tkoz 5 ha (s := hS) (q := fun a ha => ?_)
   refine tkoz 6 ha (s := hS) (q := fun a ha => ?_)
   refine tkoz 7 ha (s := hS) (q := fun a ha => ?_)
   refine tkpz 8 4 (.bool false) ha (s := hS) (q := fun a ha => ?_)
   refine tkpz 10 0 (.bool false) ha (s := hS) (q := fun a ha => ?_)
   refine dn (by kernel_rfl) ?_
   obtain rfl := Option.some.inj H
   exact J44 _ _ ao48 cap48 (ha.sel (by kernel_rfl)) f48 hBg3 hBg30 hBg39 hG hC hM
 ·have H := ite_f hc26 H
  refine wp_skip ?_
  obtain rfl := Option.some.inj H
  exact J13 _ _ (ha.sel (by kernel_rfl)) hBg3 hG hC hM
end Go.E
