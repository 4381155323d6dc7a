/- What the functions that the law reaches compute, and the walks that show it. -/
import Derived.Test.YtoeenagdbjppgaaDoorEngO
import Derived.Test.YtoeenagdbjppgaaDoorProg
import Derived.Test.YtoeenagdbjppgaaDoorGenPmsiCodesP1
set_option linter.unusedVariables false
set_option linter.unusedSimpArgs false
namespace Go.E
open Go.RowKit Go.Proofs
def vineryref02_Multicast.f (k : Nat) (a0 : S_api_Addr) : Option (Bool) := (vineryref02_Right.f k a0).bind fun t8 => ((if t8 = true then (if (a0.Size == (4 : Int)) = true then (if (decide ((ar a0.B 0) ≥ (224 : Int))) = true then (if (decide ((ar a0.B 0) < (240 : Int))) = true then some (true : Bool) else (if (a0.Size == (16 : Int)) = true then some ((ar a0.B 0) == (255 : Int) : Bool) else some (false : Bool))) else (if (a0.Size == (16 : Int)) = true then some ((ar a0.B 0) == (255 : Int) : Bool) else some (false : Bool))) else (if (a0.Size == (16 : Int)) = true then some ((ar a0.B 0) == (255 : Int) : Bool) else some (false : Bool))) else some (false : Bool))).bind fun s10 => some ((s10 : Bool))
set_option maxRecDepth 100000 in
theorem vineryref02_Multicast.walk (w : World) (M : List Nat) (hM : MS M w) (a0 : S_api_Addr) (k : Nat) (r : Bool) (H : vineryref02_Multicast.f k a0 = some r) :
    To Tryd.prog 58 [.agg (cS_api_Addr a0).toArray] w fun v w' => v = .bool r ∧ Chg [] w w' ∧ MS (M) w' := by
 unfold vineryref02_Multicast.f at H
 refine ent Tryd.func58 rfl [(0, .agg (cS_api_Addr a0).toArray)] rfl (by rfl) fun a ha => ?_
 have hC : Chg [] w w := Chg.refl _ _
 refine wp_seq_k fun K1 hK1 => ?_
 refine wp_region_lit ?_
 refine bx (cs := (cS_api_Addr a0)) ha rfl rfl rfl rfl rfl fun a w2 g3 hN4 ha => ?_
 have hn6 := hN4.notin hM
 have hM : MS (M) w2 := (hM.chg hN4.chg)
 have hC := hC.trans hN4.chg (Ok.nil _ _)
 have hE5 : ∀ j v, (cS_api_Addr a0)[j]? = some v → w2.cell? ⟨g3, 0 + j, none⟩ = some v := Box.cells (New.box hN4)
 refine seg ha 1 [(1, .pointer (some ⟨g3, 0, none⟩))] (by kernel_rfl) fun a ha => ?_
 refine hK1 _ _ ?_; try clear hK1 K1
 refine wp_seq_k fun K7 hK7 => ?_
 refine wp_region_lit ?_
 refine ldA (cs := (cS_api_Addr a0)) ha rfl (by kernel_rfl) rfl rfl rfl (cells_sub hE5 (all := (cS_api_Addr a0)) [] [] (by kernel_rfl)) fun a ha => ?_
 obtain ⟨t8, H8, H⟩ := bind_some H
 refine cl ha (by rfl) (by kernel_rfl) (by rfl) (by rfl) (by rfl) (vineryref02_Right.walk w2 _ hM a0 k _ H8) ?_
 rintro _ w8 ⟨rfl, hc8, hMn⟩ a ha
 have o1 : Ok [] (M) w2.heap.size := Ok.nil _ _
 have o2 : Ok (M) (M) w2.heap.size := (Ok.refl _ _)
 have q_hn6 : g3 ∉ M := fun h => (o2 g3 h).elim hn6 (fun h => absurd (lt_cell (hE5 0 _ rfl)) (Nat.not_lt.2 h))
 have hE5 : ∀ j v, (cS_api_Addr a0)[j]? = some v → w8.cell? ⟨g3, 0 + j, none⟩ = some v := fun j v hv => (cell_keep hc8 o1 hn6 (hE5 j v hv))
 have hn6 := q_hn6
 have hM : MS (M) w8 := (hM.chg hc8)
 have hC := hC.trans hc8 (Ok.nil _ _)
 refine seg ha 1 [(1, .pointer (some ⟨g3, 0, none⟩)), (3, .bool t8)] (by kernel_rfl) fun a ha => ?_
 refine hK7 _ _ ?_; try clear hK7 K7
 refine wp_seq_k fun K9 hK9 => ?_
 refine wp_region_lit ?_
 obtain ⟨s10, H10, H⟩ := bind_some H
 have J10 : ∀ (a : Act) (w10 : World), Has a Tryd.f58.ntmps [(2, .bool s10)] → (Chg [] w w10) → (MS (M) w10) → K9 a w10 := by
  intro a w10 ha hC hM
  refine hK9 _ _ ?_; try clear hK9 K9
  refine wp_ret ?_
  try simp only [Exit.then, Exit.inBlock]
  obtain rfl := Option.some.inj H
  refine rt1 ha rfl rfl ?_
  exact ⟨rfl, hC, hM⟩
 have H := H10
 refine seg ha 2 [(7, .bool t8), (1, .pointer (some ⟨g3, 0, none⟩))] (by kernel_rfl) fun a ha => ?_
 rcases Bool.eq_false_or_eq_true (t8) with hb11 | hb11
 ·have ha := ha.lit hb11
  have H := ite_t hb11 H
  refine sgh ha 1 [2] [(1, .pointer (some ⟨g3, 0, none⟩)), (7, .bool true), (8, .pointer (some ⟨g3, 0, none⟩))] (by kernel_rfl) fun a ha => ?_
  refine ld ha rfl (by kernel_rfl) rfl rfl rfl (hE5 0 (.int .i64 a0.Size) (by kernel_rfl)) fun a ha => ?_
  refine sgh ha 2 [2, 2] [(11, .bool (a0.Size == (4 : Int))), (1, .pointer (some ⟨g3, 0, none⟩)), (7, .bool true)] (by kernel_rfl) fun a ha => ?_
  rcases Bool.eq_false_or_eq_true (a0.Size == (4 : Int)) with hb12 | hb12
  ·have ha := ha.lit hb12
   have H := ite_t hb12 H
   refine sgh ha 1 [2] [(1, .pointer (some ⟨g3, 0, none⟩)), (7, .bool true), (11, .bool true), (12, .pointer (some ⟨g3, 0 + 1, none⟩))] (by kernel_rfl) fun a ha => ?_
   have hE13 : ∀ j v, ([.int .u8 (ar a0.B 0)] : List Value)[j]? = some v → w8.cell? ⟨g3, (0 + 1 + 0) + j, none⟩ = some v := cellA (m := 16) [.int .i64 a0.Size] [] hE5 (by kernel_rfl) (by decide)
   have hn13 := hn6
   refine hop (v := .pointer (some ⟨g3, (0 + 1 + 0), none⟩)) (w' := w8) ha rfl rfl rfl (ixA_run (T := 5) (N := 16) (g := g3) (o' := 0 + 1) (k := .i64) (i := (0 : Int)) ha (by kernel_rfl) (by kernel_rfl) (by rfl) (by rfl) (by decide) (by decide) _) fun a ha => ?_
   refine ld ha rfl (by kernel_rfl) rfl rfl rfl (hE13 0 (.int .u8 (ar a0.B 0)) (by kernel_rfl)) fun a ha => ?_
   refine sgh ha 3 [2, 5, 2] [(17, .bool (decide ((ar a0.B 0) ≥ (224 : Int)))), (1, .pointer (some ⟨g3, 0, none⟩)), (7, .bool true)] (by kernel_rfl) fun a ha => ?_
   rcases Bool.eq_false_or_eq_true (decide ((ar a0.B 0) ≥ (224 : Int))) with hb14 | hb14
   ·have ha := ha.lit hb14
    have H := ite_t hb14 H
    refine sgh ha 1 [2] [(1, .pointer (some ⟨g3, 0, none⟩)), (7, .bool true), (17, .bool true), (18, .pointer (some ⟨g3, 0 + 1, none⟩))] (by kernel_rfl) fun a ha => ?_
    have hE15 : ∀ j v, ([.int .u8 (ar a0.B 0)] : List Value)[j]? = some v → w8.cell? ⟨g3, (0 + 1 + 0) + j, none⟩ = some v := cellA (m := 16) [.int .i64 a0.Size] [] hE5 (by kernel_rfl) (by decide)
    have hn15 := hn6
    refine hop (v := .pointer (some ⟨g3, (0 + 1 + 0), none⟩)) (w' := w8) ha rfl rfl rfl (ixA_run (T := 5) (N := 16) (g := g3) (o' := 0 + 1) (k := .i64) (i := (0 : Int)) ha (by kernel_rfl) (by kernel_rfl) (by rfl) (by rfl) (by decide) (by decide) _) fun a ha => ?_
    refine ld ha rfl (by kernel_rfl) rfl rfl rfl (hE15 0 (.int .u8 (ar a0.B 0)) (by kernel_rfl)) fun a ha => ?_
    refine sgh ha 3 [2, 5, 2] [(23, .bool (decide ((ar a0.B 0) < (240 : Int)))), (1, .pointer (some ⟨g3, 0, none⟩)), (7, .bool true)] (by kernel_rfl) fun a ha => ?_
    rcases Bool.eq_false_or_eq_true (decide ((ar a0.B 0) < (240 : Int))) with hb16 | hb16
    ·have ha := ha.lit hb16
     have H := ite_t hb16 H
     refine sgh ha 12 [1, 1, 1, 1, 1, 1, 1, 1, 1, 5, 3, 0] [(2, .bool true)] (by kernel_rfl) fun a ha => ?_
     obtain rfl := Option.some.inj H
     exact J10 _ _ (ha.sel (by kernel_rfl)) hC hM
    ·have ha := ha.lit hb16
     have H := ite_f hb16 H
     refine sgh ha 1 [2] [(1, .pointer (some ⟨g3, 0, none⟩)), (7, .bool true), (23, .bool false), (24, .pointer (some ⟨g3, 0, none⟩))] (by kernel_rfl) fun a ha => ?_
     refine ld ha rfl (by kernel_rfl) rfl rfl rfl (hE5 0 (.int .i64 a0.Size) (by kernel_rfl)) fun a ha => ?_
     refine sgh ha 2 [2, 2] [(27, .bool (a0.Size == (16 : Int))), (1, .pointer (some ⟨g3, 0, none⟩)), (7, .bool true), (23, .bool false)] (by kernel_rfl) fun a ha => ?_
     rcases Bool.eq_false_or_eq_true (a0.Size == (16 : Int)) with hb17 | hb17
     ·have ha := ha.lit hb17
      have H := ite_t hb17 H
      refine sgh ha 1 [2] [(7, .bool true), (23, .bool false), (27, .bool true), (28, .pointer (some ⟨g3, 0 + 1, none⟩))] (by kernel_rfl) fun a ha => ?_
      have hE18 : ∀ j v, ([.int .u8 (ar a0.B 0)] : List Value)[j]? = some v → w8.cell? ⟨g3, (0 + 1 + 0) + j, none⟩ = some v := cellA (m := 16) [.int .i64 a0.Size] [] hE5 (by kernel_rfl) (by decide)
      have hn18 := hn6
      refine hop (v := .pointer (some ⟨g3, (0 + 1 + 0), none⟩)) (w' := w8) ha rfl rfl rfl (ixA_run (T := 5) (N := 16) (g := g3) (o' := 0 + 1) (k := .i64) (i := (0 : Int)) ha (by kernel_rfl) (by kernel_rfl) (by rfl) (by rfl) (by decide) (by decide) _) fun a ha => ?_
      refine ld ha rfl (by kernel_rfl) rfl rfl rfl (hE18 0 (.int .u8 (ar a0.B 0)) (by kernel_rfl)) fun a ha => ?_
      refine sgh ha 5 [2, 5, 6, 3, 0] [(2, .bool ((ar a0.B 0) == (255 : Int)))] (by kernel_rfl) fun a ha => ?_
      obtain rfl := Option.some.inj H
      exact J10 _ _ (ha.sel (by kernel_rfl)) hC hM
     ·have ha := ha.lit hb17
      have H := ite_f hb17 H
      refine sgh ha 8 [1, 1, 1, 1, 6, 6, 3, 0] [(2, .bool false)] (by kernel_rfl) fun a ha => ?_
      obtain rfl := Option.some.inj H
      exact J10 _ _ (ha.sel (by kernel_rfl)) hC hM
   ·have ha := ha.lit hb14
    have H := ite_f hb14 H
    refine sgh ha 7 [1, 1, 1, 1, 6, 2, 2] [(1, .pointer (some ⟨g3, 0, none⟩)), (7, .bool true), (23, .bool false), (24, .pointer (some ⟨g3, 0, none⟩))] (by kernel_rfl) fun a ha => ?_
    refine ld ha rfl (by kernel_rfl) rfl rfl rfl (hE5 0 (.int .i64 a0.Size) (by kernel_rfl)) fun a ha => ?_
    refine sgh ha 2 [2, 2] [(27, .bool (a0.Size == (16 : Int))), (1, .pointer (some ⟨g3, 0, none⟩)), (7, .bool true), (23, .bool false)] (by kernel_rfl) fun a ha => ?_
    rcases Bool.eq_false_or_eq_true (a0.Size == (16 : Int)) with hb19 | hb19
    ·have ha := ha.lit hb19
     have H := ite_t hb19 H
     refine sgh ha 1 [2] [(7, .bool true), (23, .bool false), (27, .bool true), (28, .pointer (some ⟨g3, 0 + 1, none⟩))] (by kernel_rfl) fun a ha => ?_
     have hE20 : ∀ j v, ([.int .u8 (ar a0.B 0)] : List Value)[j]? = some v → w8.cell? ⟨g3, (0 + 1 + 0) + j, none⟩ = some v := cellA (m := 16) [.int .i64 a0.Size] [] hE5 (by kernel_rfl) (by decide)
     have hn20 := hn6
     refine hop (v := .pointer (some ⟨g3, (0 + 1 + 0), none⟩)) (w' := w8) ha rfl rfl rfl (ixA_run (T := 5) (N := 16) (g := g3) (o' := 0 + 1) (k := .i64) (i := (0 : Int)) ha (by kernel_rfl) (by kernel_rfl) (by rfl) (by rfl) (by decide) (by decide) _) fun a ha => ?_
     refine ld ha rfl (by kernel_rfl) rfl rfl rfl (hE20 0 (.int .u8 (ar a0.B 0)) (by kernel_rfl)) fun a ha => ?_
     refine sgh ha 5 [2, 5, 6, 3, 0] [(2, .bool ((ar a0.B 0) == (255 : Int)))] (by kernel_rfl) fun a ha => ?_
     obtain rfl := Option.some.inj H
     exact J10 _ _ (ha.sel (by kernel_rfl)) hC hM
    ·have ha := ha.lit hb19
     have H := ite_f hb19 H
     refine sgh ha 8 [1, 1, 1, 1, 6, 6, 3, 0] [(2, .bool false)] (by kernel_rfl) fun a ha => ?_
     obtain rfl := Option.some.inj H
     exact J10 _ _ (ha.sel (by kernel_rfl)) hC hM
  ·have ha := ha.lit hb12
   have H := ite_f hb12 H
   refine sgh ha 13 [1, 1, 1, 1, 6, 2, 1, 1, 1, 1, 6, 2, 2] [(1, .pointer (some ⟨g3, 0, none⟩)), (7, .bool true), (23, .bool false), (24, .pointer (some ⟨g3, 0, none⟩))] (by kernel_rfl) fun a ha => ?_
   refine ld ha rfl (by kernel_rfl) rfl rfl rfl (hE5 0 (.int .i64 a0.Size) (by kernel_rfl)) fun a ha => ?_
   refine sgh ha 2 [2, 2] [(27, .bool (a0.Size == (16 : Int))), (1, .pointer (some ⟨g3, 0, none⟩)), (7, .bool true), (23, .bool false)] (by kernel_rfl) fun a ha => ?_
   rcases Bool.eq_false_or_eq_true (a0.Size == (16 : Int)) with hb21 | hb21
   ·have ha := ha.lit hb21
    have H := ite_t hb21 H
    refine sgh ha 1 [2] [(7, .bool true), (23, .bool false), (27, .bool true), (28, .pointer (some ⟨g3, 0 + 1, none⟩))] (by kernel_rfl) fun a ha => ?_
    have hE22 : ∀ j v, ([.int .u8 (ar a0.B 0)] : List Value)[j]? = some v → w8.cell? ⟨g3, (0 + 1 + 0) + j, none⟩ = some v := cellA (m := 16) [.int .i64 a0.Size] [] hE5 (by kernel_rfl) (by decide)
    have hn22 := hn6
    refine hop (v := .pointer (some ⟨g3, (0 + 1 + 0), none⟩)) (w' := w8) ha rfl rfl rfl (ixA_run (T := 5) (N := 16) (g := g3) (o' := 0 + 1) (k := .i64) (i := (0 : Int)) ha (by kernel_rfl) (by kernel_rfl) (by rfl) (by rfl) (by decide) (by decide) _) fun a ha => ?_
    refine ld ha rfl (by kernel_rfl) rfl rfl rfl (hE22 0 (.int .u8 (ar a0.B 0)) (by kernel_rfl)) fun a ha => ?_
    refine sgh ha 5 [2, 5, 6, 3, 0] [(2, .bool ((ar a0.B 0) == (255 : Int)))] (by kernel_rfl) fun a ha => ?_
    obtain rfl := Option.some.inj H
    exact J10 _ _ (ha.sel (by kernel_rfl)) hC hM
   ·have ha := ha.lit hb21
    have H := ite_f hb21 H
    refine sgh ha 8 [1, 1, 1, 1, 6, 6, 3, 0] [(2, .bool false)] (by kernel_rfl) fun a ha => ?_
    obtain rfl := Option.some.inj H
    exact J10 _ _ (ha.sel (by kernel_rfl)) hC hM
 ·have ha := ha.lit hb11
  have H := ite_f hb11 H
  refine sgh ha 28 [1, 1, 1, 1, 1, 1, 1, 1, 1, 1, 1, 1, 1, 1, 1, 1, 1, 1, 1, 1, 1, 1, 1, 1, 1, 1, 4, 0] [(2, .bool false)] (by kernel_rfl) fun a ha => ?_
  obtain rfl := Option.some.inj H
  exact J10 _ _ (ha.sel (by kernel_rfl)) hC hM
def vineryref06_Right.f (k : Nat) (a0 : S_api_Tunnel) : Option (Bool) := (vineryref02_Right.f k a0.Root).bind fun t9 => ((if (!t9) = true then some (true : Bool) else (if (decide (a0.Label < (0 : Int))) = true then some (true : Bool) else some (decide (a0.Label > (1048575 : Int)) : Bool)))).bind fun s12 => (if s12 = true then some ((false : Bool)) else (if (a0.Kind == (0 : Int)) = true then some ((if (!(decide (a0.Root.Size > (0 : Int)))) = true then ((a0.Id.length : Int) == (0 : Int)) else false : Bool)) else (if (a0.Kind == (1 : Int)) = true then some ((if (a0.Root.Size == (4 : Int)) = true then ((a0.Id.length : Int) == (6 : Int)) else false : Bool)) else ((if (a0.Kind == (2 : Int)) = true then some (a0.Kind == (2 : Int) : Bool) else some (a0.Kind == (7 : Int) : Bool))).bind fun s26 => (if s26 = true then some ((if (decide (a0.Root.Size > (0 : Int))) = true then (decide ((a0.Id.length : Int) ≤ (64 : Int))) else false : Bool)) else ((if (a0.Kind == (3 : Int)) = true then some (a0.Kind == (3 : Int) : Bool) else (if (a0.Kind == (4 : Int)) = true then some (a0.Kind == (4 : Int) : Bool) else some (a0.Kind == (5 : Int) : Bool)))).bind fun s30 => (if s30 = true then (vineryref02_Of.f k a0.Id).bind fun t33 => ((if (decide (a0.Root.Size > (0 : Int))) = true then (if ((a0.Id.length : Int) == a0.Root.Size) = true then (vineryref02_Multicast.f k t33.1).bind fun t44 => some (t44 : Bool) else some (false : Bool)) else some (false : Bool))).bind fun s41 => some ((s41 : Bool)) else (if (a0.Kind == (6 : Int)) = true then some ((if (decide (a0.Root.Size > (0 : Int))) = true then ((a0.Id.length : Int) == (0 : Int)) else false : Bool)) else some ((false : Bool))))))))
set_option maxRecDepth 100000 in
theorem vineryref06_Right.walk (w : World) (M : List Nat) (hM : MS M w) (a0 : S_api_Tunnel) (ao1 : Option Addr) (cap1 : Nat) (f1 : RSl (rInt .u8) 5 w M ao1 cap1 a0.Id) (k : Nat) (r : Bool) (H : vineryref06_Right.f k a0 = some r) :
    To Tryd.prog 22 [.agg (cS_api_Tunnel a0 ao1 cap1).toArray] w fun v w' => v = .bool r ∧ Chg [] w w' ∧ MS (M) w' := by
 unfold vineryref06_Right.f at H
 refine ent Tryd.func22 rfl [(0, .agg (cS_api_Tunnel a0 ao1 cap1).toArray)] rfl (by rfl) fun a ha => ?_
 have hC : Chg [] w w := Chg.refl _ _
 refine wp_seq_k fun K2 hK2 => ?_
 refine wp_region_lit ?_
 refine bx (cs := (cS_api_Tunnel a0 ao1 cap1)) ha rfl rfl rfl rfl rfl fun a w3 g4 hN5 ha => ?_
 have hn7 := hN5.notin hM
 have o1 : Ok [] (M) w.heap.size := Ok.nil _ _
 have o2 : Ok (M) (M) w.heap.size := (Ok.refl _ _)
 have f1 := f1.chg hN5.chg o1 o2
 have hM : MS (M) w3 := (hM.chg hN5.chg)
 have hC := hC.trans hN5.chg (Ok.nil _ _)
 have hE6 : ∀ j v, (cS_api_Tunnel a0 ao1 cap1)[j]? = some v → w3.cell? ⟨g4, 0 + j, none⟩ = some v := Box.cells (New.box hN5)
 refine seg ha 1 [(1, .pointer (some ⟨g4, 0, none⟩))] (by kernel_rfl) fun a ha => ?_
 refine hK2 _ _ ?_; try clear hK2 K2
 refine wp_seq_k fun K8 hK8 => ?_
 refine wp_region_lit ?_
 refine seg ha 1 [(1, .pointer (some ⟨g4, 0, none⟩)), (8, .pointer (some ⟨g4, 0 + 3, none⟩))] (by kernel_rfl) fun a ha => ?_
 refine ldA (cs := (cS_api_Addr a0.Root)) ha rfl (by kernel_rfl) rfl rfl rfl (cells_sub hE6 (all := (cS_api_Tunnel a0 ao1 cap1)) [.bool a0.Leaf, .int .i64 a0.Kind, .int .i64 a0.Label] [.slice ao1 a0.Id.length cap1] (by kernel_rfl)) fun a ha => ?_
 obtain ⟨t9, H9, H⟩ := bind_some H
 refine cl ha (by rfl) (by kernel_rfl) (by rfl) (by rfl) (by rfl) (vineryref02_Right.walk w3 _ hM a0.Root k _ H9) ?_
 rintro _ w9 ⟨rfl, hc9, hMn⟩ a ha
 have o1 : Ok [] (M) w3.heap.size := Ok.nil _ _
 have o2 : Ok (M) (M) w3.heap.size := (Ok.refl _ _)
 have f1 := f1.chg hc9 o1 o2
 have q_hn7 : g4 ∉ M := fun h => (o2 g4 h).elim hn7 (fun h => absurd (lt_cell (hE6 0 _ rfl)) (Nat.not_lt.2 h))
 have hE6 : ∀ j v, (cS_api_Tunnel a0 ao1 cap1)[j]? = some v → w9.cell? ⟨g4, 0 + j, none⟩ = some v := fun j v hv => (cell_keep hc9 o1 hn7 (hE6 j v hv))
 have hn7 := q_hn7
 have hM : MS (M) w9 := (hM.chg hc9)
 have hC := hC.trans hc9 (Ok.nil _ _)
 refine seg ha 1 [(1, .pointer (some ⟨g4, 0, none⟩)), (3, .bool t9)] (by kernel_rfl) fun a ha => ?_
 refine hK8 _ _ ?_; try clear hK8 K8
 refine wp_seq_k fun K10 hK10 => ?_
 refine wp_seq_k fun K11 hK11 => ?_
 refine wp_region_lit ?_
 obtain ⟨s12, H12, H⟩ := bind_some H
 have J12 : ∀ (a : Act) (w12 : World), Has a Tryd.f22.ntmps [(1, .pointer (some ⟨g4, 0, none⟩)), (22, .bool s12)] → (RSl (rInt .u8) 5 w12 (M) ao1 cap1 a0.Id) → (∀ j v, (cS_api_Tunnel a0 ao1 cap1)[j]? = some v → w12.cell? ⟨g4, 0 + j, none⟩ = some v) → (g4 ∉ (M)) → (Chg [] w w12) → (MS (M) w12) → K11 a w12 := by
  intro a w12 ha f1 hE6 hn7 hC hM
  refine hK11 _ _ ?_; try clear hK11 K11
  refine cnd ha rfl (fun hc13 => ?_) (fun hc13 => ?_)
  ·have H := ite_t hc13 H
   refine wp_seq_k fun K14 hK14 => ?_
   refine wp_region_lit ?_
   refine seg ha 1 [(2, .bool false)] (by kernel_rfl) fun a ha => ?_
   refine hK14 _ _ ?_; try clear hK14 K14
   refine wp_ret ?_
   try simp only [Exit.then, Exit.inBlock]
   obtain rfl := Option.some.inj H
   refine rt1 ha rfl rfl ?_
   exact ⟨rfl, hC, hM⟩
  ·have H := ite_f hc13 H
   refine wp_skip ?_
   refine hK10 _ _ ?_; try clear hK10 K10
   refine wp_seq_k fun K15 hK15 => ?_
   refine wp_region_lit ?_
   refine seg ha 1 [(1, .pointer (some ⟨g4, 0, none⟩)), (23, .pointer (some ⟨g4, 0 + 20, none⟩))] (by kernel_rfl) fun a ha => ?_
   refine ld ha rfl (by kernel_rfl) rfl rfl rfl (hE6 20 (.slice ao1 a0.Id.length cap1) (by kernel_rfl)) fun a ha => ?_
   refine seg ha 2 [(1, .pointer (some ⟨g4, 0, none⟩)), (4, .int .i64 (a0.Id.length : Int))] (by kernel_rfl) fun a ha => ?_
   refine hK15 _ _ ?_; try clear hK15 K15
   refine wp_seq_k fun K16 hK16 => ?_
   refine wp_region_lit ?_
   refine seg ha 2 [(1, .pointer (some ⟨g4, 0, none⟩)), (4, .int .i64 (a0.Id.length : Int)), (27, .pointer (some ⟨g4, 0 + 3, none⟩))] (by kernel_rfl) fun a ha => ?_
   refine ld ha rfl (by kernel_rfl) rfl rfl rfl (hE6 3 (.int .i64 a0.Root.Size) (by kernel_rfl)) fun a ha => ?_
   refine seg ha 2 [(1, .pointer (some ⟨g4, 0, none⟩)), (4, .int .i64 (a0.Id.length : Int)), (5, .bool (decide (a0.Root.Size > (0 : Int))))] (by kernel_rfl) fun a ha => ?_
   refine hK16 _ _ ?_; try clear hK16 K16
   refine wp_seq_k fun K17 hK17 => ?_
   refine wp_seq_k fun K18 hK18 => ?_
   refine wp_region_lit ?_
   refine seg ha 1 [(1, .pointer (some ⟨g4, 0, none⟩)), (4, .int .i64 (a0.Id.length : Int)), (5, .bool (decide (a0.Root.Size > (0 : Int)))), (30, .pointer (some ⟨g4, 0 + 1, none⟩))] (by kernel_rfl) fun a ha => ?_
   refine ld ha rfl (by kernel_rfl) rfl rfl rfl (hE6 1 (.int .i64 a0.Kind) (by kernel_rfl)) fun a ha => ?_
   refine hK18 _ _ ?_; try clear hK18 K18
   refine wp_block ?_
   refine wp_seq_k fun K19 hK19 => ?_
   refine wp_region_lit ?_
   refine seg ha 2 [(1, .pointer (some ⟨g4, 0, none⟩)), (4, .int .i64 (a0.Id.length : Int)), (5, .bool (decide (a0.Root.Size > (0 : Int)))), (31, .int .i64 a0.Kind), (32, .bool (a0.Kind == (0 : Int)))] (by kernel_rfl) fun a ha => ?_
   refine hK19 _ _ ?_; try clear hK19 K19
   refine cnd ha rfl (fun hc20 => ?_) (fun hc20 => ?_)
   ·have H := ite_t hc20 H
    refine wp_seq_k fun K21 hK21 => ?_
    refine wp_region_lit ?_
    refine seg ha 7 [(2, .bool (if (!(decide (a0.Root.Size > (0 : Int)))) = true then ((a0.Id.length : Int) == (0 : Int)) else false))] (by kernel_rfl) fun a ha => ?_
    refine hK21 _ _ ?_; try clear hK21 K21
    refine wp_ret ?_
    try simp only [Exit.then, Exit.inBlock]
    obtain rfl := Option.some.inj H
    refine rt1 ha rfl rfl ?_
    exact ⟨rfl, hC, hM⟩
   ·have H := ite_f hc20 H
    refine wp_seq_k fun K22 hK22 => ?_
    refine wp_region_lit ?_
    refine seg ha 2 [(1, .pointer (some ⟨g4, 0, none⟩)), (4, .int .i64 (a0.Id.length : Int)), (5, .bool (decide (a0.Root.Size > (0 : Int)))), (31, .int .i64 a0.Kind), (40, .bool (a0.Kind == (1 : Int)))] (by kernel_rfl) fun a ha => ?_
    refine hK22 _ _ ?_; try clear hK22 K22
    refine cnd ha rfl (fun hc23 => ?_) (fun hc23 => ?_)
    ·have H := ite_t hc23 H
     refine wp_seq_k fun K24 hK24 => ?_
     refine wp_region_lit ?_
     refine seg ha 2 [(4, .int .i64 (a0.Id.length : Int)), (43, .pointer (some ⟨g4, 0 + 3, none⟩))] (by kernel_rfl) fun a ha => ?_
     refine ld ha rfl (by kernel_rfl) rfl rfl rfl (hE6 3 (.int .i64 a0.Root.Size) (by kernel_rfl)) fun a ha => ?_
     refine seg ha 6 [(2, .bool (if (a0.Root.Size == (4 : Int)) = true then ((a0.Id.length : Int) == (6 : Int)) else false))] (by kernel_rfl) fun a ha => ?_
     refine hK24 _ _ ?_; try clear hK24 K24
     refine wp_ret ?_
     try simp only [Exit.then, Exit.inBlock]
     obtain rfl := Option.some.inj H
     refine rt1 ha rfl rfl ?_
     exact ⟨rfl, hC, hM⟩
    ·have H := ite_f hc23 H
     refine wp_seq_k fun K25 hK25 => ?_
     obtain ⟨s26, H26, H⟩ := bind_some H
     have J26 : ∀ (a : Act) (w26 : World), Has a Tryd.f22.ntmps [(1, .pointer (some ⟨g4, 0, none⟩)), (4, .int .i64 (a0.Id.length : Int)), (5, .bool (decide (a0.Root.Size > (0 : Int)))), (31, .int .i64 a0.Kind), (50, .bool s26)] → (RSl (rInt .u8) 5 w26 (M) ao1 cap1 a0.Id) → (∀ j v, (cS_api_Tunnel a0 ao1 cap1)[j]? = some v → w26.cell? ⟨g4, 0 + j, none⟩ = some v) → (g4 ∉ (M)) → (Chg [] w w26) → (MS (M) w26) → K25 a w26 := by
      intro a w26 ha f1 hE6 hn7 hC hM
      refine hK25 _ _ ?_; try clear hK25 K25
      refine cnd ha rfl (fun hc27 => ?_) (fun hc27 => ?_)
      ·have H := ite_t hc27 H
       refine wp_seq_k fun K28 hK28 => ?_
       refine wp_region_lit ?_
       refine seg ha 6 [(2, .bool (if (decide (a0.Root.Size > (0 : Int))) = true then (decide ((a0.Id.length : Int) ≤ (64 : Int))) else false))] (by kernel_rfl) fun a ha => ?_
       refine hK28 _ _ ?_; try clear hK28 K28
       refine wp_ret ?_
       try simp only [Exit.then, Exit.inBlock]
       obtain rfl := Option.some.inj H
       refine rt1 ha rfl rfl ?_
       exact ⟨rfl, hC, hM⟩
      ·have H := ite_f hc27 H
       refine wp_seq_k fun K29 hK29 => ?_
       obtain ⟨s30, H30, H⟩ := bind_some H
       have J30 : ∀ (a : Act) (w30 : World), Has a Tryd.f22.ntmps [(1, .pointer (some ⟨g4, 0, none⟩)), (4, .int .i64 (a0.Id.length : Int)), (5, .bool (decide (a0.Root.Size > (0 : Int)))), (31, .int .i64 a0.Kind), (58, .bool s30)] → (RSl (rInt .u8) 5 w30 (M) ao1 cap1 a0.Id) → (∀ j v, (cS_api_Tunnel a0 ao1 cap1)[j]? = some v → w30.cell? ⟨g4, 0 + j, none⟩ = some v) → (g4 ∉ (M)) → (Chg [] w w30) → (MS (M) w30) → K29 a w30 := by
        intro a w30 ha f1 hE6 hn7 hC hM
        refine hK29 _ _ ?_; try clear hK29 K29
        refine cnd ha rfl (fun hc31 => ?_) (fun hc31 => ?_)
        ·have H := ite_t hc31 H
         refine wp_seq_k fun K32 hK32 => ?_
         refine wp_region_lit ?_
         refine seg ha 1 [(1, .pointer (some ⟨g4, 0, none⟩)), (4, .int .i64 (a0.Id.length : Int)), (5, .bool (decide (a0.Root.Size > (0 : Int)))), (63, .pointer (some ⟨g4, 0 + 20, none⟩))] (by kernel_rfl) fun a ha => ?_
         refine ld ha rfl (by kernel_rfl) rfl rfl rfl (hE6 20 (.slice ao1 a0.Id.length cap1) (by kernel_rfl)) fun a ha => ?_
         obtain ⟨t33, H33, H⟩ := bind_some H
         refine cl ha (by rfl) (by kernel_rfl) (by rfl) (by rfl) (by rfl) (vineryref02_Of.walk w30 _ hM a0.Id ao1 cap1 f1 k _ H33) ?_
         rintro _ w33 ⟨rfl, hc33, hMn⟩ a ha
         have o1 : Ok [] (M) w30.heap.size := Ok.nil _ _
         have o2 : Ok (M) (M) w30.heap.size := (Ok.refl _ _)
         have f1 := f1.chg hc33 o1 o2
         have q_hn7 : g4 ∉ M := fun h => (o2 g4 h).elim hn7 (fun h => absurd (lt_cell (hE6 0 _ rfl)) (Nat.not_lt.2 h))
         have hE6 : ∀ j v, (cS_api_Tunnel a0 ao1 cap1)[j]? = some v → w33.cell? ⟨g4, 0 + j, none⟩ = some v := fun j v hv => (cell_keep hc33 o1 hn7 (hE6 j v hv))
         have hn7 := q_hn7
         have hM : MS (M) w33 := (hM.chg hc33)
         have hC := hC.trans hc33 (Ok.nil _ _)
         refine seg ha 3 [(1, .pointer (some ⟨g4, 0, none⟩)), (4, .int .i64 (a0.Id.length : Int)), (5, .bool (decide (a0.Root.Size > (0 : Int)))), (66, .agg (cS_api_Addr t33.1).toArray), (67, .int .i64 t33.2)] (by kernel_rfl) fun a ha => ?_
         refine al (cs := (cS_api_Addr (⟨(0 : Int), (List.replicate 16 (0 : Int))⟩ : S_api_Addr))) (z := .agg (cS_api_Addr (⟨(0 : Int), (List.replicate 16 (0 : Int))⟩ : S_api_Addr)).toArray) ha (fun w => by kernel_rfl) rfl rfl rfl rfl fun a w34 g35 hN36 ha => ?_
         have o1 : Ok [] (M) w33.heap.size := Ok.nil _ _
         have o2 : Ok ([g35] ++ (M)) (M) w33.heap.size := (Ok.app (hN36.ok _) (Ok.refl _ _))
         have f1 := f1.chg hN36.chg o1 o2
         have q_hn7 : g4 ∉ [g35] ++ (M) := fun h => (o2 g4 h).elim hn7 (fun h => absurd (lt_cell (hE6 0 _ rfl)) (Nat.not_lt.2 h))
         have hE6 : ∀ j v, (cS_api_Tunnel a0 ao1 cap1)[j]? = some v → w34.cell? ⟨g4, 0 + j, none⟩ = some v := fun j v hv => (cell_keep hN36.chg o1 hn7 (hE6 j v hv))
         have hn7 := q_hn7
         have p_i37_M : ∀ x ∈ [g35], x ∉ M := fun x hx hy => absurd (hM x (hy)) (Nat.not_lt.2 ((hN36.ge1) x hx))
         have e_i37 : ∀ x ∈ [g35], w.heap.size ≤ x := fun x hx => Nat.le_trans hC.size ((hN36.ge1) x hx)
         have hM : MS ([g35] ++ (M)) w34 := (MS.app hN36.ms (hM.chg hN36.chg))
         have hC := hC.trans hN36.chg (Ok.nil _ _)
         have hBg35 : Box w34 g35 (cS_api_Addr (⟨(0 : Int), (List.replicate 16 (0 : Int))⟩ : S_api_Addr)) := hN36.box
         refine stA (l := (cS_api_Addr t33.1)) ha rfl rfl rfl (by kernel_rfl) rfl rfl hBg35 rfl fun a w38 ha hb2 hc39 _ => ?_
         have o1 : Ok [g35] ([g35] ++ (M)) w34.heap.size := (fun _ h => .inl (ml h))
         have o2 : Ok ([g35] ++ (M)) ([g35] ++ (M)) w34.heap.size := (Ok.refl _ _)
         have f1 := f1.chg hc39 o1 o2
         have q_hn7 : g4 ∉ [g35] ++ (M) := fun h => (o2 g4 h).elim hn7 (fun h => absurd (lt_cell (hE6 0 _ rfl)) (Nat.not_lt.2 h))
         have hE6 : ∀ j v, (cS_api_Tunnel a0 ao1 cap1)[j]? = some v → w38.cell? ⟨g4, 0 + j, none⟩ = some v := fun j v hv => (cell_keep hc39 o1 hn7 (hE6 j v hv))
         have hn7 := q_hn7
         have hM : MS ([g35] ++ (M)) w38 := (hM.chg hc39)
         have hC := hC.trans hc39 (fun x h => .inr (e_i37 x h))
         have hBg35 : Box w38 g35 (cS_api_Addr t33.1) := hb2
         refine seg ha 1 [(1, .pointer (some ⟨g4, 0, none⟩)), (4, .int .i64 (a0.Id.length : Int)), (5, .bool (decide (a0.Root.Size > (0 : Int)))), (6, .pointer (some ⟨g35, 0, none⟩))] (by kernel_rfl) fun a ha => ?_
         refine hK32 _ _ ?_; try clear hK32 K32
         refine wp_seq_k fun K40 hK40 => ?_
         refine wp_region_lit ?_
         obtain ⟨s41, H41, H⟩ := bind_some H
         have J41 : ∀ (a : Act) (w41 : World), Has a Tryd.f22.ntmps [(2, .bool s41)] → (Box w41 g35 (cS_api_Addr t33.1)) → (Chg [] w w41) → (MS ([g35] ++ (M)) w41) → K40 a w41 := by
          intro a w41 ha hBg35 hC hM
          refine hK40 _ _ ?_; try clear hK40 K40
          refine wp_ret ?_
          try simp only [Exit.then, Exit.inBlock]
          have hBg35 := hBg35.chg (Chg.refl [] _) (fun h => nomatch h)
          have hM : MS (M) w41 := (fun x h => hM.chg (Chg.refl [] _) x (mr (h)))
          have hC := hC.trans (Chg.refl [] _) (Ok.nil _ _)
          obtain rfl := Option.some.inj H
          refine rt1 ha rfl rfl ?_
          exact ⟨rfl, hC, hM⟩
         have H := H41
         refine seg ha 2 [(69, .bool (decide (a0.Root.Size > (0 : Int)))), (1, .pointer (some ⟨g4, 0, none⟩)), (4, .int .i64 (a0.Id.length : Int)), (6, .pointer (some ⟨g35, 0, none⟩))] (by kernel_rfl) fun a ha => ?_
         rcases Bool.eq_false_or_eq_true (decide (a0.Root.Size > (0 : Int))) with hb42 | hb42
         ·have ha := ha.lit hb42
          have H := ite_t hb42 H
          refine sgh ha 3 [2, 2, 2] [(6, .pointer (some ⟨g35, 0, none⟩)), (69, .bool true), (70, .int .i64 (a0.Id.length : Int)), (72, .pointer (some ⟨g4, 0 + 3, none⟩))] (by kernel_rfl) fun a ha => ?_
          refine ld ha rfl (by kernel_rfl) rfl rfl rfl (hE6 3 (.int .i64 a0.Root.Size) (by kernel_rfl)) fun a ha => ?_
          refine sgh ha 3 [2, 3, 0] [(76, .bool ((a0.Id.length : Int) == a0.Root.Size)), (6, .pointer (some ⟨g35, 0, none⟩))] (by kernel_rfl) fun a ha => ?_
          rcases Bool.eq_false_or_eq_true ((a0.Id.length : Int) == a0.Root.Size) with hb43 | hb43
          ·have ha := ha.lit hb43
           have H := ite_t hb43 H
           refine ldA (cs := (cS_api_Addr t33.1)) ha rfl (by kernel_rfl) rfl rfl rfl (cells_sub (Box.cells hBg35) (all := (cS_api_Addr t33.1)) [] [] (by kernel_rfl)) fun a ha => ?_
           obtain ⟨t44, H44, H⟩ := bind_some H
           refine cl ha (by rfl) (by kernel_rfl) (by rfl) (by rfl) (by rfl) (vineryref02_Multicast.walk w38 _ hM t33.1 k _ H44) ?_
           rintro _ w44 ⟨rfl, hc44, hMn⟩ a ha
           have hBg35 := hBg35.chg hc44 (fun h => nomatch h)
           have hM : MS ([g35] ++ (M)) w44 := (hM.chg hc44)
           have hC := hC.trans hc44 (Ok.nil _ _)
           refine sgh ha 2 [3, 0] [(2, .bool t44)] (by kernel_rfl) fun a ha => ?_
           obtain rfl := Option.some.inj H
           exact J41 _ _ (ha.sel (by kernel_rfl)) hBg35 hC hM
          ·have ha := ha.lit hb43
           have H := ite_f hb43 H
           refine sgh ha 4 [1, 1, 4, 0] [(2, .bool false)] (by kernel_rfl) fun a ha => ?_
           obtain rfl := Option.some.inj H
           exact J41 _ _ (ha.sel (by kernel_rfl)) hBg35 hC hM
         ·have ha := ha.lit hb42
          have H := ite_f hb42 H
          refine sgh ha 11 [1, 1, 1, 1, 1, 4, 0, 1, 1, 4, 0] [(2, .bool false)] (by kernel_rfl) fun a ha => ?_
          obtain rfl := Option.some.inj H
          exact J41 _ _ (ha.sel (by kernel_rfl)) hBg35 hC hM
        ·have H := ite_f hc31 H
         refine wp_seq_k fun K45 hK45 => ?_
         refine wp_region_lit ?_
         refine seg ha 2 [(4, .int .i64 (a0.Id.length : Int)), (5, .bool (decide (a0.Root.Size > (0 : Int)))), (80, .bool (a0.Kind == (6 : Int)))] (by kernel_rfl) fun a ha => ?_
         refine hK45 _ _ ?_; try clear hK45 K45
         refine cnd ha rfl (fun hc46 => ?_) (fun hc46 => ?_)
         ·have H := ite_t hc46 H
          refine wp_seq_k fun K47 hK47 => ?_
          refine wp_region_lit ?_
          refine seg ha 6 [(2, .bool (if (decide (a0.Root.Size > (0 : Int))) = true then ((a0.Id.length : Int) == (0 : Int)) else false))] (by kernel_rfl) fun a ha => ?_
          refine hK47 _ _ ?_; try clear hK47 K47
          refine wp_ret ?_
          try simp only [Exit.then, Exit.inBlock]
          obtain rfl := Option.some.inj H
          refine rt1 ha rfl rfl ?_
          exact ⟨rfl, hC, hM⟩
         ·have H := ite_f hc46 H
          refine wp_skip ?_
          refine hK17 _ _ ?_; try clear hK17 K17
          refine wp_seq_k fun K48 hK48 => ?_
          refine wp_region_lit ?_
          refine seg ha 1 [(2, .bool false)] (by kernel_rfl) fun a ha => ?_
          refine hK48 _ _ ?_; try clear hK48 K48
          refine wp_ret ?_
          try simp only [Exit.then, Exit.inBlock]
          obtain rfl := Option.some.inj H
          refine rt1 ha rfl rfl ?_
          exact ⟨rfl, hC, hM⟩
       have H := H30
       refine wp_seq_k fun K49 hK49 => ?_
       refine wp_region_lit ?_
       refine seg ha 2 [(1, .pointer (some ⟨g4, 0, none⟩)), (4, .int .i64 (a0.Id.length : Int)), (5, .bool (decide (a0.Root.Size > (0 : Int)))), (31, .int .i64 a0.Kind), (58, .bool (a0.Kind == (3 : Int)))] (by kernel_rfl) fun a ha => ?_
       refine hK49 _ _ ?_; try clear hK49 K49
       refine cnd ha rfl (fun hc50 => ?_) (fun hc50 => ?_)
       ·have H := ite_t hc50 H
        refine wp_skip ?_
        obtain rfl := Option.some.inj H
        exact J30 _ _ (ha.sel (by kernel_rfl)) f1 hE6 hn7 hC hM
       ·have H := ite_f hc50 H
        refine wp_seq_k fun K51 hK51 => ?_
        refine wp_region_lit ?_
        refine seg ha 2 [(1, .pointer (some ⟨g4, 0, none⟩)), (4, .int .i64 (a0.Id.length : Int)), (5, .bool (decide (a0.Root.Size > (0 : Int)))), (31, .int .i64 a0.Kind), (58, .bool (a0.Kind == (4 : Int)))] (by kernel_rfl) fun a ha => ?_
        refine hK51 _ _ ?_; try clear hK51 K51
        refine cnd ha rfl (fun hc52 => ?_) (fun hc52 => ?_)
        ·have H := ite_t hc52 H
         refine wp_skip ?_
         obtain rfl := Option.some.inj H
         exact J30 _ _ (ha.sel (by kernel_rfl)) f1 hE6 hn7 hC hM
        ·have H := ite_f hc52 H
         refine wp_region_lit ?_
         refine seg ha 2 [(1, .pointer (some ⟨g4, 0, none⟩)), (4, .int .i64 (a0.Id.length : Int)), (5, .bool (decide (a0.Root.Size > (0 : Int)))), (31, .int .i64 a0.Kind), (58, .bool (a0.Kind == (5 : Int)))] (by kernel_rfl) fun a ha => ?_
         obtain rfl := Option.some.inj H
         exact J30 _ _ (ha.sel (by kernel_rfl)) f1 hE6 hn7 hC hM
     have H := H26
     refine wp_seq_k fun K53 hK53 => ?_
     refine wp_region_lit ?_
     refine seg ha 2 [(1, .pointer (some ⟨g4, 0, none⟩)), (4, .int .i64 (a0.Id.length : Int)), (5, .bool (decide (a0.Root.Size > (0 : Int)))), (31, .int .i64 a0.Kind), (50, .bool (a0.Kind == (2 : Int)))] (by kernel_rfl) fun a ha => ?_
     refine hK53 _ _ ?_; try clear hK53 K53
     refine cnd ha rfl (fun hc54 => ?_) (fun hc54 => ?_)
     ·have H := ite_t hc54 H
      refine wp_skip ?_
      obtain rfl := Option.some.inj H
      exact J26 _ _ (ha.sel (by kernel_rfl)) f1 hE6 hn7 hC hM
     ·have H := ite_f hc54 H
      refine wp_region_lit ?_
      refine seg ha 2 [(1, .pointer (some ⟨g4, 0, none⟩)), (4, .int .i64 (a0.Id.length : Int)), (5, .bool (decide (a0.Root.Size > (0 : Int)))), (31, .int .i64 a0.Kind), (50, .bool (a0.Kind == (7 : Int)))] (by kernel_rfl) fun a ha => ?_
      obtain rfl := Option.some.inj H
      exact J26 _ _ (ha.sel (by kernel_rfl)) f1 hE6 hn7 hC hM
 have H := H12
 refine seg ha 3 [(13, .bool (!t9)), (1, .pointer (some ⟨g4, 0, none⟩))] (by kernel_rfl) fun a ha => ?_
 rcases Bool.eq_false_or_eq_true (!t9) with hb55 | hb55
 ·have ha := ha.lit hb55
  have H := ite_t hb55 H
  refine sgh ha 9 [1, 1, 1, 3, 0, 1, 1, 1, 3] [(1, .pointer (some ⟨g4, 0, none⟩)), (22, .bool true)] (by kernel_rfl) fun a ha => ?_
  obtain rfl := Option.some.inj H
  exact J12 _ _ (ha.sel (by kernel_rfl)) f1 hE6 hn7 hC hM
 ·have ha := ha.lit hb55
  have H := ite_f hb55 H
  refine sgh ha 1 [2] [(1, .pointer (some ⟨g4, 0, none⟩)), (13, .bool false), (14, .pointer (some ⟨g4, 0 + 2, none⟩))] (by kernel_rfl) fun a ha => ?_
  refine ld ha rfl (by kernel_rfl) rfl rfl rfl (hE6 2 (.int .i64 a0.Label) (by kernel_rfl)) fun a ha => ?_
  refine sgh ha 3 [2, 4, 0] [(18, .bool (decide (a0.Label < (0 : Int)))), (1, .pointer (some ⟨g4, 0, none⟩))] (by kernel_rfl) fun a ha => ?_
  rcases Bool.eq_false_or_eq_true (decide (a0.Label < (0 : Int))) with hb56 | hb56
  ·have ha := ha.lit hb56
   have H := ite_t hb56 H
   refine sgh ha 4 [1, 1, 1, 3] [(1, .pointer (some ⟨g4, 0, none⟩)), (22, .bool true)] (by kernel_rfl) fun a ha => ?_
   obtain rfl := Option.some.inj H
   exact J12 _ _ (ha.sel (by kernel_rfl)) f1 hE6 hn7 hC hM
  ·have ha := ha.lit hb56
   have H := ite_f hb56 H
   refine sgh ha 1 [2] [(1, .pointer (some ⟨g4, 0, none⟩)), (18, .bool false), (19, .pointer (some ⟨g4, 0 + 2, none⟩))] (by kernel_rfl) fun a ha => ?_
   refine ld ha rfl (by kernel_rfl) rfl rfl rfl (hE6 2 (.int .i64 a0.Label) (by kernel_rfl)) fun a ha => ?_
   refine sgh ha 2 [2, 4] [(1, .pointer (some ⟨g4, 0, none⟩)), (22, .bool (decide (a0.Label > (1048575 : Int))))] (by kernel_rfl) fun a ha => ?_
   obtain rfl := Option.some.inj H
   exact J12 _ _ (ha.sel (by kernel_rfl)) f1 hE6 hn7 hC hM
def vineryref01_Bytes.l0 (a0 : Int) : Nat → (List Int) → Int → Option (List Int)
  | 0, _, _ => none
  | kk + 1, x7, x8 => (if (decide (x8 ≥ (0 : Int))) = true then (if 0 ≤ (IntKind.i64.wrap ((8 : Int) * x8)) then (if (x7.length + ([IntKind.u8.wrap (Int.fdiv a0 (2 ^ (min (Int.toNat (IntKind.i64.wrap ((8 : Int) * x8))) IntKind.i64.bits)))] : List Int).length) * 1 ≤ 140737488355328 then vineryref01_Bytes.l0 a0 kk (x7 ++ ([IntKind.u8.wrap (Int.fdiv a0 (2 ^ (min (Int.toNat (IntKind.i64.wrap ((8 : Int) * x8))) IntKind.i64.bits)))] : List Int)) (IntKind.i64.wrap (x8 - (1 : Int))) else none) else none) else some (x7 : List Int))
def vineryref01_Bytes.f (k : Nat) (a0 : Int) (a1 : Int) : Option (List Int) := (vineryref01_Bytes.l0 a0 k ([] : List Int) (IntKind.i64.wrap (a1 - (1 : Int)))).bind fun s5 => some ((s5 : List Int))
set_option maxRecDepth 100000 in
theorem vineryref01_Bytes.walk (w : World) (M : List Nat) (hM : MS M w) (a0 : Int) (a1 : Int) (k : Nat) (r : List Int) (H : vineryref01_Bytes.f k a0 a1 = some r) :
    To Tryd.prog 51 [.int .i64 a0, .int .i64 a1] w fun v w' => ∃ (ao25 : Option Addr) (cap25 : Nat), v = .slice ao25 r.length cap25 ∧ (Own (rInt .u8) 5 w' (blkL ao25 ++ (M)) ao25 cap25 r) ∧ (∀ x ∈ blkL ao25, w.heap.size ≤ x) ∧ Chg [] w w' ∧ MS (blkL ao25 ++ (M)) w' := by
 unfold vineryref01_Bytes.f at H
 refine ent Tryd.func51 rfl [(0, .int .i64 a0), (1, .int .i64 a1)] rfl (by rfl) fun a ha => ?_
 have hC : Chg [] w w := Chg.refl _ _
 refine wp_seq_k fun K1 hK1 => ?_
 refine wp_region_lit ?_
 refine seg ha 1 [(0, .int .i64 a0), (1, .int .i64 a1)] (by kernel_rfl) fun a ha => ?_
 refine hK1 _ _ ?_; try clear hK1 K1
 refine wp_seq_k fun K2 hK2 => ?_
 refine wp_region_lit ?_
 refine seg ha 1 [(0, .int .i64 a0), (1, .int .i64 a1), (5, .slice none 0 0)] (by kernel_rfl) fun a ha => ?_
 refine hK2 _ _ ?_; try clear hK2 K2
 refine wp_seq_k fun K3 hK3 => ?_
 refine wp_seq_k fun K4 hK4 => ?_
 refine wp_region_lit ?_
 refine seg ha 3 [(0, .int .i64 a0), (5, .slice none 0 0), (6, .int .i64 (IntKind.i64.wrap (a1 - (1 : Int))))] (by kernel_rfl) fun a ha => ?_
 refine hK4 _ _ ?_; try clear hK4 K4
 refine wp_block ?_
 obtain ⟨s5, H5, H⟩ := bind_some H
 have J5 : ∀ (a : Act) (wx5 : World) (ao9 : Option Addr) (cap9 : Nat), Has a Tryd.f51.ntmps [(5, .slice ao9 s5.length cap9)] → (Own (rInt .u8) 5 wx5 (blkL ao9 ++ (M)) ao9 cap9 s5) → (∀ x ∈ blkL ao9, w.heap.size ≤ x) → (∀ x ∈ blkL ao9, x ∉ M) → (Chg [] w wx5) → (MS (blkL ao9 ++ (M)) wx5) → K3 a wx5 := by
  intro a wx5 ao9 cap9 ha f9 e_i9 p_i9_M hC hM
  refine hK3 _ _ ?_; try clear hK3 K3
  refine wp_seq_k fun K10 hK10 => ?_
  refine wp_region_lit ?_
  refine seg ha 2 [(4, .slice ao9 s5.length cap9)] (by kernel_rfl) fun a ha => ?_
  refine hK10 _ _ ?_; try clear hK10 K10
  refine wp_ret ?_
  try simp only [Exit.then, Exit.inBlock]
  obtain rfl := Option.some.inj H
  refine rt1 ha rfl rfl ?_
  exact ⟨ao9, cap9, rfl, f9, e_i9, hC, hM⟩
 have Hc5 := H
 have H := H5
 refine wp_loop_ghost (fun kk a w5 => ∃ (x7 : List Int) (x8 : Int) (ao6 : Option Addr) (cap6 : Nat), vineryref01_Bytes.l0 a0 kk x7 x8 = some s5 ∧ Has a Tryd.f51.ntmps [(0, .int .i64 a0), (5, .slice ao6 x7.length cap6), (6, .int .i64 x8)] ∧ (Own (rInt .u8) 5 w5 (blkL ao6 ++ (M)) ao6 cap6 x7) ∧ (∀ x ∈ blkL ao6, w.heap.size ≤ x) ∧ (∀ x ∈ blkL ao6, x ∉ M) ∧ (Chg [] w w5) ∧ (MS (blkL ao6 ++ (M)) w5)) k ?_ ?_
 ·skip
  have p_z11_M : ∀ x ∈ blkL none, x ∉ M := fun x hx hy => absurd (hM x (hy)) (Nat.not_lt.2 ((fun _ h => nomatch h) x hx))
  have e_z11 : ∀ x ∈ blkL none, w.heap.size ≤ x := fun x hx => Nat.le_trans hC.size ((fun _ h => nomatch h) x hx)
  have hM : MS (blkL none ++ (M)) w := (MS.app (fun _ h => nomatch h) (hM.chg (Chg.refl [] _)))
  have hC := hC.trans (Chg.refl [] _) (Ok.nil _ _)
  exact ⟨([] : List Int), IntKind.i64.wrap (a1 - (1 : Int)), none, 0, H, (ha.sel (by kernel_rfl)), Own.nil, e_z11, p_z11_M, hC, hM⟩
 ·rintro kk a w5 ⟨x7, x8, ao6, cap6, H, ha, f6, e_i6, p_i6_M, hC, hM⟩
  obtain _ | kk := kk
  ·exact nomatch (show none = some _ from H)
  rw [vineryref01_Bytes.l0] at H
  refine wp_seq_k fun K12 hK12 => ?_
  refine wp_seq_k fun K13 hK13 => ?_
  refine wp_region_lit ?_
  refine seg ha 2 [(0, .int .i64 a0), (5, .slice ao6 x7.length cap6), (6, .int .i64 x8), (10, .bool (decide (x8 ≥ (0 : Int))))] (by kernel_rfl) fun a ha => ?_
  refine hK13 _ _ ?_; try clear hK13 K13
  refine cnd ha rfl (fun hc14 => ?_) (fun hc14 => ?_)
  ·have H := ite_t hc14 H
   refine wp_skip ?_
   refine hK12 _ _ ?_; try clear hK12 K12
   refine wp_seq_k fun K15 hK15 => ?_
   refine wp_block ?_
   refine wp_region_lit ?_
   refine seg ha 4 [(0, .int .i64 a0), (6, .int .i64 x8), (13, .slice ao6 x7.length cap6), (14, .int .i64 a0), (16, .int .i64 (IntKind.i64.wrap ((8 : Int) * x8)))] (by kernel_rfl) fun a ha => ?_
   obtain ⟨hx16, H⟩ := ite_some H
   refine hop (v := .int .i64 (Int.fdiv a0 (2 ^ (min (Int.toNat (IntKind.i64.wrap ((8 : Int) * x8))) IntKind.i64.bits)))) (w' := w5) ha rfl rfl rfl (shr_run ha (by rfl) (by rfl) hx16 _) fun a ha => ?_
   refine seg ha 1 [(0, .int .i64 a0), (6, .int .i64 x8), (13, .slice ao6 x7.length cap6), (18, .int .u8 (IntKind.u8.wrap (Int.fdiv a0 (2 ^ (min (Int.toNat (IntKind.i64.wrap ((8 : Int) * x8))) IntKind.i64.bits)))))] (by kernel_rfl) fun a ha => ?_
   refine bsl (vals := ([.int .u8 (IntKind.u8.wrap (Int.fdiv a0 (2 ^ (min (Int.toNat (IntKind.i64.wrap ((8 : Int) * x8))) IntKind.i64.bits))))] : List Value)) (T := 5) ha rfl (([.int .u8 (IntKind.u8.wrap (Int.fdiv a0 (2 ^ (min (Int.toNat (IntKind.i64.wrap ((8 : Int) * x8))) IntKind.i64.bits))))] : List Value) ++ ([] : List Value)) (fun w => by kernel_rfl) rfl rfl rfl fun a w17 g18 hN19 ha => ?_
   have o1 : Ok [] (blkL ao6 ++ (M)) w5.heap.size := Ok.nil _ _
   have o2 : Ok ([g18] ++ (blkL ao6 ++ (M))) (blkL ao6 ++ (M)) w5.heap.size := (Ok.app (hN19.ok _) (Ok.refl _ _))
   have f6 := f6.chg hN19.chg o1 o2 (fun _ _ h => nomatch h) (fun _ h => mr (ml h))
   have p_i20_i6 : ∀ x ∈ [g18], x ∉ (blkL ao6) := fun x hx hy => absurd (hM x (ml hy)) (Nat.not_lt.2 ((hN19.ge1) x hx))
   have p_i20_M : ∀ x ∈ [g18], x ∉ M := fun x hx hy => absurd (hM x (mr (hy))) (Nat.not_lt.2 ((hN19.ge1) x hx))
   have e_i20 : ∀ x ∈ [g18], w.heap.size ≤ x := fun x hx => Nat.le_trans hC.size ((hN19.ge1) x hx)
   have hM : MS ([g18] ++ (blkL ao6 ++ (M))) w17 := (MS.app hN19.ms (hM.chg hN19.chg))
   have hC := hC.trans hN19.chg (Ok.nil _ _)
   have f21 : Own (rInt .u8) 5 w17 ([g18] ++ (blkL ao6 ++ (M))) (some ⟨g18, 0, none⟩) 1 ([IntKind.u8.wrap (Int.fdiv a0 (2 ^ (min (Int.toNat (IntKind.i64.wrap ((8 : Int) * x8))) IntKind.i64.bits)))] : List Int) := hN19.own ⟨([.int .u8 (IntKind.u8.wrap (Int.fdiv a0 (2 ^ (min (Int.toNat (IntKind.i64.wrap ((8 : Int) * x8))) IntKind.i64.bits))))] : List Value), _, rfl, rfl, rfl⟩ (Nat.le_of_ble_eq_true rfl)
   obtain ⟨hx22, H⟩ := ite_some H
   refine app (r := (rInt .u8)) (xs := x7) (ys := ([IntKind.u8.wrap (Int.fdiv a0 (2 ^ (min (Int.toNat (IntKind.i64.wrap ((8 : Int) * x8))) IntKind.i64.bits)))] : List Int)) ha (ElemT.mk' (bytes := 1) (by kernel_rfl)) rfl rfl rfl rfl rfl f6 f21.src hx22 (by decide) fun a w23 ao24 cap24 hO24 hc24 hk24 hl24 ha => ?_
   have o1 : Ok (blkL ao6) ([g18] ++ (blkL ao6 ++ (M))) w17.heap.size := (fun _ h => .inl (mr (ml h)))
   have o2 : Ok (blkL ao24 ++ ([g18] ++ (M))) ([g18] ++ (blkL ao6 ++ (M))) w17.heap.size := (Ok.app (Ok.to hk24 (fun _ h => mr (ml h))) (Ok.app (fun _ h => .inl (ml h)) (fun _ h => .inl (mr (mr (h))))))
   have f21 := f21.chg hc24 o1 o2 p_i20_i6 (fun _ h => mr (ml h))
   have p_i24_i20 : ∀ x ∈ blkL ao24, x ∉ ([g18]) := fun x hx hy => (hk24 x hx).elim (fun h => (fun x hx hy => p_i20_i6 x hy hx) x h hy) (fun h => absurd (hM x (ml hy)) (Nat.not_lt.2 h))
   have p_i24_M : ∀ x ∈ blkL ao24, x ∉ M := fun x hx hy => (hk24 x hx).elim (fun h => p_i6_M x h hy) (fun h => absurd (hM x (mr (mr (hy)))) (Nat.not_lt.2 h))
   have e_i24 : ∀ x ∈ blkL ao24, w.heap.size ≤ x := fun x hx => (hk24 x hx).elim (e_i6 x) (Nat.le_trans hC.size)
   have hM : MS (blkL ao24 ++ ([g18] ++ (M))) w23 := (MS.app hl24 (MS.app (fun x h => hM.chg hc24 x (ml h)) (fun x h => hM.chg hc24 x (mr (mr (h))))))
   have hC := hC.trans hc24 (fun x h => .inr (e_i6 x h))
   have f24 := hO24.chg (M' := blkL ao24 ++ ([g18] ++ (M))) (Chg.refl [] _) (Ok.nil _ _) (Ok.app (fun _ h => .inl (ml h)) (Ok.to (Ok.app (fun _ h => .inl (ml h)) (fun _ h => .inl (mr (mr (h))))) (fun _ h => mr h))) (fun _ _ h => nomatch h) (fun _ h => ml h)
   refine seg ha 1 [(0, .int .i64 a0), (5, .slice ao24 (x7 ++ ([IntKind.u8.wrap (Int.fdiv a0 (2 ^ (min (Int.toNat (IntKind.i64.wrap ((8 : Int) * x8))) IntKind.i64.bits)))] : List Int)).length cap24), (6, .int .i64 x8)] (by kernel_rfl) fun a ha => ?_
   refine hK15 _ _ ?_; try clear hK15 K15
   refine wp_region_lit ?_
   refine seg ha 3 [(0, .int .i64 a0), (5, .slice ao24 (x7 ++ ([IntKind.u8.wrap (Int.fdiv a0 (2 ^ (min (Int.toNat (IntKind.i64.wrap ((8 : Int) * x8))) IntKind.i64.bits)))] : List Int)).length cap24), (6, .int .i64 (IntKind.i64.wrap (x8 - (1 : Int))))] (by kernel_rfl) fun a ha => ?_
   have o1 : Ok [] (blkL ao24 ++ ([g18] ++ (M))) w23.heap.size := Ok.nil _ _
   have o2 : Ok (blkL ao24 ++ (M)) (blkL ao24 ++ ([g18] ++ (M))) w23.heap.size := (Ok.app (fun _ h => .inl (ml h)) (fun _ h => .inl (mr (mr (h)))))
   have f24 := f24.chg (Chg.refl [] _) o1 o2 (fun _ _ h => nomatch h) (fun _ h => ml h)
   have hM : MS (blkL ao24 ++ (M)) w23 := (MS.app (fun x h => hM.chg (Chg.refl [] _) x (ml h)) (fun x h => hM.chg (Chg.refl [] _) x (mr (mr (h)))))
   have hC := hC.trans (Chg.refl [] _) (Ok.nil _ _)
   exact ⟨kk, Nat.lt_succ_self _, ⟨(x7 ++ ([IntKind.u8.wrap (Int.fdiv a0 (2 ^ (min (Int.toNat (IntKind.i64.wrap ((8 : Int) * x8))) IntKind.i64.bits)))] : List Int)), IntKind.i64.wrap (x8 - (1 : Int)), ao24, cap24, H, (ha.sel (by kernel_rfl)), f24, e_i24, p_i24_M, hC, hM⟩⟩
  ·have H := ite_f hc14 H
   refine wp_exit ?_
   simp only [Exit.then, Exit.inBlock, ↓reduceIte, Nat.reduceEqDiff]
   obtain rfl := Option.some.inj H
   exact J5 _ _ ao6 cap6 (ha.sel (by kernel_rfl)) f6 e_i6 p_i6_M hC hM
def vineryref05_Bytes.f (k : Nat) (a0 : Int) (a1 : Bool) : Option (List Int × Int) := (if (if (decide (a0 < (0 : Int))) = true then true else (decide (a0 > (1048575 : Int)))) = true then some ((([] : List Int) : List Int), ((5 : Int) : Int)) else ((if a1 = true then some (IntKind.i64.wrap ((IntKind.i64.wrap ((16 : Int) * a0)) + (1 : Int)) : Int) else some (IntKind.i64.wrap ((16 : Int) * a0) : Int))).bind fun s9 => (vineryref01_Bytes.f k s9 (3 : Int)).bind fun t11 => some ((t11 : List Int), ((0 : Int) : Int)))
set_option maxRecDepth 100000 in
theorem vineryref05_Bytes.walk (w : World) (M : List Nat) (hM : MS M w) (a0 : Int) (a1 : Bool) (k : Nat) (r : List Int × Int) (H : vineryref05_Bytes.f k a0 a1 = some r) :
    To Tryd.prog 49 [.int .i64 a0, .bool a1] w fun v w' => ∃ (ao15 : Option Addr) (cap15 : Nat), v = .tuple #[.slice ao15 r.1.length cap15, .int .i64 r.2] ∧ (Own (rInt .u8) 5 w' (blkL ao15 ++ (M)) ao15 cap15 r.1) ∧ (∀ x ∈ blkL ao15, w.heap.size ≤ x) ∧ Chg [] w w' ∧ MS (blkL ao15 ++ (M)) w' := by
 unfold vineryref05_Bytes.f at H
 refine ent Tryd.func49 rfl [(0, .int .i64 a0), (1, .bool a1)] rfl (by rfl) fun a ha => ?_
 have hC : Chg [] w w := Chg.refl _ _
 refine wp_seq_k fun K1 hK1 => ?_
 refine wp_region_lit ?_
 refine seg ha 2 [(0, .int .i64 a0), (1, .bool a1)] (by kernel_rfl) fun a ha => ?_
 refine hK1 _ _ ?_; try clear hK1 K1
 refine wp_seq_k fun K2 hK2 => ?_
 refine wp_seq_k fun K3 hK3 => ?_
 refine wp_region_lit ?_
 refine seg ha 6 [(0, .int .i64 a0), (1, .bool a1), (12, .bool (if (decide (a0 < (0 : Int))) = true then true else (decide (a0 > (1048575 : Int)))))] (by kernel_rfl) fun a ha => ?_
 refine hK3 _ _ ?_; try clear hK3 K3
 refine cnd ha rfl (fun hc4 => ?_) (fun hc4 => ?_)
 ·have H := ite_t hc4 H
  refine wp_seq_k fun K5 hK5 => ?_
  refine wp_region_lit ?_
  refine seg ha 2 [(4, .slice none 0 0), (5, .int .i64 (5 : Int))] (by kernel_rfl) fun a ha => ?_
  refine hK5 _ _ ?_; try clear hK5 K5
  refine wp_ret ?_
  try simp only [Exit.then, Exit.inBlock]
  have p_z6_M : ∀ x ∈ blkL none, x ∉ M := fun x hx hy => absurd (hM x (hy)) (Nat.not_lt.2 ((fun _ h => nomatch h) x hx))
  have e_z6 : ∀ x ∈ blkL none, w.heap.size ≤ x := fun x hx => Nat.le_trans hC.size ((fun _ h => nomatch h) x hx)
  have hM : MS (blkL none ++ (M)) w := (MS.app (fun _ h => nomatch h) (hM.chg (Chg.refl [] _)))
  have hC := hC.trans (Chg.refl [] _) (Ok.nil _ _)
  obtain rfl := Option.some.inj H
  refine rt2 ha rfl rfl rfl ?_
  exact ⟨none, 0, rfl, Own.nil, e_z6, hC, hM⟩
 ·have H := ite_f hc4 H
  refine wp_skip ?_
  refine hK2 _ _ ?_; try clear hK2 K2
  refine wp_seq_k fun K7 hK7 => ?_
  refine wp_region_lit ?_
  refine seg ha 3 [(1, .bool a1), (6, .int .i64 (IntKind.i64.wrap ((16 : Int) * a0)))] (by kernel_rfl) fun a ha => ?_
  refine hK7 _ _ ?_; try clear hK7 K7
  refine wp_seq_k fun K8 hK8 => ?_
  obtain ⟨s9, H9, H⟩ := bind_some H
  have J9 : ∀ (a : Act) (w9 : World), Has a Tryd.f49.ntmps [(6, .int .i64 s9)] → (Chg [] w w9) → (MS (M) w9) → K8 a w9 := by
   intro a w9 ha hC hM
   refine hK8 _ _ ?_; try clear hK8 K8
   refine wp_seq_k fun K10 hK10 => ?_
   refine wp_region_lit ?_
   refine seg ha 1 [(18, .int .i64 s9)] (by kernel_rfl) fun a ha => ?_
   obtain ⟨t11, H11, H⟩ := bind_some H
   refine cl ha (by rfl) (by kernel_rfl) (by rfl) (by rfl) (by rfl) (vineryref01_Bytes.walk w9 _ hM s9 (3 : Int) k _ H11) ?_
   rintro _ w11 ⟨ao12, cap12, rfl, f12, ne_i12, hc11, hMn⟩ a ha
   have p_i12_M : ∀ x ∈ blkL ao12, x ∉ M := fun x hx hy => absurd (hM x (hy)) (Nat.not_lt.2 (ne_i12 x hx))
   have e_i12 : ∀ x ∈ blkL ao12, w.heap.size ≤ x := fun x hx => Nat.le_trans hC.size (ne_i12 x hx)
   have hM : MS (blkL ao12 ++ (M)) w11 := (MS.app (fun x h => hMn x (ml h)) (hM.chg hc11))
   have hC := hC.trans hc11 (Ok.nil _ _)
   refine seg ha 2 [(4, .slice ao12 t11.length cap12), (5, .int .i64 (0 : Int))] (by kernel_rfl) fun a ha => ?_
   refine hK10 _ _ ?_; try clear hK10 K10
   refine wp_ret ?_
   try simp only [Exit.then, Exit.inBlock]
   obtain rfl := Option.some.inj H
   refine rt2 ha rfl rfl rfl ?_
   exact ⟨ao12, cap12, rfl, f12, e_i12, hC, hM⟩
  have H := H9
  refine wp_seq_k fun K13 hK13 => ?_
  refine wp_region_lit ?_
  refine seg ha 1 [(6, .int .i64 (IntKind.i64.wrap ((16 : Int) * a0))), (15, .bool a1)] (by kernel_rfl) fun a ha => ?_
  refine hK13 _ _ ?_; try clear hK13 K13
  refine cnd ha rfl (fun hc14 => ?_) (fun hc14 => ?_)
  ·have H := ite_t hc14 H
   refine wp_region_lit ?_
   refine seg ha 3 [(6, .int .i64 (IntKind.i64.wrap ((IntKind.i64.wrap ((16 : Int) * a0)) + (1 : Int))))] (by kernel_rfl) fun a ha => ?_
   obtain rfl := Option.some.inj H
   exact J9 _ _ (ha.sel (by kernel_rfl)) hC hM
  ·have H := ite_f hc14 H
   refine wp_skip ?_
   obtain rfl := Option.some.inj H
   exact J9 _ _ (ha.sel (by kernel_rfl)) hC hM
def vineryref02_Bytes.f (k : Nat) (a0 : S_api_Addr) : Option (List Int) := (vineryref02_Right.f k a0).bind fun t8 => (if (!t8) = true then some ((([] : List Int) : List Int)) else (if 0 ≤ (0 : Int) ∧ (0 : Int) ≤ a0.Size ∧ a0.Size ≤ (16 : Int) then (if (([] : List Int).length + (((arL 16 a0.B).take (Int.toNat a0.Size)).drop (Int.toNat (0 : Int))).length) * 1 ≤ 140737488355328 then some (((([] : List Int) ++ (((arL 16 a0.B).take (Int.toNat a0.Size)).drop (Int.toNat (0 : Int)))) : List Int)) else none) else none))
set_option maxRecDepth 100000 in
theorem vineryref02_Bytes.walk (w : World) (M : List Nat) (hM : MS M w) (a0 : S_api_Addr) (k : Nat) (r : List Int) (H : vineryref02_Bytes.f k a0 = some r) :
    To Tryd.prog 50 [.agg (cS_api_Addr a0).toArray] w fun v w' => ∃ (ao25 : Option Addr) (cap25 : Nat), v = .slice ao25 r.length cap25 ∧ (Own (rInt .u8) 5 w' (blkL ao25 ++ (M)) ao25 cap25 r) ∧ (∀ x ∈ blkL ao25, w.heap.size ≤ x) ∧ Chg [] w w' ∧ MS (blkL ao25 ++ (M)) w' := by
 unfold vineryref02_Bytes.f at H
 refine ent Tryd.func50 rfl [(0, .agg (cS_api_Addr a0).toArray)] rfl (by rfl) fun a ha => ?_
 have hC : Chg [] w w := Chg.refl _ _
 refine wp_seq_k fun K1 hK1 => ?_
 refine wp_region_lit ?_
 refine bx (cs := (cS_api_Addr a0)) ha rfl rfl rfl rfl rfl fun a w2 g3 hN4 ha => ?_
 have hn6 := hN4.notin hM
 have hM : MS (M) w2 := (hM.chg hN4.chg)
 have hC := hC.trans hN4.chg (Ok.nil _ _)
 have hE5 : ∀ j v, (cS_api_Addr a0)[j]? = some v → w2.cell? ⟨g3, 0 + j, none⟩ = some v := Box.cells (New.box hN4)
 refine seg ha 1 [(1, .pointer (some ⟨g3, 0, none⟩))] (by kernel_rfl) fun a ha => ?_
 refine hK1 _ _ ?_; try clear hK1 K1
 refine wp_seq_k fun K7 hK7 => ?_
 refine wp_region_lit ?_
 refine ldA (cs := (cS_api_Addr a0)) ha rfl (by kernel_rfl) rfl rfl rfl (cells_sub hE5 (all := (cS_api_Addr a0)) [] [] (by kernel_rfl)) fun a ha => ?_
 obtain ⟨t8, H8, H⟩ := bind_some H
 refine cl ha (by rfl) (by kernel_rfl) (by rfl) (by rfl) (by rfl) (vineryref02_Right.walk w2 _ hM a0 k _ H8) ?_
 rintro _ w8 ⟨rfl, hc8, hMn⟩ a ha
 have o1 : Ok [] (M) w2.heap.size := Ok.nil _ _
 have o2 : Ok (M) (M) w2.heap.size := (Ok.refl _ _)
 have q_hn6 : g3 ∉ M := fun h => (o2 g3 h).elim hn6 (fun h => absurd (lt_cell (hE5 0 _ rfl)) (Nat.not_lt.2 h))
 have hE5 : ∀ j v, (cS_api_Addr a0)[j]? = some v → w8.cell? ⟨g3, 0 + j, none⟩ = some v := fun j v hv => (cell_keep hc8 o1 hn6 (hE5 j v hv))
 have hn6 := q_hn6
 have hM : MS (M) w8 := (hM.chg hc8)
 have hC := hC.trans hc8 (Ok.nil _ _)
 refine seg ha 1 [(1, .pointer (some ⟨g3, 0, none⟩)), (3, .bool t8)] (by kernel_rfl) fun a ha => ?_
 refine hK7 _ _ ?_; try clear hK7 K7
 refine wp_seq_k fun K9 hK9 => ?_
 refine wp_seq_k fun K10 hK10 => ?_
 refine wp_region_lit ?_
 refine seg ha 2 [(1, .pointer (some ⟨g3, 0, none⟩)), (7, .bool (!t8))] (by kernel_rfl) fun a ha => ?_
 refine hK10 _ _ ?_; try clear hK10 K10
 refine cnd ha rfl (fun hc11 => ?_) (fun hc11 => ?_)
 ·have H := ite_t hc11 H
  refine wp_seq_k fun K12 hK12 => ?_
  refine wp_region_lit ?_
  refine seg ha 1 [(2, .slice none 0 0)] (by kernel_rfl) fun a ha => ?_
  refine hK12 _ _ ?_; try clear hK12 K12
  refine wp_ret ?_
  try simp only [Exit.then, Exit.inBlock]
  have p_z13_M : ∀ x ∈ blkL none, x ∉ M := fun x hx hy => absurd (hM x (hy)) (Nat.not_lt.2 ((fun _ h => nomatch h) x hx))
  have e_z13 : ∀ x ∈ blkL none, w.heap.size ≤ x := fun x hx => Nat.le_trans hC.size ((fun _ h => nomatch h) x hx)
  have hM : MS (blkL none ++ (M)) w8 := (MS.app (fun _ h => nomatch h) (hM.chg (Chg.refl [] _)))
  have hC := hC.trans (Chg.refl [] _) (Ok.nil _ _)
  obtain rfl := Option.some.inj H
  refine rt1 ha rfl rfl ?_
  exact ⟨none, 0, rfl, Own.nil, e_z13, hC, hM⟩
 ·have H := ite_f hc11 H
  refine wp_skip ?_
  refine hK9 _ _ ?_; try clear hK9 K9
  refine wp_seq_k fun K14 hK14 => ?_
  refine wp_region_lit ?_
  refine bsl (vals := ([] : List Value)) (T := 5) ha rfl ([] : List Value) (fun w => by kernel_rfl) rfl rfl rfl fun a w15 g16 hN17 ha => ?_
  have o1 : Ok [] (M) w8.heap.size := Ok.nil _ _
  have o2 : Ok ([g16] ++ (M)) (M) w8.heap.size := (Ok.app (hN17.ok _) (Ok.refl _ _))
  have q_hn6 : g3 ∉ [g16] ++ (M) := fun h => (o2 g3 h).elim hn6 (fun h => absurd (lt_cell (hE5 0 _ rfl)) (Nat.not_lt.2 h))
  have hE5 : ∀ j v, (cS_api_Addr a0)[j]? = some v → w15.cell? ⟨g3, 0 + j, none⟩ = some v := fun j v hv => (cell_keep hN17.chg o1 hn6 (hE5 j v hv))
  have hn6 := q_hn6
  have p_i18_M : ∀ x ∈ [g16], x ∉ M := fun x hx hy => absurd (hM x (hy)) (Nat.not_lt.2 ((hN17.ge1) x hx))
  have e_i18 : ∀ x ∈ [g16], w.heap.size ≤ x := fun x hx => Nat.le_trans hC.size ((hN17.ge1) x hx)
  have hM : MS ([g16] ++ (M)) w15 := (MS.app hN17.ms (hM.chg hN17.chg))
  have hC := hC.trans hN17.chg (Ok.nil _ _)
  have f19 : Own (rInt .u8) 5 w15 ([g16] ++ (M)) (some ⟨g16, 0, none⟩) 0 ([] : List Int) := hN17.own rfl (Nat.le_of_ble_eq_true rfl)
  refine seg ha 2 [(8, .slice (some ⟨g16, 0, none⟩) ([] : List Int).length 0), (9, .pointer (some ⟨g3, 0 + 1, none⟩)), (10, .pointer (some ⟨g3, 0, none⟩))] (by kernel_rfl) fun a ha => ?_
  refine ld ha rfl (by kernel_rfl) rfl rfl rfl (hE5 0 (.int .i64 a0.Size) (by kernel_rfl)) fun a ha => ?_
  have f20 : RSl (rInt .u8) 5 w15 ([g16] ++ (M)) (some ⟨g3, 0 + 1, none⟩) 16 (arL 16 a0.B) := RSl.ofA [.int .i64 a0.Size] [] hE5 hn6 (by kernel_rfl) rfl
  obtain ⟨⟨hx21, hx21', hx21''⟩, H⟩ := ite_some H
  obtain ⟨ao21, cap21, f21, hr21⟩ := slA_run (kk := .u8) (T := 5) (N := 16) (g := g3) (o' := 0 + 1) (xs := (arL 16 a0.B)) (t := 22) (lo := Option.none) (hi := (Option.some (Operand.tmp 11))) (l := (0 : Int)) (h := a0.Size) (dd := some 12) (ty := 25) (pos := "ref.go:41") (af := #[{ on := 1, ground := Ground.data }, { on := 3, ground := Ground.data }]) (gd := Option.none) ha (by kernel_rfl) (by kernel_rfl) (x := (Operand.tmp 9)) rfl (arL_length _ _) rfl rfl f20 hx21 hx21' (by rw [arL_length]; exact hx21'')
  refine hop (v := .slice ao21 (((arL 16 a0.B).take (Int.toNat a0.Size)).drop (Int.toNat (0 : Int))).length cap21) (w' := w15) ha rfl rfl rfl (hr21 _) fun a ha => ?_
  obtain ⟨hx22, H⟩ := ite_some H
  refine app (r := (rInt .u8)) (xs := ([] : List Int)) (ys := (((arL 16 a0.B).take (Int.toNat a0.Size)).drop (Int.toNat (0 : Int)))) ha (ElemT.mk' (bytes := 1) (by kernel_rfl)) rfl rfl rfl rfl rfl f19 f21.src hx22 (by decide) fun a w23 ao24 cap24 hO24 hc24 hk24 hl24 ha => ?_
  have o1 : Ok [g16] ([g16] ++ (M)) w15.heap.size := (fun _ h => .inl (ml h))
  have o2 : Ok (blkL ao24 ++ (M)) ([g16] ++ (M)) w15.heap.size := (Ok.app (Ok.to hk24 (fun _ h => ml h)) (fun _ h => .inl (mr (h))))
  have f21 := f21.chg hc24 o1 o2
  have p_i24_M : ∀ x ∈ blkL ao24, x ∉ M := fun x hx hy => (hk24 x hx).elim (fun h => p_i18_M x h hy) (fun h => absurd (hM x (mr (hy))) (Nat.not_lt.2 h))
  have e_i24 : ∀ x ∈ blkL ao24, w.heap.size ≤ x := fun x hx => (hk24 x hx).elim (e_i18 x) (Nat.le_trans hC.size)
  have hM : MS (blkL ao24 ++ (M)) w23 := (MS.app hl24 (fun x h => hM.chg hc24 x (mr (h))))
  have hC := hC.trans hc24 (fun x h => .inr (e_i18 x h))
  have f24 := hO24.chg (M' := blkL ao24 ++ (M)) (Chg.refl [] _) (Ok.nil _ _) (Ok.app (fun _ h => .inl (ml h)) (Ok.to (fun _ h => .inl (mr (h))) (fun _ h => mr h))) (fun _ _ h => nomatch h) (fun _ h => ml h)
  refine seg ha 1 [(2, .slice ao24 (([] : List Int) ++ (((arL 16 a0.B).take (Int.toNat a0.Size)).drop (Int.toNat (0 : Int)))).length cap24)] (by kernel_rfl) fun a ha => ?_
  refine hK14 _ _ ?_; try clear hK14 K14
  refine wp_ret ?_
  try simp only [Exit.then, Exit.inBlock]
  obtain rfl := Option.some.inj H
  refine rt1 ha rfl rfl ?_
  exact ⟨ao24, cap24, rfl, f24, e_i24, hC, hM⟩
def vineryref06_Bytes.f (k : Nat) (a0 : S_api_Tunnel) : Option (List Int × Int) := (vineryref06_Right.f k a0).bind fun t9 => (if (!t9) = true then some ((([] : List Int) : List Int), ((1 : Int) : Int)) else (vineryref05_Bytes.f k a0.Label false).bind fun t16 => (if (([(0 : Int), IntKind.u8.wrap a0.Kind] : List Int).length + t16.1.length) * 1 ≤ 140737488355328 then ((if a0.Leaf = true then (if 0 ≤ (0 : Int) ∧ (0 : Int) < ((([(0 : Int), IntKind.u8.wrap a0.Kind] : List Int) ++ t16.1).length : Int) then some (((([(0 : Int), IntKind.u8.wrap a0.Kind] : List Int) ++ t16.1).set (Int.toNat (0 : Int)) (1 : Int)) : List Int) else none) else some ((([(0 : Int), IntKind.u8.wrap a0.Kind] : List Int) ++ t16.1) : List Int))).bind fun s28 => (vineryref02_Bytes.f k a0.Root).bind fun t31 => (if (a0.Kind == (1 : Int)) = true then (if 0 ≤ (0 : Int) ∧ (0 : Int) ≤ (4 : Int) ∧ (4 : Int) ≤ (a0.Id.length : Int) then (if (s28.length + ((a0.Id.take (Int.toNat (4 : Int))).drop (Int.toNat (0 : Int))).length) * 1 ≤ 140737488355328 then (if ((s28 ++ ((a0.Id.take (Int.toNat (4 : Int))).drop (Int.toNat (0 : Int)))).length + ([(0 : Int), (0 : Int)] : List Int).length) * 1 ≤ 140737488355328 then (if 0 ≤ (4 : Int) ∧ (4 : Int) ≤ (a0.Id.length : Int) ∧ (a0.Id.length : Int) ≤ (a0.Id.length : Int) then (if (((s28 ++ ((a0.Id.take (Int.toNat (4 : Int))).drop (Int.toNat (0 : Int)))) ++ ([(0 : Int), (0 : Int)] : List Int)).length + ((a0.Id.take (Int.toNat (a0.Id.length : Int))).drop (Int.toNat (4 : Int))).length) * 1 ≤ 140737488355328 then (if ((((s28 ++ ((a0.Id.take (Int.toNat (4 : Int))).drop (Int.toNat (0 : Int)))) ++ ([(0 : Int), (0 : Int)] : List Int)) ++ ((a0.Id.take (Int.toNat (a0.Id.length : Int))).drop (Int.toNat (4 : Int)))).length + t31.length) * 1 ≤ 140737488355328 then some ((((((s28 ++ ((a0.Id.take (Int.toNat (4 : Int))).drop (Int.toNat (0 : Int)))) ++ ([(0 : Int), (0 : Int)] : List Int)) ++ ((a0.Id.take (Int.toNat (a0.Id.length : Int))).drop (Int.toNat (4 : Int)))) ++ t31) : List Int), ((0 : Int) : Int)) else none) else none) else none) else none) else none) else none) else ((if (a0.Kind == (2 : Int)) = true then some (a0.Kind == (2 : Int) : Bool) else some (a0.Kind == (7 : Int) : Bool))).bind fun s63 => (if s63 = true then ((if (a0.Kind == (7 : Int)) = true then some ((7 : Int) : Int) else some ((6 : Int) : Int))).bind fun s67 => ((if (a0.Root.Size == (16 : Int)) = true then some ((2 : Int) : Int) else some ((1 : Int) : Int))).bind fun s70 => (if (s28.length + ([s67, (0 : Int), s70, IntKind.u8.wrap a0.Root.Size] : List Int).length) * 1 ≤ 140737488355328 then (if ((s28 ++ ([s67, (0 : Int), s70, IntKind.u8.wrap a0.Root.Size] : List Int)).length + t31.length) * 1 ≤ 140737488355328 then (vineryref01_Bytes.f k (a0.Id.length : Int) (2 : Int)).bind fun t84 => (if (((s28 ++ ([s67, (0 : Int), s70, IntKind.u8.wrap a0.Root.Size] : List Int)) ++ t31).length + t84.length) * 1 ≤ 140737488355328 then (if ((((s28 ++ ([s67, (0 : Int), s70, IntKind.u8.wrap a0.Root.Size] : List Int)) ++ t31) ++ t84).length + a0.Id.length) * 1 ≤ 140737488355328 then some ((((((s28 ++ ([s67, (0 : Int), s70, IntKind.u8.wrap a0.Root.Size] : List Int)) ++ t31) ++ t84) ++ a0.Id) : List Int), ((0 : Int) : Int)) else none) else none) else none) else none) else (if (s28.length + t31.length) * 1 ≤ 140737488355328 then (if ((s28 ++ t31).length + a0.Id.length) * 1 ≤ 140737488355328 then some ((((s28 ++ t31) ++ a0.Id) : List Int), ((0 : Int) : Int)) else none) else none))) else none))
set_option maxRecDepth 100000 in
theorem vineryref06_Bytes.walk (w : World) (M : List Nat) (hM : MS M w) (a0 : S_api_Tunnel) (ao1 : Option Addr) (cap1 : Nat) (f1 : RSl (rInt .u8) 5 w M ao1 cap1 a0.Id) (k : Nat) (r : List Int × Int) (H : vineryref06_Bytes.f k a0 = some r) :
    To Tryd.prog 17 [.agg (cS_api_Tunnel a0 ao1 cap1).toArray] w fun v w' => ∃ (ao112 : Option Addr) (cap112 : Nat), v = .tuple #[.slice ao112 r.1.length cap112, .int .i64 r.2] ∧ (Own (rInt .u8) 5 w' (blkL ao112 ++ (M)) ao112 cap112 r.1) ∧ (∀ x ∈ blkL ao112, w.heap.size ≤ x) ∧ Chg [] w w' ∧ MS (blkL ao112 ++ (M)) w' := by
 unfold vineryref06_Bytes.f at H
 refine ent Tryd.func17 rfl [(0, .agg (cS_api_Tunnel a0 ao1 cap1).toArray)] rfl (by rfl) fun a ha => ?_
 have hC : Chg [] w w := Chg.refl _ _
 refine wp_seq_k fun K2 hK2 => ?_
 refine wp_region_lit ?_
 refine bx (cs := (cS_api_Tunnel a0 ao1 cap1)) ha rfl rfl rfl rfl rfl fun a w3 g4 hN5 ha => ?_
 have hn7 := hN5.notin hM
 have o1 : Ok [] (M) w.heap.size := Ok.nil _ _
 have o2 : Ok (M) (M) w.heap.size := (Ok.refl _ _)
 have f1 := f1.chg hN5.chg o1 o2
 have hM : MS (M) w3 := (hM.chg hN5.chg)
 have hC := hC.trans hN5.chg (Ok.nil _ _)
 have hE6 : ∀ j v, (cS_api_Tunnel a0 ao1 cap1)[j]? = some v → w3.cell? ⟨g4, 0 + j, none⟩ = some v := Box.cells (New.box hN5)
 refine seg ha 2 [(1, .pointer (some ⟨g4, 0, none⟩))] (by kernel_rfl) fun a ha => ?_
 refine hK2 _ _ ?_; try clear hK2 K2
 refine wp_seq_k fun K8 hK8 => ?_
 refine wp_region_lit ?_
 refine ldA (cs := (cS_api_Tunnel a0 ao1 cap1)) ha rfl (by kernel_rfl) rfl rfl rfl (cells_sub hE6 (all := (cS_api_Tunnel a0 ao1 cap1)) [] [] (by kernel_rfl)) fun a ha => ?_
 obtain ⟨t9, H9, H⟩ := bind_some H
 refine cl ha (by rfl) (by kernel_rfl) (by rfl) (by rfl) (by rfl) (vineryref06_Right.walk w3 _ hM a0 ao1 cap1 f1 k _ H9) ?_
 rintro _ w9 ⟨rfl, hc9, hMn⟩ a ha
 have o1 : Ok [] (M) w3.heap.size := Ok.nil _ _
 have o2 : Ok (M) (M) w3.heap.size := (Ok.refl _ _)
 have f1 := f1.chg hc9 o1 o2
 have q_hn7 : g4 ∉ M := fun h => (o2 g4 h).elim hn7 (fun h => absurd (lt_cell (hE6 0 _ rfl)) (Nat.not_lt.2 h))
 have hE6 : ∀ j v, (cS_api_Tunnel a0 ao1 cap1)[j]? = some v → w9.cell? ⟨g4, 0 + j, none⟩ = some v := fun j v hv => (cell_keep hc9 o1 hn7 (hE6 j v hv))
 have hn7 := q_hn7
 have hM : MS (M) w9 := (hM.chg hc9)
 have hC := hC.trans hc9 (Ok.nil _ _)
 refine seg ha 1 [(1, .pointer (some ⟨g4, 0, none⟩)), (4, .bool t9)] (by kernel_rfl) fun a ha => ?_
 refine hK8 _ _ ?_; try clear hK8 K8
 refine wp_seq_k fun K10 hK10 => ?_
 refine wp_seq_k fun K11 hK11 => ?_
 refine wp_region_lit ?_
 refine seg ha 2 [(1, .pointer (some ⟨g4, 0, none⟩)), (14, .bool (!t9))] (by kernel_rfl) fun a ha => ?_
 refine hK11 _ _ ?_; try clear hK11 K11
 refine cnd ha rfl (fun hc12 => ?_) (fun hc12 => ?_)
 ·have H := ite_t hc12 H
  refine wp_seq_k fun K13 hK13 => ?_
  refine wp_region_lit ?_
  refine seg ha 2 [(2, .slice none 0 0), (3, .int .i64 (1 : Int))] (by kernel_rfl) fun a ha => ?_
  refine hK13 _ _ ?_; try clear hK13 K13
  refine wp_ret ?_
  try simp only [Exit.then, Exit.inBlock]
  have p_z14_M : ∀ x ∈ blkL none, x ∉ M := fun x hx hy => absurd (hM x (hy)) (Nat.not_lt.2 ((fun _ h => nomatch h) x hx))
  have e_z14 : ∀ x ∈ blkL none, w.heap.size ≤ x := fun x hx => Nat.le_trans hC.size ((fun _ h => nomatch h) x hx)
  have hM : MS (blkL none ++ (M)) w9 := (MS.app (fun _ h => nomatch h) (hM.chg (Chg.refl [] _)))
  have hC := hC.trans (Chg.refl [] _) (Ok.nil _ _)
  obtain rfl := Option.some.inj H
  refine rt2 ha rfl rfl rfl ?_
  exact ⟨none, 0, rfl, Own.nil, e_z14, hC, hM⟩
 ·have H := ite_f hc12 H
  refine wp_skip ?_
  refine hK10 _ _ ?_; try clear hK10 K10
  refine wp_seq_k fun K15 hK15 => ?_
  refine wp_region_lit ?_
  refine seg ha 1 [(1, .pointer (some ⟨g4, 0, none⟩)), (16, .pointer (some ⟨g4, 0 + 2, none⟩))] (by kernel_rfl) fun a ha => ?_
  refine ld ha rfl (by kernel_rfl) rfl rfl rfl (hE6 2 (.int .i64 a0.Label) (by kernel_rfl)) fun a ha => ?_
  obtain ⟨t16, H16, H⟩ := bind_some H
  refine cl ha (by rfl) (by kernel_rfl) (by rfl) (by rfl) (by rfl) (vineryref05_Bytes.walk w9 _ hM a0.Label false k _ H16) ?_
  rintro _ w16 ⟨ao17, cap17, rfl, f17, ne_i17, hc16, hMn⟩ a ha
  have o1 : Ok [] (M) w9.heap.size := Ok.nil _ _
  have o2 : Ok (blkL ao17 ++ (M)) (M) w9.heap.size := (Ok.app (fun x h => .inr (ne_i17 x h)) (Ok.refl _ _))
  have f1 := f1.chg hc16 o1 o2
  have q_hn7 : g4 ∉ blkL ao17 ++ (M) := fun h => (o2 g4 h).elim hn7 (fun h => absurd (lt_cell (hE6 0 _ rfl)) (Nat.not_lt.2 h))
  have hE6 : ∀ j v, (cS_api_Tunnel a0 ao1 cap1)[j]? = some v → w16.cell? ⟨g4, 0 + j, none⟩ = some v := fun j v hv => (cell_keep hc16 o1 hn7 (hE6 j v hv))
  have hn7 := q_hn7
  have p_i17_M : ∀ x ∈ blkL ao17, x ∉ M := fun x hx hy => absurd (hM x (hy)) (Nat.not_lt.2 (ne_i17 x hx))
  have e_i17 : ∀ x ∈ blkL ao17, w.heap.size ≤ x := fun x hx => Nat.le_trans hC.size (ne_i17 x hx)
  have hM : MS (blkL ao17 ++ (M)) w16 := (MS.app (fun x h => hMn x (ml h)) (hM.chg hc16))
  have hC := hC.trans hc16 (Ok.nil _ _)
  refine seg ha 5 [(1, .pointer (some ⟨g4, 0, none⟩)), (5, .slice ao17 t16.1.length cap17)] (by kernel_rfl) fun a ha => ?_
  refine hK15 _ _ ?_; try clear hK15 K15
  refine wp_seq_k fun K18 hK18 => ?_
  refine wp_region_lit ?_
  refine seg ha 1 [(1, .pointer (some ⟨g4, 0, none⟩)), (5, .slice ao17 t16.1.length cap17), (21, .pointer (some ⟨g4, 0 + 1, none⟩))] (by kernel_rfl) fun a ha => ?_
  refine ld ha rfl (by kernel_rfl) rfl rfl rfl (hE6 1 (.int .i64 a0.Kind) (by kernel_rfl)) fun a ha => ?_
  refine seg ha 1 [(1, .pointer (some ⟨g4, 0, none⟩)), (5, .slice ao17 t16.1.length cap17), (23, .int .u8 (IntKind.u8.wrap a0.Kind))] (by kernel_rfl) fun a ha => ?_
  refine bsl (vals := ([.int .u8 (0 : Int), .int .u8 (IntKind.u8.wrap a0.Kind)] : List Value)) (T := 5) ha rfl (([.int .u8 (0 : Int)] : List Value) ++ (([.int .u8 (IntKind.u8.wrap a0.Kind)] : List Value) ++ ([] : List Value))) (fun w => by kernel_rfl) rfl rfl rfl fun a w19 g20 hN21 ha => ?_
  have o1 : Ok [] (blkL ao17 ++ (M)) w16.heap.size := Ok.nil _ _
  have o2 : Ok ([g20] ++ (blkL ao17 ++ (M))) (blkL ao17 ++ (M)) w16.heap.size := (Ok.app (hN21.ok _) (Ok.refl _ _))
  have f1 := f1.chg hN21.chg o1 o2
  have f17 := f17.chg hN21.chg o1 o2 (fun _ _ h => nomatch h) (fun _ h => mr (ml h))
  have q_hn7 : g4 ∉ [g20] ++ (blkL ao17 ++ (M)) := fun h => (o2 g4 h).elim hn7 (fun h => absurd (lt_cell (hE6 0 _ rfl)) (Nat.not_lt.2 h))
  have hE6 : ∀ j v, (cS_api_Tunnel a0 ao1 cap1)[j]? = some v → w19.cell? ⟨g4, 0 + j, none⟩ = some v := fun j v hv => (cell_keep hN21.chg o1 hn7 (hE6 j v hv))
  have hn7 := q_hn7
  have p_i22_i17 : ∀ x ∈ [g20], x ∉ (blkL ao17) := fun x hx hy => absurd (hM x (ml hy)) (Nat.not_lt.2 ((hN21.ge1) x hx))
  have p_i22_M : ∀ x ∈ [g20], x ∉ M := fun x hx hy => absurd (hM x (mr (hy))) (Nat.not_lt.2 ((hN21.ge1) x hx))
  have e_i22 : ∀ x ∈ [g20], w.heap.size ≤ x := fun x hx => Nat.le_trans hC.size ((hN21.ge1) x hx)
  have hM : MS ([g20] ++ (blkL ao17 ++ (M))) w19 := (MS.app hN21.ms (hM.chg hN21.chg))
  have hC := hC.trans hN21.chg (Ok.nil _ _)
  have f23 : Own (rInt .u8) 5 w19 ([g20] ++ (blkL ao17 ++ (M))) (some ⟨g20, 0, none⟩) 2 ([(0 : Int), IntKind.u8.wrap a0.Kind] : List Int) := hN21.own ⟨([.int .u8 (0 : Int)] : List Value), _, rfl, rfl, ⟨([.int .u8 (IntKind.u8.wrap a0.Kind)] : List Value), _, rfl, rfl, rfl⟩⟩ (Nat.le_of_ble_eq_true rfl)
  refine seg ha 1 [(1, .pointer (some ⟨g4, 0, none⟩)), (24, .slice (some ⟨g20, 0, none⟩) ([(0 : Int), IntKind.u8.wrap a0.Kind] : List Int).length 2), (25, .slice ao17 t16.1.length cap17)] (by kernel_rfl) fun a ha => ?_
  obtain ⟨hx24, H⟩ := ite_some H
  refine app (r := (rInt .u8)) (xs := ([(0 : Int), IntKind.u8.wrap a0.Kind] : List Int)) (ys := t16.1) ha (ElemT.mk' (bytes := 1) (by kernel_rfl)) rfl rfl rfl rfl rfl f23 f17.src hx24 (by decide) fun a w25 ao26 cap26 hO26 hc26 hk26 hl26 ha => ?_
  have o1 : Ok [g20] ([g20] ++ (blkL ao17 ++ (M))) w19.heap.size := (fun _ h => .inl (ml h))
  have o2 : Ok (blkL ao26 ++ (blkL ao17 ++ (M))) ([g20] ++ (blkL ao17 ++ (M))) w19.heap.size := (Ok.app (Ok.to hk26 (fun _ h => ml h)) (fun _ h => .inl (mr (h))))
  have f1 := f1.chg hc26 o1 o2
  have f17 := f17.chg hc26 o1 o2 (fun x (hx : x ∈ blkL ao17) (hy : x ∈ [g20]) => p_i22_i17 x hy hx) (fun _ h => mr (ml h))
  have q_hn7 : g4 ∉ blkL ao26 ++ (blkL ao17 ++ (M)) := fun h => (o2 g4 h).elim hn7 (fun h => absurd (lt_cell (hE6 0 _ rfl)) (Nat.not_lt.2 h))
  have hE6 : ∀ j v, (cS_api_Tunnel a0 ao1 cap1)[j]? = some v → w25.cell? ⟨g4, 0 + j, none⟩ = some v := fun j v hv => (cell_keep hc26 o1 hn7 (hE6 j v hv))
  have hn7 := q_hn7
  have p_i26_i17 : ∀ x ∈ blkL ao26, x ∉ (blkL ao17) := fun x hx hy => (hk26 x hx).elim (fun h => p_i22_i17 x h hy) (fun h => absurd (hM x (mr (ml hy))) (Nat.not_lt.2 h))
  have p_i26_M : ∀ x ∈ blkL ao26, x ∉ M := fun x hx hy => (hk26 x hx).elim (fun h => p_i22_M x h hy) (fun h => absurd (hM x (mr (mr (hy)))) (Nat.not_lt.2 h))
  have e_i26 : ∀ x ∈ blkL ao26, w.heap.size ≤ x := fun x hx => (hk26 x hx).elim (e_i22 x) (Nat.le_trans hC.size)
  have hM : MS (blkL ao26 ++ (blkL ao17 ++ (M))) w25 := (MS.app hl26 (fun x h => hM.chg hc26 x (mr (h))))
  have hC := hC.trans hc26 (fun x h => .inr (e_i22 x h))
  have f26 := hO26.chg (M' := blkL ao26 ++ (blkL ao17 ++ (M))) (Chg.refl [] _) (Ok.nil _ _) (Ok.app (fun _ h => .inl (ml h)) (Ok.to (fun _ h => .inl (mr (h))) (fun _ h => mr h))) (fun _ _ h => nomatch h) (fun _ h => ml h)
  refine seg ha 1 [(1, .pointer (some ⟨g4, 0, none⟩)), (7, .slice ao26 (([(0 : Int), IntKind.u8.wrap a0.Kind] : List Int) ++ t16.1).length cap26)] (by kernel_rfl) fun a ha => ?_
  refine hK18 _ _ ?_; try clear hK18 K18
  refine wp_seq_k fun K27 hK27 => ?_
  obtain ⟨s28, H28, H⟩ := bind_some H
  have J28 : ∀ (a : Act) (w28 : World) (ao29 : Option Addr) (cap29 : Nat), Has a Tryd.f17.ntmps [(1, .pointer (some ⟨g4, 0, none⟩)), (7, .slice ao29 s28.length cap29)] → (RSl (rInt .u8) 5 w28 (blkL ao29 ++ (M)) ao1 cap1 a0.Id) → (Own (rInt .u8) 5 w28 (blkL ao29 ++ (M)) ao29 cap29 s28) → (∀ j v, (cS_api_Tunnel a0 ao1 cap1)[j]? = some v → w28.cell? ⟨g4, 0 + j, none⟩ = some v) → (g4 ∉ (blkL ao29 ++ (M))) → (∀ x ∈ blkL ao29, w.heap.size ≤ x) → (∀ x ∈ blkL ao29, x ∉ M) → (Chg [] w w28) → (MS (blkL ao29 ++ (M)) w28) → K27 a w28 := by
   intro a w28 ao29 cap29 ha f1 f29 hE6 hn7 e_i29 p_i29_M hC hM
   refine hK27 _ _ ?_; try clear hK27 K27
   refine wp_seq_k fun K30 hK30 => ?_
   refine wp_region_lit ?_
   refine seg ha 1 [(1, .pointer (some ⟨g4, 0, none⟩)), (7, .slice ao29 s28.length cap29), (31, .pointer (some ⟨g4, 0 + 3, none⟩))] (by kernel_rfl) fun a ha => ?_
   refine ldA (cs := (cS_api_Addr a0.Root)) ha rfl (by kernel_rfl) rfl rfl rfl (cells_sub hE6 (all := (cS_api_Tunnel a0 ao1 cap1)) [.bool a0.Leaf, .int .i64 a0.Kind, .int .i64 a0.Label] [.slice ao1 a0.Id.length cap1] (by kernel_rfl)) fun a ha => ?_
   obtain ⟨t31, H31, H⟩ := bind_some H
   refine cl ha (by rfl) (by kernel_rfl) (by rfl) (by rfl) (by rfl) (vineryref02_Bytes.walk w28 _ hM a0.Root k _ H31) ?_
   rintro _ w31 ⟨ao32, cap32, rfl, f32, ne_i32, hc31, hMn⟩ a ha
   have o1 : Ok [] (blkL ao29 ++ (M)) w28.heap.size := Ok.nil _ _
   have o2 : Ok (blkL ao32 ++ (blkL ao29 ++ (M))) (blkL ao29 ++ (M)) w28.heap.size := (Ok.app (fun x h => .inr (ne_i32 x h)) (Ok.refl _ _))
   have f1 := f1.chg hc31 o1 o2
   have f29 := f29.chg hc31 o1 o2 (fun _ _ h => nomatch h) (fun _ h => mr (ml h))
   have q_hn7 : g4 ∉ blkL ao32 ++ (blkL ao29 ++ (M)) := fun h => (o2 g4 h).elim hn7 (fun h => absurd (lt_cell (hE6 0 _ rfl)) (Nat.not_lt.2 h))
   have hE6 : ∀ j v, (cS_api_Tunnel a0 ao1 cap1)[j]? = some v → w31.cell? ⟨g4, 0 + j, none⟩ = some v := fun j v hv => (cell_keep hc31 o1 hn7 (hE6 j v hv))
   have hn7 := q_hn7
   have p_i32_i29 : ∀ x ∈ blkL ao32, x ∉ (blkL ao29) := fun x hx hy => absurd (hM x (ml hy)) (Nat.not_lt.2 (ne_i32 x hx))
   have p_i32_M : ∀ x ∈ blkL ao32, x ∉ M := fun x hx hy => absurd (hM x (mr (hy))) (Nat.not_lt.2 (ne_i32 x hx))
   have e_i32 : ∀ x ∈ blkL ao32, w.heap.size ≤ x := fun x hx => Nat.le_trans hC.size (ne_i32 x hx)
   have hM : MS (blkL ao32 ++ (blkL ao29 ++ (M))) w31 := (MS.app (fun x h => hMn x (ml h)) (hM.chg hc31))
   have hC := hC.trans hc31 (Ok.nil _ _)
   refine seg ha 1 [(1, .pointer (some ⟨g4, 0, none⟩)), (7, .slice ao29 s28.length cap29), (8, .slice ao32 t31.length cap32)] (by kernel_rfl) fun a ha => ?_
   refine hK30 _ _ ?_; try clear hK30 K30
   refine wp_seq_k fun K33 hK33 => ?_
   refine wp_seq_k fun K34 hK34 => ?_
   refine wp_region_lit ?_
   refine seg ha 1 [(1, .pointer (some ⟨g4, 0, none⟩)), (7, .slice ao29 s28.length cap29), (8, .slice ao32 t31.length cap32), (34, .pointer (some ⟨g4, 0 + 1, none⟩))] (by kernel_rfl) fun a ha => ?_
   refine ld ha rfl (by kernel_rfl) rfl rfl rfl (hE6 1 (.int .i64 a0.Kind) (by kernel_rfl)) fun a ha => ?_
   refine hK34 _ _ ?_; try clear hK34 K34
   refine wp_block ?_
   refine wp_seq_k fun K35 hK35 => ?_
   refine wp_region_lit ?_
   refine seg ha 2 [(1, .pointer (some ⟨g4, 0, none⟩)), (7, .slice ao29 s28.length cap29), (8, .slice ao32 t31.length cap32), (35, .int .i64 a0.Kind), (39, .bool (a0.Kind == (1 : Int)))] (by kernel_rfl) fun a ha => ?_
   refine hK35 _ _ ?_; try clear hK35 K35
   refine cnd ha rfl (fun hc36 => ?_) (fun hc36 => ?_)
   ·have H := ite_t hc36 H
    refine wp_seq_k fun K37 hK37 => ?_
    refine wp_region_lit ?_
    refine seg ha 2 [(1, .pointer (some ⟨g4, 0, none⟩)), (8, .slice ao32 t31.length cap32), (41, .slice ao29 s28.length cap29), (42, .pointer (some ⟨g4, 0 + 20, none⟩))] (by kernel_rfl) fun a ha => ?_
    refine ld ha rfl (by kernel_rfl) rfl rfl rfl (hE6 20 (.slice ao1 a0.Id.length cap1) (by kernel_rfl)) fun a ha => ?_
    obtain ⟨⟨hx38, hx38', hx38''⟩, H⟩ := ite_some H
    refine slc (r := (rInt .u8)) (l := (0 : Int)) (h := (4 : Int)) ha (by kernel_rfl) (by kernel_rfl) rfl rfl rfl rfl rfl rfl f1 hx38 hx38' hx38'' fun a ao39 cap39 f39 ha => ?_
    obtain ⟨hx40, H⟩ := ite_some H
    refine app (r := (rInt .u8)) (xs := s28) (ys := ((a0.Id.take (Int.toNat (4 : Int))).drop (Int.toNat (0 : Int)))) ha (ElemT.mk' (bytes := 1) (by kernel_rfl)) rfl rfl rfl rfl rfl f29 f39.src hx40 (by decide) fun a w41 ao42 cap42 hO42 hc42 hk42 hl42 ha => ?_
    have o1 : Ok (blkL ao29) (blkL ao32 ++ (blkL ao29 ++ (M))) w31.heap.size := (fun _ h => .inl (mr (ml h)))
    have o2 : Ok (blkL ao42 ++ (blkL ao32 ++ (M))) (blkL ao32 ++ (blkL ao29 ++ (M))) w31.heap.size := (Ok.app (Ok.to hk42 (fun _ h => mr (ml h))) (Ok.app (fun _ h => .inl (ml h)) (fun _ h => .inl (mr (mr (h))))))
    have f1 := f1.chg hc42 o1 o2
    have f32 := f32.chg hc42 o1 o2 p_i32_i29 (fun _ h => mr (ml h))
    have f39 := f39.chg hc42 o1 o2
    have q_hn7 : g4 ∉ blkL ao42 ++ (blkL ao32 ++ (M)) := fun h => (o2 g4 h).elim hn7 (fun h => absurd (lt_cell (hE6 0 _ rfl)) (Nat.not_lt.2 h))
    have hE6 : ∀ j v, (cS_api_Tunnel a0 ao1 cap1)[j]? = some v → w41.cell? ⟨g4, 0 + j, none⟩ = some v := fun j v hv => (cell_keep hc42 o1 hn7 (hE6 j v hv))
    have hn7 := q_hn7
    have p_i42_i32 : ∀ x ∈ blkL ao42, x ∉ (blkL ao32) := fun x hx hy => (hk42 x hx).elim (fun h => (fun x hx hy => p_i32_i29 x hy hx) x h hy) (fun h => absurd (hM x (ml hy)) (Nat.not_lt.2 h))
    have p_i42_M : ∀ x ∈ blkL ao42, x ∉ M := fun x hx hy => (hk42 x hx).elim (fun h => p_i29_M x h hy) (fun h => absurd (hM x (mr (mr (hy)))) (Nat.not_lt.2 h))
    have e_i42 : ∀ x ∈ blkL ao42, w.heap.size ≤ x := fun x hx => (hk42 x hx).elim (e_i29 x) (Nat.le_trans hC.size)
    have hM : MS (blkL ao42 ++ (blkL ao32 ++ (M))) w41 := (MS.app hl42 (MS.app (fun x h => hM.chg hc42 x (ml h)) (fun x h => hM.chg hc42 x (mr (mr (h))))))
    have hC := hC.trans hc42 (fun x h => .inr (e_i29 x h))
    have f42 := hO42.chg (M' := blkL ao42 ++ (blkL ao32 ++ (M))) (Chg.refl [] _) (Ok.nil _ _) (Ok.app (fun _ h => .inl (ml h)) (Ok.to (Ok.app (fun _ h => .inl (ml h)) (fun _ h => .inl (mr (mr (h))))) (fun _ h => mr h))) (fun _ _ h => nomatch h) (fun _ h => ml h)
    refine seg ha 1 [(1, .pointer (some ⟨g4, 0, none⟩)), (7, .slice ao42 (s28 ++ ((a0.Id.take (Int.toNat (4 : Int))).drop (Int.toNat (0 : Int)))).length cap42), (8, .slice ao32 t31.length cap32)] (by kernel_rfl) fun a ha => ?_
    refine hK37 _ _ ?_; try clear hK37 K37
    refine wp_seq_k fun K43 hK43 => ?_
    refine wp_region_lit ?_
    refine seg ha 1 [(1, .pointer (some ⟨g4, 0, none⟩)), (8, .slice ao32 t31.length cap32), (46, .slice ao42 (s28 ++ ((a0.Id.take (Int.toNat (4 : Int))).drop (Int.toNat (0 : Int)))).length cap42)] (by kernel_rfl) fun a ha => ?_
    refine bsl (vals := ([.int .u8 (0 : Int), .int .u8 (0 : Int)] : List Value)) (T := 5) ha rfl (([.int .u8 (0 : Int)] : List Value) ++ (([.int .u8 (0 : Int)] : List Value) ++ ([] : List Value))) (fun w => by kernel_rfl) rfl rfl rfl fun a w44 g45 hN46 ha => ?_
    have o1 : Ok [] (blkL ao42 ++ (blkL ao32 ++ (M))) w41.heap.size := Ok.nil _ _
    have o2 : Ok ([g45] ++ (blkL ao42 ++ (blkL ao32 ++ (M)))) (blkL ao42 ++ (blkL ao32 ++ (M))) w41.heap.size := (Ok.app (hN46.ok _) (Ok.refl _ _))
    have f1 := f1.chg hN46.chg o1 o2
    have f32 := f32.chg hN46.chg o1 o2 (fun _ _ h => nomatch h) (fun _ h => mr (mr (ml h)))
    have f42 := f42.chg hN46.chg o1 o2 (fun _ _ h => nomatch h) (fun _ h => mr (ml h))
    have q_hn7 : g4 ∉ [g45] ++ (blkL ao42 ++ (blkL ao32 ++ (M))) := fun h => (o2 g4 h).elim hn7 (fun h => absurd (lt_cell (hE6 0 _ rfl)) (Nat.not_lt.2 h))
    have hE6 : ∀ j v, (cS_api_Tunnel a0 ao1 cap1)[j]? = some v → w44.cell? ⟨g4, 0 + j, none⟩ = some v := fun j v hv => (cell_keep hN46.chg o1 hn7 (hE6 j v hv))
    have hn7 := q_hn7
    have p_i47_i42 : ∀ x ∈ [g45], x ∉ (blkL ao42) := fun x hx hy => absurd (hM x (ml hy)) (Nat.not_lt.2 ((hN46.ge1) x hx))
    have p_i47_i32 : ∀ x ∈ [g45], x ∉ (blkL ao32) := fun x hx hy => absurd (hM x (mr (ml hy))) (Nat.not_lt.2 ((hN46.ge1) x hx))
    have p_i47_M : ∀ x ∈ [g45], x ∉ M := fun x hx hy => absurd (hM x (mr (mr (hy)))) (Nat.not_lt.2 ((hN46.ge1) x hx))
    have e_i47 : ∀ x ∈ [g45], w.heap.size ≤ x := fun x hx => Nat.le_trans hC.size ((hN46.ge1) x hx)
    have hM : MS ([g45] ++ (blkL ao42 ++ (blkL ao32 ++ (M)))) w44 := (MS.app hN46.ms (hM.chg hN46.chg))
    have hC := hC.trans hN46.chg (Ok.nil _ _)
    have f48 : Own (rInt .u8) 5 w44 ([g45] ++ (blkL ao42 ++ (blkL ao32 ++ (M)))) (some ⟨g45, 0, none⟩) 2 ([(0 : Int), (0 : Int)] : List Int) := hN46.own ⟨([.int .u8 (0 : Int)] : List Value), _, rfl, rfl, ⟨([.int .u8 (0 : Int)] : List Value), _, rfl, rfl, rfl⟩⟩ (Nat.le_of_ble_eq_true rfl)
    obtain ⟨hx49, H⟩ := ite_some H
    refine app (r := (rInt .u8)) (xs := (s28 ++ ((a0.Id.take (Int.toNat (4 : Int))).drop (Int.toNat (0 : Int))))) (ys := ([(0 : Int), (0 : Int)] : List Int)) ha (ElemT.mk' (bytes := 1) (by kernel_rfl)) rfl rfl rfl rfl rfl f42 f48.src hx49 (by decide) fun a w50 ao51 cap51 hO51 hc51 hk51 hl51 ha => ?_
    have o1 : Ok (blkL ao42) ([g45] ++ (blkL ao42 ++ (blkL ao32 ++ (M)))) w44.heap.size := (fun _ h => .inl (mr (ml h)))
    have o2 : Ok (blkL ao51 ++ ([g45] ++ (blkL ao32 ++ (M)))) ([g45] ++ (blkL ao42 ++ (blkL ao32 ++ (M)))) w44.heap.size := (Ok.app (Ok.to hk51 (fun _ h => mr (ml h))) (Ok.app (fun _ h => .inl (ml h)) (fun _ h => .inl (mr (mr (h))))))
    have f1 := f1.chg hc51 o1 o2
    have f32 := f32.chg hc51 o1 o2 (fun x (hx : x ∈ blkL ao32) (hy : x ∈ blkL ao42) => p_i42_i32 x hy hx) (fun _ h => mr (mr (ml h)))
    have f48 := f48.chg hc51 o1 o2 p_i47_i42 (fun _ h => mr (ml h))
    have q_hn7 : g4 ∉ blkL ao51 ++ ([g45] ++ (blkL ao32 ++ (M))) := fun h => (o2 g4 h).elim hn7 (fun h => absurd (lt_cell (hE6 0 _ rfl)) (Nat.not_lt.2 h))
    have hE6 : ∀ j v, (cS_api_Tunnel a0 ao1 cap1)[j]? = some v → w50.cell? ⟨g4, 0 + j, none⟩ = some v := fun j v hv => (cell_keep hc51 o1 hn7 (hE6 j v hv))
    have hn7 := q_hn7
    have p_i51_i47 : ∀ x ∈ blkL ao51, x ∉ ([g45]) := fun x hx hy => (hk51 x hx).elim (fun h => (fun x hx hy => p_i47_i42 x hy hx) x h hy) (fun h => absurd (hM x (ml hy)) (Nat.not_lt.2 h))
    have p_i51_i32 : ∀ x ∈ blkL ao51, x ∉ (blkL ao32) := fun x hx hy => (hk51 x hx).elim (fun h => p_i42_i32 x h hy) (fun h => absurd (hM x (mr (mr (ml hy)))) (Nat.not_lt.2 h))
    have p_i51_M : ∀ x ∈ blkL ao51, x ∉ M := fun x hx hy => (hk51 x hx).elim (fun h => p_i42_M x h hy) (fun h => absurd (hM x (mr (mr (mr (hy))))) (Nat.not_lt.2 h))
    have e_i51 : ∀ x ∈ blkL ao51, w.heap.size ≤ x := fun x hx => (hk51 x hx).elim (e_i42 x) (Nat.le_trans hC.size)
    have hM : MS (blkL ao51 ++ ([g45] ++ (blkL ao32 ++ (M)))) w50 := (MS.app hl51 (MS.app (fun x h => hM.chg hc51 x (ml h)) (fun x h => hM.chg hc51 x (mr (mr (h))))))
    have hC := hC.trans hc51 (fun x h => .inr (e_i42 x h))
    have f51 := hO51.chg (M' := blkL ao51 ++ ([g45] ++ (blkL ao32 ++ (M)))) (Chg.refl [] _) (Ok.nil _ _) (Ok.app (fun _ h => .inl (ml h)) (Ok.to (Ok.app (fun _ h => .inl (ml h)) (fun _ h => .inl (mr (mr (h))))) (fun _ h => mr h))) (fun _ _ h => nomatch h) (fun _ h => ml h)
    refine seg ha 1 [(1, .pointer (some ⟨g4, 0, none⟩)), (7, .slice ao51 ((s28 ++ ((a0.Id.take (Int.toNat (4 : Int))).drop (Int.toNat (0 : Int)))) ++ ([(0 : Int), (0 : Int)] : List Int)).length cap51), (8, .slice ao32 t31.length cap32)] (by kernel_rfl) fun a ha => ?_
    refine hK43 _ _ ?_; try clear hK43 K43
    refine wp_seq_k fun K52 hK52 => ?_
    refine wp_region_lit ?_
    refine seg ha 2 [(8, .slice ao32 t31.length cap32), (49, .slice ao51 ((s28 ++ ((a0.Id.take (Int.toNat (4 : Int))).drop (Int.toNat (0 : Int)))) ++ ([(0 : Int), (0 : Int)] : List Int)).length cap51), (50, .pointer (some ⟨g4, 0 + 20, none⟩))] (by kernel_rfl) fun a ha => ?_
    refine ld ha rfl (by kernel_rfl) rfl rfl rfl (hE6 20 (.slice ao1 a0.Id.length cap1) (by kernel_rfl)) fun a ha => ?_
    obtain ⟨⟨hx53, hx53', hx53''⟩, H⟩ := ite_some H
    refine slc (r := (rInt .u8)) (l := (4 : Int)) (h := (a0.Id.length : Int)) ha (by kernel_rfl) (by kernel_rfl) rfl rfl rfl rfl rfl rfl f1 hx53 hx53' hx53'' fun a ao54 cap54 f54 ha => ?_
    obtain ⟨hx55, H⟩ := ite_some H
    refine app (r := (rInt .u8)) (xs := ((s28 ++ ((a0.Id.take (Int.toNat (4 : Int))).drop (Int.toNat (0 : Int)))) ++ ([(0 : Int), (0 : Int)] : List Int))) (ys := ((a0.Id.take (Int.toNat (a0.Id.length : Int))).drop (Int.toNat (4 : Int)))) ha (ElemT.mk' (bytes := 1) (by kernel_rfl)) rfl rfl rfl rfl rfl f51 f54.src hx55 (by decide) fun a w56 ao57 cap57 hO57 hc57 hk57 hl57 ha => ?_
    have o1 : Ok (blkL ao51) (blkL ao51 ++ ([g45] ++ (blkL ao32 ++ (M)))) w50.heap.size := (fun _ h => .inl (ml h))
    have o2 : Ok (blkL ao57 ++ ([g45] ++ (blkL ao32 ++ (M)))) (blkL ao51 ++ ([g45] ++ (blkL ao32 ++ (M)))) w50.heap.size := (Ok.app (Ok.to hk57 (fun _ h => ml h)) (fun _ h => .inl (mr (h))))
    have f32 := f32.chg hc57 o1 o2 (fun x (hx : x ∈ blkL ao32) (hy : x ∈ blkL ao51) => p_i51_i32 x hy hx) (fun _ h => mr (mr (ml h)))
    have f54 := f54.chg hc57 o1 o2
    have p_i57_i47 : ∀ x ∈ blkL ao57, x ∉ ([g45]) := fun x hx hy => (hk57 x hx).elim (fun h => p_i51_i47 x h hy) (fun h => absurd (hM x (mr (ml hy))) (Nat.not_lt.2 h))
    have p_i57_i32 : ∀ x ∈ blkL ao57, x ∉ (blkL ao32) := fun x hx hy => (hk57 x hx).elim (fun h => p_i51_i32 x h hy) (fun h => absurd (hM x (mr (mr (ml hy)))) (Nat.not_lt.2 h))
    have p_i57_M : ∀ x ∈ blkL ao57, x ∉ M := fun x hx hy => (hk57 x hx).elim (fun h => p_i51_M x h hy) (fun h => absurd (hM x (mr (mr (mr (hy))))) (Nat.not_lt.2 h))
    have e_i57 : ∀ x ∈ blkL ao57, w.heap.size ≤ x := fun x hx => (hk57 x hx).elim (e_i51 x) (Nat.le_trans hC.size)
    have hM : MS (blkL ao57 ++ ([g45] ++ (blkL ao32 ++ (M)))) w56 := (MS.app hl57 (fun x h => hM.chg hc57 x (mr (h))))
    have hC := hC.trans hc57 (fun x h => .inr (e_i51 x h))
    have f57 := hO57.chg (M' := blkL ao57 ++ ([g45] ++ (blkL ao32 ++ (M)))) (Chg.refl [] _) (Ok.nil _ _) (Ok.app (fun _ h => .inl (ml h)) (Ok.to (fun _ h => .inl (mr (h))) (fun _ h => mr h))) (fun _ _ h => nomatch h) (fun _ h => ml h)
    refine seg ha 1 [(7, .slice ao57 (((s28 ++ ((a0.Id.take (Int.toNat (4 : Int))).drop (Int.toNat (0 : Int)))) ++ ([(0 : Int), (0 : Int)] : List Int)) ++ ((a0.Id.take (Int.toNat (a0.Id.length : Int))).drop (Int.toNat (4 : Int)))).length cap57), (8, .slice ao32 t31.length cap32)] (by kernel_rfl) fun a ha => ?_
    refine hK52 _ _ ?_; try clear hK52 K52
    refine wp_seq_k fun K58 hK58 => ?_
    refine wp_region_lit ?_
    refine seg ha 2 [(54, .slice ao57 (((s28 ++ ((a0.Id.take (Int.toNat (4 : Int))).drop (Int.toNat (0 : Int)))) ++ ([(0 : Int), (0 : Int)] : List Int)) ++ ((a0.Id.take (Int.toNat (a0.Id.length : Int))).drop (Int.toNat (4 : Int)))).length cap57), (55, .slice ao32 t31.length cap32)] (by kernel_rfl) fun a ha => ?_
    obtain ⟨hx59, H⟩ := ite_some H
    refine app (r := (rInt .u8)) (xs := (((s28 ++ ((a0.Id.take (Int.toNat (4 : Int))).drop (Int.toNat (0 : Int)))) ++ ([(0 : Int), (0 : Int)] : List Int)) ++ ((a0.Id.take (Int.toNat (a0.Id.length : Int))).drop (Int.toNat (4 : Int))))) (ys := t31) ha (ElemT.mk' (bytes := 1) (by kernel_rfl)) rfl rfl rfl rfl rfl f57 f32.src hx59 (by decide) fun a w60 ao61 cap61 hO61 hc61 hk61 hl61 ha => ?_
    have o1 : Ok (blkL ao57) (blkL ao57 ++ ([g45] ++ (blkL ao32 ++ (M)))) w56.heap.size := (fun _ h => .inl (ml h))
    have o2 : Ok (blkL ao61 ++ ([g45] ++ (blkL ao32 ++ (M)))) (blkL ao57 ++ ([g45] ++ (blkL ao32 ++ (M)))) w56.heap.size := (Ok.app (Ok.to hk61 (fun _ h => ml h)) (fun _ h => .inl (mr (h))))
    have f32 := f32.chg hc61 o1 o2 (fun x (hx : x ∈ blkL ao32) (hy : x ∈ blkL ao57) => p_i57_i32 x hy hx) (fun _ h => mr (mr (ml h)))
    have p_i61_i47 : ∀ x ∈ blkL ao61, x ∉ ([g45]) := fun x hx hy => (hk61 x hx).elim (fun h => p_i57_i47 x h hy) (fun h => absurd (hM x (mr (ml hy))) (Nat.not_lt.2 h))
    have p_i61_i32 : ∀ x ∈ blkL ao61, x ∉ (blkL ao32) := fun x hx hy => (hk61 x hx).elim (fun h => p_i57_i32 x h hy) (fun h => absurd (hM x (mr (mr (ml hy)))) (Nat.not_lt.2 h))
    have p_i61_M : ∀ x ∈ blkL ao61, x ∉ M := fun x hx hy => (hk61 x hx).elim (fun h => p_i57_M x h hy) (fun h => absurd (hM x (mr (mr (mr (hy))))) (Nat.not_lt.2 h))
    have e_i61 : ∀ x ∈ blkL ao61, w.heap.size ≤ x := fun x hx => (hk61 x hx).elim (e_i57 x) (Nat.le_trans hC.size)
    have hM : MS (blkL ao61 ++ ([g45] ++ (blkL ao32 ++ (M)))) w60 := (MS.app hl61 (fun x h => hM.chg hc61 x (mr (h))))
    have hC := hC.trans hc61 (fun x h => .inr (e_i57 x h))
    have f61 := hO61.chg (M' := blkL ao61 ++ ([g45] ++ (blkL ao32 ++ (M)))) (Chg.refl [] _) (Ok.nil _ _) (Ok.app (fun _ h => .inl (ml h)) (Ok.to (fun _ h => .inl (mr (h))) (fun _ h => mr h))) (fun _ _ h => nomatch h) (fun _ h => ml h)
    refine seg ha 2 [(2, .slice ao61 ((((s28 ++ ((a0.Id.take (Int.toNat (4 : Int))).drop (Int.toNat (0 : Int)))) ++ ([(0 : Int), (0 : Int)] : List Int)) ++ ((a0.Id.take (Int.toNat (a0.Id.length : Int))).drop (Int.toNat (4 : Int)))) ++ t31).length cap61), (3, .int .i64 (0 : Int))] (by kernel_rfl) fun a ha => ?_
    refine hK58 _ _ ?_; try clear hK58 K58
    refine wp_ret ?_
    try simp only [Exit.then, Exit.inBlock]
    have o1 : Ok [] (blkL ao61 ++ ([g45] ++ (blkL ao32 ++ (M)))) w60.heap.size := Ok.nil _ _
    have o2 : Ok (blkL ao61 ++ (M)) (blkL ao61 ++ ([g45] ++ (blkL ao32 ++ (M)))) w60.heap.size := (Ok.app (fun _ h => .inl (ml h)) (fun _ h => .inl (mr (mr (mr (h))))))
    have f61 := f61.chg (Chg.refl [] _) o1 o2 (fun _ _ h => nomatch h) (fun _ h => ml h)
    have hM : MS (blkL ao61 ++ (M)) w60 := (MS.app (fun x h => hM.chg (Chg.refl [] _) x (ml h)) (fun x h => hM.chg (Chg.refl [] _) x (mr (mr (mr (h))))))
    have hC := hC.trans (Chg.refl [] _) (Ok.nil _ _)
    obtain rfl := Option.some.inj H
    refine rt2 ha rfl rfl rfl ?_
    exact ⟨ao61, cap61, rfl, f61, e_i61, hC, hM⟩
   ·have H := ite_f hc36 H
    refine wp_seq_k fun K62 hK62 => ?_
    obtain ⟨s63, H63, H⟩ := bind_some H
    have J63 : ∀ (a : Act) (w63 : World), Has a Tryd.f17.ntmps [(1, .pointer (some ⟨g4, 0, none⟩)), (7, .slice ao29 s28.length cap29), (8, .slice ao32 t31.length cap32), (57, .bool s63)] → (RSl (rInt .u8) 5 w63 (blkL ao32 ++ (blkL ao29 ++ (M))) ao1 cap1 a0.Id) → (Own (rInt .u8) 5 w63 (blkL ao32 ++ (blkL ao29 ++ (M))) ao29 cap29 s28) → (Own (rInt .u8) 5 w63 (blkL ao32 ++ (blkL ao29 ++ (M))) ao32 cap32 t31) → (∀ j v, (cS_api_Tunnel a0 ao1 cap1)[j]? = some v → w63.cell? ⟨g4, 0 + j, none⟩ = some v) → (g4 ∉ (blkL ao32 ++ (blkL ao29 ++ (M)))) → (Chg [] w w63) → (MS (blkL ao32 ++ (blkL ao29 ++ (M))) w63) → K62 a w63 := by
     intro a w63 ha f1 f29 f32 hE6 hn7 hC hM
     refine hK62 _ _ ?_; try clear hK62 K62
     refine cnd ha rfl (fun hc64 => ?_) (fun hc64 => ?_)
     ·have H := ite_t hc64 H
      refine wp_seq_k fun K65 hK65 => ?_
      refine wp_region_lit ?_
      refine seg ha 1 [(1, .pointer (some ⟨g4, 0, none⟩)), (7, .slice ao29 s28.length cap29), (8, .slice ao32 t31.length cap32), (9, .int .u8 (6 : Int))] (by kernel_rfl) fun a ha => ?_
      refine hK65 _ _ ?_; try clear hK65 K65
      refine wp_seq_k fun K66 hK66 => ?_
      obtain ⟨s67, H67, H⟩ := bind_some H
      have J67 : ∀ (a : Act) (w67 : World), Has a Tryd.f17.ntmps [(1, .pointer (some ⟨g4, 0, none⟩)), (7, .slice ao29 s28.length cap29), (8, .slice ao32 t31.length cap32), (9, .int .u8 s67)] → (RSl (rInt .u8) 5 w67 (blkL ao32 ++ (blkL ao29 ++ (M))) ao1 cap1 a0.Id) → (Own (rInt .u8) 5 w67 (blkL ao32 ++ (blkL ao29 ++ (M))) ao29 cap29 s28) → (Own (rInt .u8) 5 w67 (blkL ao32 ++ (blkL ao29 ++ (M))) ao32 cap32 t31) → (∀ j v, (cS_api_Tunnel a0 ao1 cap1)[j]? = some v → w67.cell? ⟨g4, 0 + j, none⟩ = some v) → (g4 ∉ (blkL ao32 ++ (blkL ao29 ++ (M)))) → (Chg [] w w67) → (MS (blkL ao32 ++ (blkL ao29 ++ (M))) w67) → K66 a w67 := by
       intro a w67 ha f1 f29 f32 hE6 hn7 hC hM
       refine hK66 _ _ ?_; try clear hK66 K66
       refine wp_seq_k fun K68 hK68 => ?_
       refine wp_region_lit ?_
       refine seg ha 1 [(1, .pointer (some ⟨g4, 0, none⟩)), (7, .slice ao29 s28.length cap29), (8, .slice ao32 t31.length cap32), (9, .int .u8 s67), (10, .int .u8 (1 : Int))] (by kernel_rfl) fun a ha => ?_
       refine hK68 _ _ ?_; try clear hK68 K68
       refine wp_seq_k fun K69 hK69 => ?_
       obtain ⟨s70, H70, H⟩ := bind_some H
       have J70 : ∀ (a : Act) (w70 : World), Has a Tryd.f17.ntmps [(1, .pointer (some ⟨g4, 0, none⟩)), (7, .slice ao29 s28.length cap29), (8, .slice ao32 t31.length cap32), (9, .int .u8 s67), (10, .int .u8 s70)] → (RSl (rInt .u8) 5 w70 (blkL ao32 ++ (blkL ao29 ++ (M))) ao1 cap1 a0.Id) → (Own (rInt .u8) 5 w70 (blkL ao32 ++ (blkL ao29 ++ (M))) ao29 cap29 s28) → (Own (rInt .u8) 5 w70 (blkL ao32 ++ (blkL ao29 ++ (M))) ao32 cap32 t31) → (∀ j v, (cS_api_Tunnel a0 ao1 cap1)[j]? = some v → w70.cell? ⟨g4, 0 + j, none⟩ = some v) → (g4 ∉ (blkL ao32 ++ (blkL ao29 ++ (M)))) → (Chg [] w w70) → (MS (blkL ao32 ++ (blkL ao29 ++ (M))) w70) → K69 a w70 := by
        intro a w70 ha f1 f29 f32 hE6 hn7 hC hM
        refine hK69 _ _ ?_; try clear hK69 K69
        refine wp_seq_k fun K71 hK71 => ?_
        refine wp_region_lit ?_
        refine seg ha 5 [(1, .pointer (some ⟨g4, 0, none⟩)), (8, .slice ao32 t31.length cap32), (67, .slice ao29 s28.length cap29), (68, .int .u8 s67), (69, .int .u8 s70), (71, .pointer (some ⟨g4, 0 + 3, none⟩))] (by kernel_rfl) fun a ha => ?_
        refine ld ha rfl (by kernel_rfl) rfl rfl rfl (hE6 3 (.int .i64 a0.Root.Size) (by kernel_rfl)) fun a ha => ?_
        refine seg ha 1 [(1, .pointer (some ⟨g4, 0, none⟩)), (8, .slice ao32 t31.length cap32), (67, .slice ao29 s28.length cap29), (68, .int .u8 s67), (69, .int .u8 s70), (73, .int .u8 (IntKind.u8.wrap a0.Root.Size))] (by kernel_rfl) fun a ha => ?_
        refine bsl (vals := ([.int .u8 s67, .int .u8 (0 : Int), .int .u8 s70, .int .u8 (IntKind.u8.wrap a0.Root.Size)] : List Value)) (T := 5) ha rfl (([.int .u8 s67] : List Value) ++ (([.int .u8 (0 : Int)] : List Value) ++ (([.int .u8 s70] : List Value) ++ (([.int .u8 (IntKind.u8.wrap a0.Root.Size)] : List Value) ++ ([] : List Value))))) (fun w => by kernel_rfl) rfl rfl rfl fun a w72 g73 hN74 ha => ?_
        have o1 : Ok [] (blkL ao32 ++ (blkL ao29 ++ (M))) w70.heap.size := Ok.nil _ _
        have o2 : Ok ([g73] ++ (blkL ao32 ++ (blkL ao29 ++ (M)))) (blkL ao32 ++ (blkL ao29 ++ (M))) w70.heap.size := (Ok.app (hN74.ok _) (Ok.refl _ _))
        have f1 := f1.chg hN74.chg o1 o2
        have f32 := f32.chg hN74.chg o1 o2 (fun _ _ h => nomatch h) (fun _ h => mr (ml h))
        have f29 := f29.chg hN74.chg o1 o2 (fun _ _ h => nomatch h) (fun _ h => mr (mr (ml h)))
        have q_hn7 : g4 ∉ [g73] ++ (blkL ao32 ++ (blkL ao29 ++ (M))) := fun h => (o2 g4 h).elim hn7 (fun h => absurd (lt_cell (hE6 0 _ rfl)) (Nat.not_lt.2 h))
        have hE6 : ∀ j v, (cS_api_Tunnel a0 ao1 cap1)[j]? = some v → w72.cell? ⟨g4, 0 + j, none⟩ = some v := fun j v hv => (cell_keep hN74.chg o1 hn7 (hE6 j v hv))
        have hn7 := q_hn7
        have p_i75_i32 : ∀ x ∈ [g73], x ∉ (blkL ao32) := fun x hx hy => absurd (hM x (ml hy)) (Nat.not_lt.2 ((hN74.ge1) x hx))
        have p_i75_i29 : ∀ x ∈ [g73], x ∉ (blkL ao29) := fun x hx hy => absurd (hM x (mr (ml hy))) (Nat.not_lt.2 ((hN74.ge1) x hx))
        have p_i75_M : ∀ x ∈ [g73], x ∉ M := fun x hx hy => absurd (hM x (mr (mr (hy)))) (Nat.not_lt.2 ((hN74.ge1) x hx))
        have e_i75 : ∀ x ∈ [g73], w.heap.size ≤ x := fun x hx => Nat.le_trans hC.size ((hN74.ge1) x hx)
        have hM : MS ([g73] ++ (blkL ao32 ++ (blkL ao29 ++ (M)))) w72 := (MS.app hN74.ms (hM.chg hN74.chg))
        have hC := hC.trans hN74.chg (Ok.nil _ _)
        have f76 : Own (rInt .u8) 5 w72 ([g73] ++ (blkL ao32 ++ (blkL ao29 ++ (M)))) (some ⟨g73, 0, none⟩) 4 ([s67, (0 : Int), s70, IntKind.u8.wrap a0.Root.Size] : List Int) := hN74.own ⟨([.int .u8 s67] : List Value), _, rfl, rfl, ⟨([.int .u8 (0 : Int)] : List Value), _, rfl, rfl, ⟨([.int .u8 s70] : List Value), _, rfl, rfl, ⟨([.int .u8 (IntKind.u8.wrap a0.Root.Size)] : List Value), _, rfl, rfl, rfl⟩⟩⟩⟩ (Nat.le_of_ble_eq_true rfl)
        obtain ⟨hx77, H⟩ := ite_some H
        refine app (r := (rInt .u8)) (xs := s28) (ys := ([s67, (0 : Int), s70, IntKind.u8.wrap a0.Root.Size] : List Int)) ha (ElemT.mk' (bytes := 1) (by kernel_rfl)) rfl rfl rfl rfl rfl f29 f76.src hx77 (by decide) fun a w78 ao79 cap79 hO79 hc79 hk79 hl79 ha => ?_
        have o1 : Ok (blkL ao29) ([g73] ++ (blkL ao32 ++ (blkL ao29 ++ (M)))) w72.heap.size := (fun _ h => .inl (mr (mr (ml h))))
        have o2 : Ok (blkL ao79 ++ ([g73] ++ (blkL ao32 ++ (M)))) ([g73] ++ (blkL ao32 ++ (blkL ao29 ++ (M)))) w72.heap.size := (Ok.app (Ok.to hk79 (fun _ h => mr (mr (ml h)))) (Ok.app (fun _ h => .inl (ml h)) (Ok.app (fun _ h => .inl (mr (ml h))) (fun _ h => .inl (mr (mr (mr (h))))))))
        have f1 := f1.chg hc79 o1 o2
        have f32 := f32.chg hc79 o1 o2 p_i32_i29 (fun _ h => mr (mr (ml h)))
        have f76 := f76.chg hc79 o1 o2 p_i75_i29 (fun _ h => mr (ml h))
        have q_hn7 : g4 ∉ blkL ao79 ++ ([g73] ++ (blkL ao32 ++ (M))) := fun h => (o2 g4 h).elim hn7 (fun h => absurd (lt_cell (hE6 0 _ rfl)) (Nat.not_lt.2 h))
        have hE6 : ∀ j v, (cS_api_Tunnel a0 ao1 cap1)[j]? = some v → w78.cell? ⟨g4, 0 + j, none⟩ = some v := fun j v hv => (cell_keep hc79 o1 hn7 (hE6 j v hv))
        have hn7 := q_hn7
        have p_i79_i75 : ∀ x ∈ blkL ao79, x ∉ ([g73]) := fun x hx hy => (hk79 x hx).elim (fun h => (fun x hx hy => p_i75_i29 x hy hx) x h hy) (fun h => absurd (hM x (ml hy)) (Nat.not_lt.2 h))
        have p_i79_i32 : ∀ x ∈ blkL ao79, x ∉ (blkL ao32) := fun x hx hy => (hk79 x hx).elim (fun h => (fun x hx hy => p_i32_i29 x hy hx) x h hy) (fun h => absurd (hM x (mr (ml hy))) (Nat.not_lt.2 h))
        have p_i79_M : ∀ x ∈ blkL ao79, x ∉ M := fun x hx hy => (hk79 x hx).elim (fun h => p_i29_M x h hy) (fun h => absurd (hM x (mr (mr (mr (hy))))) (Nat.not_lt.2 h))
        have e_i79 : ∀ x ∈ blkL ao79, w.heap.size ≤ x := fun x hx => (hk79 x hx).elim (e_i29 x) (Nat.le_trans hC.size)
        have hM : MS (blkL ao79 ++ ([g73] ++ (blkL ao32 ++ (M)))) w78 := (MS.app hl79 (MS.app (fun x h => hM.chg hc79 x (ml h)) (MS.app (fun x h => hM.chg hc79 x (mr (ml h))) (fun x h => hM.chg hc79 x (mr (mr (mr (h))))))))
        have hC := hC.trans hc79 (fun x h => .inr (e_i29 x h))
        have f79 := hO79.chg (M' := blkL ao79 ++ ([g73] ++ (blkL ao32 ++ (M)))) (Chg.refl [] _) (Ok.nil _ _) (Ok.app (fun _ h => .inl (ml h)) (Ok.to (Ok.app (fun _ h => .inl (ml h)) (Ok.app (fun _ h => .inl (mr (ml h))) (fun _ h => .inl (mr (mr (mr (h))))))) (fun _ h => mr h))) (fun _ _ h => nomatch h) (fun _ h => ml h)
        refine seg ha 1 [(1, .pointer (some ⟨g4, 0, none⟩)), (7, .slice ao79 (s28 ++ ([s67, (0 : Int), s70, IntKind.u8.wrap a0.Root.Size] : List Int)).length cap79), (8, .slice ao32 t31.length cap32)] (by kernel_rfl) fun a ha => ?_
        refine hK71 _ _ ?_; try clear hK71 K71
        refine wp_seq_k fun K80 hK80 => ?_
        refine wp_region_lit ?_
        refine seg ha 2 [(1, .pointer (some ⟨g4, 0, none⟩)), (76, .slice ao79 (s28 ++ ([s67, (0 : Int), s70, IntKind.u8.wrap a0.Root.Size] : List Int)).length cap79), (77, .slice ao32 t31.length cap32)] (by kernel_rfl) fun a ha => ?_
        obtain ⟨hx81, H⟩ := ite_some H
        refine app (r := (rInt .u8)) (xs := (s28 ++ ([s67, (0 : Int), s70, IntKind.u8.wrap a0.Root.Size] : List Int))) (ys := t31) ha (ElemT.mk' (bytes := 1) (by kernel_rfl)) rfl rfl rfl rfl rfl f79 f32.src hx81 (by decide) fun a w82 ao83 cap83 hO83 hc83 hk83 hl83 ha => ?_
        have o1 : Ok (blkL ao79) (blkL ao79 ++ ([g73] ++ (blkL ao32 ++ (M)))) w78.heap.size := (fun _ h => .inl (ml h))
        have o2 : Ok (blkL ao83 ++ ([g73] ++ (blkL ao32 ++ (M)))) (blkL ao79 ++ ([g73] ++ (blkL ao32 ++ (M)))) w78.heap.size := (Ok.app (Ok.to hk83 (fun _ h => ml h)) (fun _ h => .inl (mr (h))))
        have f1 := f1.chg hc83 o1 o2
        have f32 := f32.chg hc83 o1 o2 (fun x (hx : x ∈ blkL ao32) (hy : x ∈ blkL ao79) => p_i79_i32 x hy hx) (fun _ h => mr (mr (ml h)))
        have q_hn7 : g4 ∉ blkL ao83 ++ ([g73] ++ (blkL ao32 ++ (M))) := fun h => (o2 g4 h).elim hn7 (fun h => absurd (lt_cell (hE6 0 _ rfl)) (Nat.not_lt.2 h))
        have hE6 : ∀ j v, (cS_api_Tunnel a0 ao1 cap1)[j]? = some v → w82.cell? ⟨g4, 0 + j, none⟩ = some v := fun j v hv => (cell_keep hc83 o1 hn7 (hE6 j v hv))
        have hn7 := q_hn7
        have p_i83_i75 : ∀ x ∈ blkL ao83, x ∉ ([g73]) := fun x hx hy => (hk83 x hx).elim (fun h => p_i79_i75 x h hy) (fun h => absurd (hM x (mr (ml hy))) (Nat.not_lt.2 h))
        have p_i83_i32 : ∀ x ∈ blkL ao83, x ∉ (blkL ao32) := fun x hx hy => (hk83 x hx).elim (fun h => p_i79_i32 x h hy) (fun h => absurd (hM x (mr (mr (ml hy)))) (Nat.not_lt.2 h))
        have p_i83_M : ∀ x ∈ blkL ao83, x ∉ M := fun x hx hy => (hk83 x hx).elim (fun h => p_i79_M x h hy) (fun h => absurd (hM x (mr (mr (mr (hy))))) (Nat.not_lt.2 h))
        have e_i83 : ∀ x ∈ blkL ao83, w.heap.size ≤ x := fun x hx => (hk83 x hx).elim (e_i79 x) (Nat.le_trans hC.size)
        have hM : MS (blkL ao83 ++ ([g73] ++ (blkL ao32 ++ (M)))) w82 := (MS.app hl83 (fun x h => hM.chg hc83 x (mr (h))))
        have hC := hC.trans hc83 (fun x h => .inr (e_i79 x h))
        have f83 := hO83.chg (M' := blkL ao83 ++ ([g73] ++ (blkL ao32 ++ (M)))) (Chg.refl [] _) (Ok.nil _ _) (Ok.app (fun _ h => .inl (ml h)) (Ok.to (fun _ h => .inl (mr (h))) (fun _ h => mr h))) (fun _ _ h => nomatch h) (fun _ h => ml h)
        refine seg ha 1 [(1, .pointer (some ⟨g4, 0, none⟩)), (7, .slice ao83 ((s28 ++ ([s67, (0 : Int), s70, IntKind.u8.wrap a0.Root.Size] : List Int)) ++ t31).length cap83)] (by kernel_rfl) fun a ha => ?_
        refine hK80 _ _ ?_; try clear hK80 K80
        refine wp_region_lit ?_
        refine seg ha 2 [(1, .pointer (some ⟨g4, 0, none⟩)), (79, .slice ao83 ((s28 ++ ([s67, (0 : Int), s70, IntKind.u8.wrap a0.Root.Size] : List Int)) ++ t31).length cap83), (80, .pointer (some ⟨g4, 0 + 20, none⟩))] (by kernel_rfl) fun a ha => ?_
        refine ld ha rfl (by kernel_rfl) rfl rfl rfl (hE6 20 (.slice ao1 a0.Id.length cap1) (by kernel_rfl)) fun a ha => ?_
        refine seg ha 1 [(1, .pointer (some ⟨g4, 0, none⟩)), (79, .slice ao83 ((s28 ++ ([s67, (0 : Int), s70, IntKind.u8.wrap a0.Root.Size] : List Int)) ++ t31).length cap83), (82, .int .i64 (a0.Id.length : Int))] (by kernel_rfl) fun a ha => ?_
        obtain ⟨t84, H84, H⟩ := bind_some H
        refine cl ha (by rfl) (by kernel_rfl) (by rfl) (by rfl) (by rfl) (vineryref01_Bytes.walk w82 _ hM (a0.Id.length : Int) (2 : Int) k _ H84) ?_
        rintro _ w84 ⟨ao85, cap85, rfl, f85, ne_i85, hc84, hMn⟩ a ha
        have o1 : Ok [] (blkL ao83 ++ ([g73] ++ (blkL ao32 ++ (M)))) w82.heap.size := Ok.nil _ _
        have o2 : Ok (blkL ao85 ++ (blkL ao83 ++ ([g73] ++ (blkL ao32 ++ (M))))) (blkL ao83 ++ ([g73] ++ (blkL ao32 ++ (M)))) w82.heap.size := (Ok.app (fun x h => .inr (ne_i85 x h)) (Ok.refl _ _))
        have f1 := f1.chg hc84 o1 o2
        have f83 := f83.chg hc84 o1 o2 (fun _ _ h => nomatch h) (fun _ h => mr (ml h))
        have q_hn7 : g4 ∉ blkL ao85 ++ (blkL ao83 ++ ([g73] ++ (blkL ao32 ++ (M)))) := fun h => (o2 g4 h).elim hn7 (fun h => absurd (lt_cell (hE6 0 _ rfl)) (Nat.not_lt.2 h))
        have hE6 : ∀ j v, (cS_api_Tunnel a0 ao1 cap1)[j]? = some v → w84.cell? ⟨g4, 0 + j, none⟩ = some v := fun j v hv => (cell_keep hc84 o1 hn7 (hE6 j v hv))
        have hn7 := q_hn7
        have p_i85_i83 : ∀ x ∈ blkL ao85, x ∉ (blkL ao83) := fun x hx hy => absurd (hM x (ml hy)) (Nat.not_lt.2 (ne_i85 x hx))
        have p_i85_i75 : ∀ x ∈ blkL ao85, x ∉ ([g73]) := fun x hx hy => absurd (hM x (mr (ml hy))) (Nat.not_lt.2 (ne_i85 x hx))
        have p_i85_i32 : ∀ x ∈ blkL ao85, x ∉ (blkL ao32) := fun x hx hy => absurd (hM x (mr (mr (ml hy)))) (Nat.not_lt.2 (ne_i85 x hx))
        have p_i85_M : ∀ x ∈ blkL ao85, x ∉ M := fun x hx hy => absurd (hM x (mr (mr (mr (hy))))) (Nat.not_lt.2 (ne_i85 x hx))
        have e_i85 : ∀ x ∈ blkL ao85, w.heap.size ≤ x := fun x hx => Nat.le_trans hC.size (ne_i85 x hx)
        have hM : MS (blkL ao85 ++ (blkL ao83 ++ ([g73] ++ (blkL ao32 ++ (M))))) w84 := (MS.app (fun x h => hMn x (ml h)) (hM.chg hc84))
        have hC := hC.trans hc84 (Ok.nil _ _)
        obtain ⟨hx86, H⟩ := ite_some H
        refine app (r := (rInt .u8)) (xs := ((s28 ++ ([s67, (0 : Int), s70, IntKind.u8.wrap a0.Root.Size] : List Int)) ++ t31)) (ys := t84) ha (ElemT.mk' (bytes := 1) (by kernel_rfl)) rfl rfl rfl rfl rfl f83 f85.src hx86 (by decide) fun a w87 ao88 cap88 hO88 hc88 hk88 hl88 ha => ?_
        have o1 : Ok (blkL ao83) (blkL ao85 ++ (blkL ao83 ++ ([g73] ++ (blkL ao32 ++ (M))))) w84.heap.size := (fun _ h => .inl (mr (ml h)))
        have o2 : Ok (blkL ao88 ++ (blkL ao85 ++ ([g73] ++ (blkL ao32 ++ (M))))) (blkL ao85 ++ (blkL ao83 ++ ([g73] ++ (blkL ao32 ++ (M))))) w84.heap.size := (Ok.app (Ok.to hk88 (fun _ h => mr (ml h))) (Ok.app (fun _ h => .inl (ml h)) (fun _ h => .inl (mr (mr (h))))))
        have f1 := f1.chg hc88 o1 o2
        have f85 := f85.chg hc88 o1 o2 p_i85_i83 (fun _ h => mr (ml h))
        have q_hn7 : g4 ∉ blkL ao88 ++ (blkL ao85 ++ ([g73] ++ (blkL ao32 ++ (M)))) := fun h => (o2 g4 h).elim hn7 (fun h => absurd (lt_cell (hE6 0 _ rfl)) (Nat.not_lt.2 h))
        have hE6 : ∀ j v, (cS_api_Tunnel a0 ao1 cap1)[j]? = some v → w87.cell? ⟨g4, 0 + j, none⟩ = some v := fun j v hv => (cell_keep hc88 o1 hn7 (hE6 j v hv))
        have hn7 := q_hn7
        have p_i88_i85 : ∀ x ∈ blkL ao88, x ∉ (blkL ao85) := fun x hx hy => (hk88 x hx).elim (fun h => (fun x hx hy => p_i85_i83 x hy hx) x h hy) (fun h => absurd (hM x (ml hy)) (Nat.not_lt.2 h))
        have p_i88_i75 : ∀ x ∈ blkL ao88, x ∉ ([g73]) := fun x hx hy => (hk88 x hx).elim (fun h => p_i83_i75 x h hy) (fun h => absurd (hM x (mr (mr (ml hy)))) (Nat.not_lt.2 h))
        have p_i88_i32 : ∀ x ∈ blkL ao88, x ∉ (blkL ao32) := fun x hx hy => (hk88 x hx).elim (fun h => p_i83_i32 x h hy) (fun h => absurd (hM x (mr (mr (mr (ml hy))))) (Nat.not_lt.2 h))
        have p_i88_M : ∀ x ∈ blkL ao88, x ∉ M := fun x hx hy => (hk88 x hx).elim (fun h => p_i83_M x h hy) (fun h => absurd (hM x (mr (mr (mr (mr (hy)))))) (Nat.not_lt.2 h))
        have e_i88 : ∀ x ∈ blkL ao88, w.heap.size ≤ x := fun x hx => (hk88 x hx).elim (e_i83 x) (Nat.le_trans hC.size)
        have hM : MS (blkL ao88 ++ (blkL ao85 ++ ([g73] ++ (blkL ao32 ++ (M))))) w87 := (MS.app hl88 (MS.app (fun x h => hM.chg hc88 x (ml h)) (fun x h => hM.chg hc88 x (mr (mr (h))))))
        have hC := hC.trans hc88 (fun x h => .inr (e_i83 x h))
        have f88 := hO88.chg (M' := blkL ao88 ++ (blkL ao85 ++ ([g73] ++ (blkL ao32 ++ (M))))) (Chg.refl [] _) (Ok.nil _ _) (Ok.app (fun _ h => .inl (ml h)) (Ok.to (Ok.app (fun _ h => .inl (ml h)) (fun _ h => .inl (mr (mr (h))))) (fun _ h => mr h))) (fun _ _ h => nomatch h) (fun _ h => ml h)
        refine seg ha 1 [(1, .pointer (some ⟨g4, 0, none⟩)), (7, .slice ao88 (((s28 ++ ([s67, (0 : Int), s70, IntKind.u8.wrap a0.Root.Size] : List Int)) ++ t31) ++ t84).length cap88)] (by kernel_rfl) fun a ha => ?_
        refine hK33 _ _ ?_; try clear hK33 K33
        refine wp_seq_k fun K89 hK89 => ?_
        refine wp_region_lit ?_
        refine seg ha 2 [(85, .slice ao88 (((s28 ++ ([s67, (0 : Int), s70, IntKind.u8.wrap a0.Root.Size] : List Int)) ++ t31) ++ t84).length cap88), (86, .pointer (some ⟨g4, 0 + 20, none⟩))] (by kernel_rfl) fun a ha => ?_
        refine ld ha rfl (by kernel_rfl) rfl rfl rfl (hE6 20 (.slice ao1 a0.Id.length cap1) (by kernel_rfl)) fun a ha => ?_
        obtain ⟨hx90, H⟩ := ite_some H
        refine app (r := (rInt .u8)) (xs := (((s28 ++ ([s67, (0 : Int), s70, IntKind.u8.wrap a0.Root.Size] : List Int)) ++ t31) ++ t84)) (ys := a0.Id) ha (ElemT.mk' (bytes := 1) (by kernel_rfl)) rfl rfl rfl rfl rfl f88 f1.src hx90 (by decide) fun a w91 ao92 cap92 hO92 hc92 hk92 hl92 ha => ?_
        have o1 : Ok (blkL ao88) (blkL ao88 ++ (blkL ao85 ++ ([g73] ++ (blkL ao32 ++ (M))))) w87.heap.size := (fun _ h => .inl (ml h))
        have o2 : Ok (blkL ao92 ++ (blkL ao85 ++ ([g73] ++ (blkL ao32 ++ (M))))) (blkL ao88 ++ (blkL ao85 ++ ([g73] ++ (blkL ao32 ++ (M))))) w87.heap.size := (Ok.app (Ok.to hk92 (fun _ h => ml h)) (fun _ h => .inl (mr (h))))
        have f1 := f1.chg hc92 o1 o2
        have p_i92_i85 : ∀ x ∈ blkL ao92, x ∉ (blkL ao85) := fun x hx hy => (hk92 x hx).elim (fun h => p_i88_i85 x h hy) (fun h => absurd (hM x (mr (ml hy))) (Nat.not_lt.2 h))
        have p_i92_i75 : ∀ x ∈ blkL ao92, x ∉ ([g73]) := fun x hx hy => (hk92 x hx).elim (fun h => p_i88_i75 x h hy) (fun h => absurd (hM x (mr (mr (ml hy)))) (Nat.not_lt.2 h))
        have p_i92_i32 : ∀ x ∈ blkL ao92, x ∉ (blkL ao32) := fun x hx hy => (hk92 x hx).elim (fun h => p_i88_i32 x h hy) (fun h => absurd (hM x (mr (mr (mr (ml hy))))) (Nat.not_lt.2 h))
        have p_i92_M : ∀ x ∈ blkL ao92, x ∉ M := fun x hx hy => (hk92 x hx).elim (fun h => p_i88_M x h hy) (fun h => absurd (hM x (mr (mr (mr (mr (hy)))))) (Nat.not_lt.2 h))
        have e_i92 : ∀ x ∈ blkL ao92, w.heap.size ≤ x := fun x hx => (hk92 x hx).elim (e_i88 x) (Nat.le_trans hC.size)
        have hM : MS (blkL ao92 ++ (blkL ao85 ++ ([g73] ++ (blkL ao32 ++ (M))))) w91 := (MS.app hl92 (fun x h => hM.chg hc92 x (mr (h))))
        have hC := hC.trans hc92 (fun x h => .inr (e_i88 x h))
        have f92 := hO92.chg (M' := blkL ao92 ++ (blkL ao85 ++ ([g73] ++ (blkL ao32 ++ (M))))) (Chg.refl [] _) (Ok.nil _ _) (Ok.app (fun _ h => .inl (ml h)) (Ok.to (fun _ h => .inl (mr (h))) (fun _ h => mr h))) (fun _ _ h => nomatch h) (fun _ h => ml h)
        refine seg ha 2 [(2, .slice ao92 ((((s28 ++ ([s67, (0 : Int), s70, IntKind.u8.wrap a0.Root.Size] : List Int)) ++ t31) ++ t84) ++ a0.Id).length cap92), (3, .int .i64 (0 : Int))] (by kernel_rfl) fun a ha => ?_
        refine hK89 _ _ ?_; try clear hK89 K89
        refine wp_ret ?_
        try simp only [Exit.then, Exit.inBlock]
        have o1 : Ok [] (blkL ao92 ++ (blkL ao85 ++ ([g73] ++ (blkL ao32 ++ (M))))) w91.heap.size := Ok.nil _ _
        have o2 : Ok (blkL ao92 ++ (M)) (blkL ao92 ++ (blkL ao85 ++ ([g73] ++ (blkL ao32 ++ (M))))) w91.heap.size := (Ok.app (fun _ h => .inl (ml h)) (fun _ h => .inl (mr (mr (mr (mr (h)))))))
        have f92 := f92.chg (Chg.refl [] _) o1 o2 (fun _ _ h => nomatch h) (fun _ h => ml h)
        have hM : MS (blkL ao92 ++ (M)) w91 := (MS.app (fun x h => hM.chg (Chg.refl [] _) x (ml h)) (fun x h => hM.chg (Chg.refl [] _) x (mr (mr (mr (mr (h)))))))
        have hC := hC.trans (Chg.refl [] _) (Ok.nil _ _)
        obtain rfl := Option.some.inj H
        refine rt2 ha rfl rfl rfl ?_
        exact ⟨ao92, cap92, rfl, f92, e_i92, hC, hM⟩
       have H := H70
       refine wp_seq_k fun K93 hK93 => ?_
       refine wp_region_lit ?_
       refine seg ha 2 [(1, .pointer (some ⟨g4, 0, none⟩)), (7, .slice ao29 s28.length cap29), (8, .slice ao32 t31.length cap32), (9, .int .u8 s67), (10, .int .u8 (1 : Int)), (64, .pointer (some ⟨g4, 0 + 3, none⟩))] (by kernel_rfl) fun a ha => ?_
       refine ld ha rfl (by kernel_rfl) rfl rfl rfl (hE6 3 (.int .i64 a0.Root.Size) (by kernel_rfl)) fun a ha => ?_
       refine seg ha 1 [(1, .pointer (some ⟨g4, 0, none⟩)), (7, .slice ao29 s28.length cap29), (8, .slice ao32 t31.length cap32), (9, .int .u8 s67), (10, .int .u8 (1 : Int)), (66, .bool (a0.Root.Size == (16 : Int)))] (by kernel_rfl) fun a ha => ?_
       refine hK93 _ _ ?_; try clear hK93 K93
       refine cnd ha rfl (fun hc94 => ?_) (fun hc94 => ?_)
       ·have H := ite_t hc94 H
        refine wp_region_lit ?_
        refine seg ha 1 [(1, .pointer (some ⟨g4, 0, none⟩)), (7, .slice ao29 s28.length cap29), (8, .slice ao32 t31.length cap32), (9, .int .u8 s67), (10, .int .u8 (2 : Int))] (by kernel_rfl) fun a ha => ?_
        obtain rfl := Option.some.inj H
        exact J70 _ _ (ha.sel (by kernel_rfl)) f1 f29 f32 hE6 hn7 hC hM
       ·have H := ite_f hc94 H
        refine wp_skip ?_
        obtain rfl := Option.some.inj H
        exact J70 _ _ (ha.sel (by kernel_rfl)) f1 f29 f32 hE6 hn7 hC hM
      have H := H67
      refine wp_seq_k fun K95 hK95 => ?_
      refine wp_region_lit ?_
      refine seg ha 1 [(1, .pointer (some ⟨g4, 0, none⟩)), (7, .slice ao29 s28.length cap29), (8, .slice ao32 t31.length cap32), (9, .int .u8 (6 : Int)), (60, .pointer (some ⟨g4, 0 + 1, none⟩))] (by kernel_rfl) fun a ha => ?_
      refine ld ha rfl (by kernel_rfl) rfl rfl rfl (hE6 1 (.int .i64 a0.Kind) (by kernel_rfl)) fun a ha => ?_
      refine seg ha 1 [(1, .pointer (some ⟨g4, 0, none⟩)), (7, .slice ao29 s28.length cap29), (8, .slice ao32 t31.length cap32), (9, .int .u8 (6 : Int)), (62, .bool (a0.Kind == (7 : Int)))] (by kernel_rfl) fun a ha => ?_
      refine hK95 _ _ ?_; try clear hK95 K95
      refine cnd ha rfl (fun hc96 => ?_) (fun hc96 => ?_)
      ·have H := ite_t hc96 H
       refine wp_region_lit ?_
       refine seg ha 1 [(1, .pointer (some ⟨g4, 0, none⟩)), (7, .slice ao29 s28.length cap29), (8, .slice ao32 t31.length cap32), (9, .int .u8 (7 : Int))] (by kernel_rfl) fun a ha => ?_
       obtain rfl := Option.some.inj H
       exact J67 _ _ (ha.sel (by kernel_rfl)) f1 f29 f32 hE6 hn7 hC hM
      ·have H := ite_f hc96 H
       refine wp_skip ?_
       obtain rfl := Option.some.inj H
       exact J67 _ _ (ha.sel (by kernel_rfl)) f1 f29 f32 hE6 hn7 hC hM
     ·have H := ite_f hc64 H
      refine wp_region_lit ?_
      refine seg ha 2 [(1, .pointer (some ⟨g4, 0, none⟩)), (36, .slice ao29 s28.length cap29), (37, .slice ao32 t31.length cap32)] (by kernel_rfl) fun a ha => ?_
      obtain ⟨hx97, H⟩ := ite_some H
      refine app (r := (rInt .u8)) (xs := s28) (ys := t31) ha (ElemT.mk' (bytes := 1) (by kernel_rfl)) rfl rfl rfl rfl rfl f29 f32.src hx97 (by decide) fun a w98 ao99 cap99 hO99 hc99 hk99 hl99 ha => ?_
      have o1 : Ok (blkL ao29) (blkL ao32 ++ (blkL ao29 ++ (M))) w63.heap.size := (fun _ h => .inl (mr (ml h)))
      have o2 : Ok (blkL ao99 ++ (blkL ao32 ++ (M))) (blkL ao32 ++ (blkL ao29 ++ (M))) w63.heap.size := (Ok.app (Ok.to hk99 (fun _ h => mr (ml h))) (Ok.app (fun _ h => .inl (ml h)) (fun _ h => .inl (mr (mr (h))))))
      have f1 := f1.chg hc99 o1 o2
      have f32 := f32.chg hc99 o1 o2 p_i32_i29 (fun _ h => mr (ml h))
      have q_hn7 : g4 ∉ blkL ao99 ++ (blkL ao32 ++ (M)) := fun h => (o2 g4 h).elim hn7 (fun h => absurd (lt_cell (hE6 0 _ rfl)) (Nat.not_lt.2 h))
      have hE6 : ∀ j v, (cS_api_Tunnel a0 ao1 cap1)[j]? = some v → w98.cell? ⟨g4, 0 + j, none⟩ = some v := fun j v hv => (cell_keep hc99 o1 hn7 (hE6 j v hv))
      have hn7 := q_hn7
      have p_i99_i32 : ∀ x ∈ blkL ao99, x ∉ (blkL ao32) := fun x hx hy => (hk99 x hx).elim (fun h => (fun x hx hy => p_i32_i29 x hy hx) x h hy) (fun h => absurd (hM x (ml hy)) (Nat.not_lt.2 h))
      have p_i99_M : ∀ x ∈ blkL ao99, x ∉ M := fun x hx hy => (hk99 x hx).elim (fun h => p_i29_M x h hy) (fun h => absurd (hM x (mr (mr (hy)))) (Nat.not_lt.2 h))
      have e_i99 : ∀ x ∈ blkL ao99, w.heap.size ≤ x := fun x hx => (hk99 x hx).elim (e_i29 x) (Nat.le_trans hC.size)
      have hM : MS (blkL ao99 ++ (blkL ao32 ++ (M))) w98 := (MS.app hl99 (MS.app (fun x h => hM.chg hc99 x (ml h)) (fun x h => hM.chg hc99 x (mr (mr (h))))))
      have hC := hC.trans hc99 (fun x h => .inr (e_i29 x h))
      have f99 := hO99.chg (M' := blkL ao99 ++ (blkL ao32 ++ (M))) (Chg.refl [] _) (Ok.nil _ _) (Ok.app (fun _ h => .inl (ml h)) (Ok.to (Ok.app (fun _ h => .inl (ml h)) (fun _ h => .inl (mr (mr (h))))) (fun _ h => mr h))) (fun _ _ h => nomatch h) (fun _ h => ml h)
      refine seg ha 1 [(1, .pointer (some ⟨g4, 0, none⟩)), (7, .slice ao99 (s28 ++ t31).length cap99)] (by kernel_rfl) fun a ha => ?_
      refine hK33 _ _ ?_; try clear hK33 K33
      refine wp_seq_k fun K100 hK100 => ?_
      refine wp_region_lit ?_
      refine seg ha 2 [(85, .slice ao99 (s28 ++ t31).length cap99), (86, .pointer (some ⟨g4, 0 + 20, none⟩))] (by kernel_rfl) fun a ha => ?_
      refine ld ha rfl (by kernel_rfl) rfl rfl rfl (hE6 20 (.slice ao1 a0.Id.length cap1) (by kernel_rfl)) fun a ha => ?_
      obtain ⟨hx101, H⟩ := ite_some H
      refine app (r := (rInt .u8)) (xs := (s28 ++ t31)) (ys := a0.Id) ha (ElemT.mk' (bytes := 1) (by kernel_rfl)) rfl rfl rfl rfl rfl f99 f1.src hx101 (by decide) fun a w102 ao103 cap103 hO103 hc103 hk103 hl103 ha => ?_
      have o1 : Ok (blkL ao99) (blkL ao99 ++ (blkL ao32 ++ (M))) w98.heap.size := (fun _ h => .inl (ml h))
      have o2 : Ok (blkL ao103 ++ (blkL ao32 ++ (M))) (blkL ao99 ++ (blkL ao32 ++ (M))) w98.heap.size := (Ok.app (Ok.to hk103 (fun _ h => ml h)) (fun _ h => .inl (mr (h))))
      have f1 := f1.chg hc103 o1 o2
      have p_i103_i32 : ∀ x ∈ blkL ao103, x ∉ (blkL ao32) := fun x hx hy => (hk103 x hx).elim (fun h => p_i99_i32 x h hy) (fun h => absurd (hM x (mr (ml hy))) (Nat.not_lt.2 h))
      have p_i103_M : ∀ x ∈ blkL ao103, x ∉ M := fun x hx hy => (hk103 x hx).elim (fun h => p_i99_M x h hy) (fun h => absurd (hM x (mr (mr (hy)))) (Nat.not_lt.2 h))
      have e_i103 : ∀ x ∈ blkL ao103, w.heap.size ≤ x := fun x hx => (hk103 x hx).elim (e_i99 x) (Nat.le_trans hC.size)
      have hM : MS (blkL ao103 ++ (blkL ao32 ++ (M))) w102 := (MS.app hl103 (fun x h => hM.chg hc103 x (mr (h))))
      have hC := hC.trans hc103 (fun x h => .inr (e_i99 x h))
      have f103 := hO103.chg (M' := blkL ao103 ++ (blkL ao32 ++ (M))) (Chg.refl [] _) (Ok.nil _ _) (Ok.app (fun _ h => .inl (ml h)) (Ok.to (fun _ h => .inl (mr (h))) (fun _ h => mr h))) (fun _ _ h => nomatch h) (fun _ h => ml h)
      refine seg ha 2 [(2, .slice ao103 ((s28 ++ t31) ++ a0.Id).length cap103), (3, .int .i64 (0 : Int))] (by kernel_rfl) fun a ha => ?_
      refine hK100 _ _ ?_; try clear hK100 K100
      refine wp_ret ?_
      try simp only [Exit.then, Exit.inBlock]
      have o1 : Ok [] (blkL ao103 ++ (blkL ao32 ++ (M))) w102.heap.size := Ok.nil _ _
      have o2 : Ok (blkL ao103 ++ (M)) (blkL ao103 ++ (blkL ao32 ++ (M))) w102.heap.size := (Ok.app (fun _ h => .inl (ml h)) (fun _ h => .inl (mr (mr (h)))))
      have f103 := f103.chg (Chg.refl [] _) o1 o2 (fun _ _ h => nomatch h) (fun _ h => ml h)
      have hM : MS (blkL ao103 ++ (M)) w102 := (MS.app (fun x h => hM.chg (Chg.refl [] _) x (ml h)) (fun x h => hM.chg (Chg.refl [] _) x (mr (mr (h)))))
      have hC := hC.trans (Chg.refl [] _) (Ok.nil _ _)
      obtain rfl := Option.some.inj H
      refine rt2 ha rfl rfl rfl ?_
      exact ⟨ao103, cap103, rfl, f103, e_i103, hC, hM⟩
    have H := H63
    refine wp_seq_k fun K104 hK104 => ?_
    refine wp_region_lit ?_
    refine seg ha 2 [(1, .pointer (some ⟨g4, 0, none⟩)), (7, .slice ao29 s28.length cap29), (8, .slice ao32 t31.length cap32), (35, .int .i64 a0.Kind), (57, .bool (a0.Kind == (2 : Int)))] (by kernel_rfl) fun a ha => ?_
    refine hK104 _ _ ?_; try clear hK104 K104
    refine cnd ha rfl (fun hc105 => ?_) (fun hc105 => ?_)
    ·have H := ite_t hc105 H
     refine wp_skip ?_
     obtain rfl := Option.some.inj H
     exact J63 _ _ (ha.sel (by kernel_rfl)) f1 f29 f32 hE6 hn7 hC hM
    ·have H := ite_f hc105 H
     refine wp_region_lit ?_
     refine seg ha 2 [(1, .pointer (some ⟨g4, 0, none⟩)), (7, .slice ao29 s28.length cap29), (8, .slice ao32 t31.length cap32), (57, .bool (a0.Kind == (7 : Int)))] (by kernel_rfl) fun a ha => ?_
     obtain rfl := Option.some.inj H
     exact J63 _ _ (ha.sel (by kernel_rfl)) f1 f29 f32 hE6 hn7 hC hM
  have H := H28
  refine wp_seq_k fun K106 hK106 => ?_
  refine wp_region_lit ?_
  refine seg ha 1 [(1, .pointer (some ⟨g4, 0, none⟩)), (7, .slice ao26 (([(0 : Int), IntKind.u8.wrap a0.Kind] : List Int) ++ t16.1).length cap26), (27, .pointer (some ⟨g4, 0, none⟩))] (by kernel_rfl) fun a ha => ?_
  refine ld ha rfl (by kernel_rfl) rfl rfl rfl (hE6 0 (.bool a0.Leaf) (by kernel_rfl)) fun a ha => ?_
  refine hK106 _ _ ?_; try clear hK106 K106
  refine cnd ha rfl (fun hc107 => ?_) (fun hc107 => ?_)
  ·have H := ite_t hc107 H
   refine wp_region_lit ?_
   refine seg ha 1 [(1, .pointer (some ⟨g4, 0, none⟩)), (7, .slice ao26 (([(0 : Int), IntKind.u8.wrap a0.Kind] : List Int) ++ t16.1).length cap26), (29, .slice ao26 (([(0 : Int), IntKind.u8.wrap a0.Kind] : List Int) ++ t16.1).length cap26)] (by kernel_rfl) fun a ha => ?_
   obtain ⟨⟨hx108, hx108'⟩, H⟩ := ite_some H
   have hi108 : (Int.toNat (0 : Int)) < (([(0 : Int), IntKind.u8.wrap a0.Kind] : List Int) ++ t16.1).length := by omega
   obtain ⟨ge108, ee108⟩ := Own.addr f26 hi108
   refine hop (v := .pointer (some ⟨ge108, (Int.toNat (0 : Int)), none⟩)) (w' := w25) ha rfl rfl rfl (ixO_run (r := (rInt .u8)) (T := 5) (k := .i64) (i := (0 : Int)) rfl ha (by kernel_rfl) (by kernel_rfl) (by rfl) (by rfl) ee108 hx108 hx108' _) fun a ha => ?_
   refine stO (r := (rInt .u8)) (z := (1 : Int)) ha rfl rfl (by kernel_rfl) rfl rfl f26 rfl ee108 hi108 (fun _ _ => rfl) fun a w109 ha hO111 hc110 => ?_
   have o1 : Ok (blkL ao26) (blkL ao26 ++ (blkL ao17 ++ (M))) w25.heap.size := (fun _ h => .inl (ml h))
   have o2 : Ok (blkL ao26 ++ (blkL ao17 ++ (M))) (blkL ao26 ++ (blkL ao17 ++ (M))) w25.heap.size := (Ok.refl _ _)
   have f1 := f1.chg hc110 o1 o2
   have q_hn7 : g4 ∉ blkL ao26 ++ (blkL ao17 ++ (M)) := fun h => (o2 g4 h).elim hn7 (fun h => absurd (lt_cell (hE6 0 _ rfl)) (Nat.not_lt.2 h))
   have hE6 : ∀ j v, (cS_api_Tunnel a0 ao1 cap1)[j]? = some v → w109.cell? ⟨g4, 0 + j, none⟩ = some v := fun j v hv => (cell_keep hc110 o1 hn7 (hE6 j v hv))
   have hn7 := q_hn7
   have hM : MS (blkL ao26 ++ (blkL ao17 ++ (M))) w109 := (hM.chg hc110)
   have hC := hC.trans hc110 (fun x h => .inr (e_i26 x h))
   have f111 := hO111
   have hl111 : ((([(0 : Int), IntKind.u8.wrap a0.Kind] : List Int) ++ t16.1).set (Int.toNat (0 : Int)) (1 : Int)).length = (([(0 : Int), IntKind.u8.wrap a0.Kind] : List Int) ++ t16.1).length := List.length_set
   have ha : Has a Tryd.f17.ntmps [(1, .pointer (some ⟨g4, 0, none⟩)), (7, .slice ao26 ((([(0 : Int), IntKind.u8.wrap a0.Kind] : List Int) ++ t16.1).set (Int.toNat (0 : Int)) (1 : Int)).length cap26)] := by rw [hl111]; exact ha.sel (by kernel_rfl)
   obtain rfl := Option.some.inj H
   have o1 : Ok [] (blkL ao26 ++ (blkL ao17 ++ (M))) w109.heap.size := Ok.nil _ _
   have o2 : Ok (blkL ao26 ++ (M)) (blkL ao26 ++ (blkL ao17 ++ (M))) w109.heap.size := (Ok.app (fun _ h => .inl (ml h)) (fun _ h => .inl (mr (mr (h)))))
   have f1 := f1.chg (Chg.refl [] _) o1 o2
   have f111 := f111.chg (Chg.refl [] _) o1 o2 (fun _ _ h => nomatch h) (fun _ h => ml h)
   have q_hn7 : g4 ∉ blkL ao26 ++ (M) := fun h => (o2 g4 h).elim hn7 (fun h => absurd (lt_cell (hE6 0 _ rfl)) (Nat.not_lt.2 h))
   have hE6 : ∀ j v, (cS_api_Tunnel a0 ao1 cap1)[j]? = some v → w109.cell? ⟨g4, 0 + j, none⟩ = some v := fun j v hv => (cell_keep (Chg.refl [] _) o1 hn7 (hE6 j v hv))
   have hn7 := q_hn7
   have hM : MS (blkL ao26 ++ (M)) w109 := (MS.app (fun x h => hM.chg (Chg.refl [] _) x (ml h)) (fun x h => hM.chg (Chg.refl [] _) x (mr (mr (h)))))
   have hC := hC.trans (Chg.refl [] _) (Ok.nil _ _)
   exact J28 _ _ ao26 cap26 (ha.sel (by kernel_rfl)) f1 f111 hE6 hn7 e_i26 p_i26_M hC hM
  ·have H := ite_f hc107 H
   refine wp_skip ?_
   obtain rfl := Option.some.inj H
   have o1 : Ok [] (blkL ao26 ++ (blkL ao17 ++ (M))) w25.heap.size := Ok.nil _ _
   have o2 : Ok (blkL ao26 ++ (M)) (blkL ao26 ++ (blkL ao17 ++ (M))) w25.heap.size := (Ok.app (fun _ h => .inl (ml h)) (fun _ h => .inl (mr (mr (h)))))
   have f1 := f1.chg (Chg.refl [] _) o1 o2
   have f26 := f26.chg (Chg.refl [] _) o1 o2 (fun _ _ h => nomatch h) (fun _ h => ml h)
   have q_hn7 : g4 ∉ blkL ao26 ++ (M) := fun h => (o2 g4 h).elim hn7 (fun h => absurd (lt_cell (hE6 0 _ rfl)) (Nat.not_lt.2 h))
   have hE6 : ∀ j v, (cS_api_Tunnel a0 ao1 cap1)[j]? = some v → w25.cell? ⟨g4, 0 + j, none⟩ = some v := fun j v hv => (cell_keep (Chg.refl [] _) o1 hn7 (hE6 j v hv))
   have hn7 := q_hn7
   have hM : MS (blkL ao26 ++ (M)) w25 := (MS.app (fun x h => hM.chg (Chg.refl [] _) x (ml h)) (fun x h => hM.chg (Chg.refl [] _) x (mr (mr (h)))))
   have hC := hC.trans (Chg.refl [] _) (Ok.nil _ _)
   exact J28 _ _ ao26 cap26 (ha.sel (by kernel_rfl)) f1 f26 hE6 hn7 e_i26 p_i26_M hC hM
def vineryref01_Open.f (a0 : List Int) : Option (S_vineryref01_Reader) := (if (([] : List Int).length + a0.length) * 1 ≤ 140737488355328 then some (((⟨(([] : List Int) ++ a0), (0 : Int), false⟩ : S_vineryref01_Reader) : S_vineryref01_Reader)) else none)
set_option maxRecDepth 100000 in
theorem vineryref01_Open.walk (w : World) (M : List Nat) (hM : MS M w) (a0 : List Int) (ao1 : Option Addr) (cap1 : Nat) (f1 : RSl (rInt .u8) 5 w M ao1 cap1 a0) (r : S_vineryref01_Reader) (H : vineryref01_Open.f a0 = some r) :
    To Tryd.prog 60 [.slice ao1 a0.length cap1] w fun v w' => ∃ (g16 : Nat) (ao18 : Option Addr) (cap18 : Nat), v = .pointer (some ⟨g16, 0, none⟩) ∧ (RSl (rInt .u8) 5 w' ([g16] ++ (M)) ao18 cap18 r.B) ∧ (Box w' g16 (cS_vineryref01_Reader r ao18 cap18)) ∧ (∀ x ∈ [g16], w.heap.size ≤ x) ∧ Chg [] w w' ∧ MS ([g16] ++ (M)) w' := by
 unfold vineryref01_Open.f at H
 refine ent Tryd.func60 rfl [(0, .slice ao1 a0.length cap1)] rfl (by rfl) fun a ha => ?_
 have hC : Chg [] w w := Chg.refl _ _
 refine wp_seq_k fun K2 hK2 => ?_
 refine wp_region_lit ?_
 refine seg ha 1 [(0, .slice ao1 a0.length cap1)] (by kernel_rfl) fun a ha => ?_
 refine hK2 _ _ ?_; try clear hK2 K2
 refine wp_seq_k fun K3 hK3 => ?_
 refine wp_region_lit ?_
 refine bsl (vals := ([] : List Value)) (T := 5) ha rfl ([] : List Value) (fun w => by kernel_rfl) rfl rfl rfl fun a w4 g5 hN6 ha => ?_
 have o1 : Ok [] (M) w.heap.size := Ok.nil _ _
 have o2 : Ok ([g5] ++ (M)) (M) w.heap.size := (Ok.app (hN6.ok _) (Ok.refl _ _))
 have f1 := f1.chg hN6.chg o1 o2
 have p_i7_M : ∀ x ∈ [g5], x ∉ M := fun x hx hy => absurd (hM x (hy)) (Nat.not_lt.2 ((hN6.ge1) x hx))
 have e_i7 : ∀ x ∈ [g5], w.heap.size ≤ x := fun x hx => Nat.le_trans hC.size ((hN6.ge1) x hx)
 have hM : MS ([g5] ++ (M)) w4 := (MS.app hN6.ms (hM.chg hN6.chg))
 have hC := hC.trans hN6.chg (Ok.nil _ _)
 have f8 : Own (rInt .u8) 5 w4 ([g5] ++ (M)) (some ⟨g5, 0, none⟩) 0 ([] : List Int) := hN6.own rfl (Nat.le_of_ble_eq_true rfl)
 refine seg ha 1 [(3, .slice (some ⟨g5, 0, none⟩) ([] : List Int).length 0), (4, .slice ao1 a0.length cap1)] (by kernel_rfl) fun a ha => ?_
 obtain ⟨hx9, H⟩ := ite_some H
 refine app (r := (rInt .u8)) (xs := ([] : List Int)) (ys := a0) ha (ElemT.mk' (bytes := 1) (by kernel_rfl)) rfl rfl rfl rfl rfl f8 f1.src hx9 (by decide) fun a w10 ao11 cap11 hO11 hc11 hk11 hl11 ha => ?_
 have o1 : Ok [g5] ([g5] ++ (M)) w4.heap.size := (fun _ h => .inl (ml h))
 have o2 : Ok (blkL ao11 ++ (M)) ([g5] ++ (M)) w4.heap.size := (Ok.app (Ok.to hk11 (fun _ h => ml h)) (fun _ h => .inl (mr (h))))
 have f1 := f1.chg hc11 o1 o2
 have p_i11_M : ∀ x ∈ blkL ao11, x ∉ M := fun x hx hy => (hk11 x hx).elim (fun h => p_i7_M x h hy) (fun h => absurd (hM x (mr (hy))) (Nat.not_lt.2 h))
 have e_i11 : ∀ x ∈ blkL ao11, w.heap.size ≤ x := fun x hx => (hk11 x hx).elim (e_i7 x) (Nat.le_trans hC.size)
 have hM : MS (blkL ao11 ++ (M)) w10 := (MS.app hl11 (fun x h => hM.chg hc11 x (mr (h))))
 have hC := hC.trans hc11 (fun x h => .inr (e_i7 x h))
 have f11 := hO11.chg (M' := blkL ao11 ++ (M)) (Chg.refl [] _) (Ok.nil _ _) (Ok.app (fun _ h => .inl (ml h)) (Ok.to (fun _ h => .inl (mr (h))) (fun _ h => mr h))) (fun _ _ h => nomatch h) (fun _ h => ml h)
 refine opk (v := .agg (cS_vineryref01_Reader (⟨(([] : List Int) ++ a0), (0 : Int), false⟩ : S_vineryref01_Reader) ao11 cap11).toArray) ha rfl rfl rfl rfl rfl (fun w => by kernel_rfl) fun a ha => ?_
 have fz := f11.toRSl (M' := M) (fun _ h => .inl (mr (h))) (fun x hx hm => p_i11_M x hx hm)
 have hM : MS (M) w10 := (fun x h => hM.chg (Chg.refl [] _) x (mr (h)))
 have hC := hC.trans (Chg.refl [] _) (Ok.nil _ _)
 have f11 := fz
 refine bx (cs := (cS_vineryref01_Reader (⟨(([] : List Int) ++ a0), (0 : Int), false⟩ : S_vineryref01_Reader) ao11 cap11)) ha rfl rfl rfl rfl rfl fun a w12 g13 hN14 ha => ?_
 have o1 : Ok [] (M) w10.heap.size := Ok.nil _ _
 have o2 : Ok ([g13] ++ (M)) (M) w10.heap.size := (Ok.app (hN14.ok _) (Ok.refl _ _))
 have f11 := f11.chg hN14.chg o1 o2
 have p_i15_M : ∀ x ∈ [g13], x ∉ M := fun x hx hy => absurd (hM x (hy)) (Nat.not_lt.2 ((hN14.ge1) x hx))
 have e_i15 : ∀ x ∈ [g13], w.heap.size ≤ x := fun x hx => Nat.le_trans hC.size ((hN14.ge1) x hx)
 have hM : MS ([g13] ++ (M)) w12 := (MS.app hN14.ms (hM.chg hN14.chg))
 have hC := hC.trans hN14.chg (Ok.nil _ _)
 have hBg13 : Box w12 g13 (cS_vineryref01_Reader (⟨(([] : List Int) ++ a0), (0 : Int), false⟩ : S_vineryref01_Reader) ao11 cap11) := hN14.box
 refine seg ha 1 [(2, .pointer (some ⟨g13, 0, none⟩))] (by kernel_rfl) fun a ha => ?_
 refine hK3 _ _ ?_; try clear hK3 K3
 refine wp_ret ?_
 try simp only [Exit.then, Exit.inBlock]
 obtain rfl := Option.some.inj H
 refine rt1 ha rfl rfl ?_
 exact ⟨g13, ao11, cap11, rfl, f11, hBg13, e_i15, hC, hM⟩
def vineryref01_Reader_Take.f (a0 : S_vineryref01_Reader) (a1 : Int) : Option (List Int × S_vineryref01_Reader) := ((if a0.No = true then some (true : Bool) else (if (decide (a1 < (0 : Int))) = true then some (true : Bool) else some (decide (a1 > (IntKind.i64.wrap ((a0.B.length : Int) - a0.At))) : Bool)))).bind fun s5 => (if s5 = true then some ((([] : List Int) : List Int), ((⟨a0.B, a0.At, true⟩ : S_vineryref01_Reader) : S_vineryref01_Reader)) else (if 0 ≤ a0.At ∧ a0.At ≤ (IntKind.i64.wrap (a0.At + a1)) ∧ (IntKind.i64.wrap (a0.At + a1)) ≤ (a0.B.length : Int) then (if (([] : List Int).length + ((a0.B.take (Int.toNat (IntKind.i64.wrap (a0.At + a1)))).drop (Int.toNat a0.At)).length) * 1 ≤ 140737488355328 then some (((([] : List Int) ++ ((a0.B.take (Int.toNat (IntKind.i64.wrap (a0.At + a1)))).drop (Int.toNat a0.At))) : List Int), ((⟨a0.B, IntKind.i64.wrap (a0.At + a1), a0.No⟩ : S_vineryref01_Reader) : S_vineryref01_Reader)) else none) else none))
set_option maxRecDepth 100000 in
theorem vineryref01_Reader_Take.walk (w : World) (M : List Nat) (hM : MS M w) (gp0 : Nat) (a0 : S_vineryref01_Reader) (ao1 : Option Addr) (cap1 : Nat) (f1 : RSl (rInt .u8) 5 w M ao1 cap1 a0.B) (hBgp0 : Box w gp0 (cS_vineryref01_Reader a0 ao1 cap1)) (hg_gp0 : gp0 ∈ M) (a1 : Int) (r : List Int × S_vineryref01_Reader) (H : vineryref01_Reader_Take.f a0 a1 = some r) :
    To Tryd.prog 63 [.pointer (some ⟨gp0, 0, none⟩), .int .i64 a1] w fun v w' => ∃ (ao39 : Option Addr) (cap39 : Nat) (ao40 : Option Addr) (cap40 : Nat), v = .slice ao39 r.1.length cap39 ∧ (Own (rInt .u8) 5 w' (blkL ao39 ++ (M)) ao39 cap39 r.1) ∧ (RSl (rInt .u8) 5 w' (blkL ao39 ++ (M)) ao40 cap40 r.2.B) ∧ (Box w' gp0 (cS_vineryref01_Reader r.2 ao40 cap40)) ∧ (∀ x ∈ blkL ao39, w.heap.size ≤ x) ∧ Chg [gp0] w w' ∧ MS (blkL ao39 ++ (M)) w' := by
 unfold vineryref01_Reader_Take.f at H
 refine ent Tryd.func63 rfl [(0, .pointer (some ⟨gp0, 0, none⟩)), (1, .int .i64 a1)] rfl (by rfl) fun a ha => ?_
 have hC : Chg [gp0] w w := Chg.refl _ _
 refine wp_seq_k fun K2 hK2 => ?_
 refine wp_region_lit ?_
 refine seg ha 1 [(0, .pointer (some ⟨gp0, 0, none⟩)), (1, .int .i64 a1)] (by kernel_rfl) fun a ha => ?_
 refine hK2 _ _ ?_; try clear hK2 K2
 refine wp_seq_k fun K3 hK3 => ?_
 refine wp_seq_k fun K4 hK4 => ?_
 refine drq0 (fun w' => Chg [] w w') (by kernel_rfl) (by kernel_rfl) (fun _ h => h) ?_
 obtain ⟨s5, H5, H⟩ := bind_some H
 have J5 : ∀ (a : Act) (w5 : World), Has a Tryd.f63.ntmps [(0, .pointer (some ⟨gp0, 0, none⟩)), (1, .int .i64 a1), (27, .bool s5)] → (RSl (rInt .u8) 5 w5 (M) ao1 cap1 a0.B) → (Box w5 gp0 (cS_vineryref01_Reader a0 ao1 cap1)) → (Chg [gp0] w w5) → (MS (M) w5) → K4 a w5 := by
  intro a w5 ha f1 hBgp0 hC hM
  refine hK4 _ _ ?_; try clear hK4 K4
  refine cnd ha rfl (fun hc6 => ?_) (fun hc6 => ?_)
  ·have H := ite_t hc6 H
   refine wp_seq_k fun K7 hK7 => ?_
   refine wp_region_lit ?_
   refine seg ha 3 [(30, .pointer (some ⟨gp0, 2, none⟩))] (by kernel_rfl) fun a ha => ?_
   refine st ha rfl rfl rfl (by kernel_rfl) rfl rfl hBgp0 (Nat.le_of_ble_eq_true (by kernel_rfl)) fun a w8 ha hb2 hc9 _ => ?_
   have o1 : Ok [gp0] (M) w5.heap.size := Ok.one (.inl (hg_gp0))
   have o2 : Ok (M) (M) w5.heap.size := (Ok.refl _ _)
   have f1 := f1.chg hc9 o1 o2
   have hM : MS (M) w8 := (hM.chg hc9)
   have hC := hC.trans hc9 (Ok.one (.inl (by simp)))
   have hBgp0 : Box w8 gp0 (cS_vineryref01_Reader (⟨a0.B, a0.At, true⟩ : S_vineryref01_Reader) ao1 cap1) := hb2
   refine hK7 _ _ ?_; try clear hK7 K7
   refine wp_seq_k fun K10 hK10 => ?_
   refine wp_region_lit ?_
   refine seg ha 1 [(4, .slice none 0 0)] (by kernel_rfl) fun a ha => ?_
   refine hK10 _ _ ?_; try clear hK10 K10
   refine wp_ret ?_
   try simp only [Exit.then, Exit.inBlock]
   have o1 : Ok [] (M) w8.heap.size := Ok.nil _ _
   have o2 : Ok (blkL none ++ (M)) (M) w8.heap.size := (Ok.app (fun _ h => nomatch h) (Ok.refl _ _))
   have f1 := f1.chg (Chg.refl [] _) o1 o2
   have hBgp0 := hBgp0.chg (Chg.refl [] _) (fun h => nomatch h)
   have p_z11_M : ∀ x ∈ blkL none, x ∉ M := fun x hx hy => absurd (hM x (hy)) (Nat.not_lt.2 ((fun _ h => nomatch h) x hx))
   have e_z11 : ∀ x ∈ blkL none, w.heap.size ≤ x := fun x hx => Nat.le_trans hC.size ((fun _ h => nomatch h) x hx)
   have hM : MS (blkL none ++ (M)) w8 := (MS.app (fun _ h => nomatch h) (hM.chg (Chg.refl [] _)))
   have hC := hC.trans (Chg.refl [] _) (Ok.nil _ _)
   obtain rfl := Option.some.inj H
   refine rt1 ha rfl rfl ?_
   exact ⟨none, 0, ao1, cap1, rfl, Own.nil, f1, hBgp0, e_z11, hC, hM⟩
  ·have H := ite_f hc6 H
   refine wp_skip ?_
   refine hK3 _ _ ?_; try clear hK3 K3
   refine wp_seq_k fun K12 hK12 => ?_
   have z_f1 := f1
   have z_hBgp0 := hBgp0
   have okS : Ok [] (M) w5.heap.size := Ok.nil _ _
   refine drw (fun w' => Chg [] w5 w') (by kernel_rfl) fun w13 hc14 _ => ?_
   have hS : Chg [] w5 w13 := (Chg.refl [] _).trans hc14 (Ok.nil _ _)
   have o1 : Ok [] (M) w5.heap.size := Ok.nil _ _
   have o2 : Ok (M) (M) w5.heap.size := (Ok.refl _ _)
   have f1 := f1.chg hc14 o1 o2
   have hBgp0 := hBgp0.chg hc14 (fun h => nomatch h)
   have hM : MS (M) w13 := (hM.chg hc14)
   have hC := hC.trans hc14 (Ok.nil _ _)
   refine tkpz 1 0 (.pointer (some ⟨gp0, 0, none⟩)) ha (s := hS) (q := fun a ha => ?_)
   refine tkpz 2 0 (.pointer (some ⟨gp0, 0, none⟩)) ha (s := hS) (q := fun a ha => ?_)
   refine tkpz 3 0 (.pointer (some ⟨gp0, 0, none⟩)) ha (s := hS) (q := fun a ha => ?_)
   refine tkz 4 ha (v := .slice ao1 a0.B.length cap1) (y := fun w' hs => ld_run ha rfl (by kernel_rfl) ((Box.chg z_hBgp0 hs (fun h => nomatch h)).cell' (o := 0) rfl (by kernel_rfl))) (s := hS) (q := fun a ha => ?_)
   refine tkpz 5 0 (.pointer (some ⟨gp0, 0, none⟩)) ha (s := hS) (q := fun a ha => ?_)
   refine tkpz 6 0 (.pointer (some ⟨gp0, 0, none⟩)) ha (s := hS) (q := fun a ha => ?_)
   refine tkpz 7 0 (.pointer (some ⟨gp0, 1, none⟩)) ha (s := hS) (q := fun a ha => ?_)
   refine tkz 8 ha (v := .int .i64 a0.At) (y := fun w' hs => ld_run ha rfl (by kernel_rfl) ((Box.chg z_hBgp0 hs (fun h => nomatch h)).cell' (o := 1) rfl (by kernel_rfl))) (s := hS) (q := fun a ha => ?_)
   refine tkpz 9 0 (.pointer (some ⟨gp0, 0, none⟩)) ha (s := hS) (q := fun a ha => ?_)
   refine tkpz 10 0 (.pointer (some ⟨gp0, 0, none⟩)) ha (s := hS) (q := fun a ha => ?_)
   refine tkpz 11 0 (.pointer (some ⟨gp0, 1, none⟩)) ha (s := hS) (q := fun a ha => ?_)
   refine tkz 12 ha (v := .int .i64 a0.At) (y := fun w' hs => ld_run ha rfl (by kernel_rfl) ((Box.chg z_hBgp0 hs (fun h => nomatch h)).cell' (o := 1) rfl (by kernel_rfl))) (s := hS) (q := fun a ha => ?_)
   refine tkpz 13 0 (.int .i64 a1) ha (s := hS) (q := fun a ha => ?_)
   refine tkpz 14 0 (.int .i64 (IntKind.i64.wrap (a0.At + a1))) ha (s := hS) (q := fun a ha => ?_)
   obtain ⟨⟨hx15, hx15', hx15''⟩, H⟩ := ite_some H
   obtain ⟨ao16, cap16, z_f16, hr16⟩ := slc_run (r := (rInt .u8)) (t := 25) (lo := (Option.some (Operand.tmp 39))) (hi := (Option.some (Operand.tmp 45))) (l := a0.At) (h := (IntKind.i64.wrap (a0.At + a1))) (dd := some 46) (ty := 25) (pos := "ref.go:22") (af := #[{ on := 4, ground := Ground.data }, { on := 8, ground := Ground.data }, { on := 14, ground := Ground.data }]) (gd := Option.none) ha (by kernel_rfl) (by kernel_rfl) (x := (Operand.tmp 35)) rfl rfl rfl z_f1 hx15 hx15' hx15''
   refine tkz 15 ha (v := .slice ao16 ((a0.B.take (Int.toNat (IntKind.i64.wrap (a0.At + a1)))).drop (Int.toNat a0.At)).length cap16) (y := fun w' _ => hr16 w') (s := hS) (q := fun a ha => ?_)
   have f16 := RSl.chg z_f16 hS okS (Ok.refl _ _)
   refine ac 0 (by kernel_rfl) (by rfl) fun K17 hK17 => ?_
   refine bsl (vals := ([] : List Value)) (T := 5) ha rfl ([] : List Value) (fun w => by kernel_rfl) rfl rfl rfl fun a w18 g19 hN20 ha => ?_
   have o1 : Ok [] (M) w13.heap.size := Ok.nil _ _
   have o2 : Ok ([g19] ++ (M)) (M) w13.heap.size := (Ok.app (hN20.ok _) (Ok.refl _ _))
   have f1 := f1.chg hN20.chg o1 o2
   have f16 := f16.chg hN20.chg o1 o2
   have hBgp0 := hBgp0.chg hN20.chg (fun h => nomatch h)
   have p_iD000021_M : ∀ x ∈ [g19], x ∉ M := fun x hx hy => absurd (hM x (hy)) (Nat.not_lt.2 ((hN20.ge1) x hx))
   have e_iD000021 : ∀ x ∈ [g19], w.heap.size ≤ x := fun x hx => Nat.le_trans hC.size ((hN20.ge1) x hx)
   have hM : MS ([g19] ++ (M)) w18 := (MS.app hN20.ms (hM.chg hN20.chg))
   have hC := hC.trans hN20.chg (Ok.nil _ _)
   have d_iD000021 : Ok ([g19]) [] w5.heap.size := fun x hx => .inr (Nat.le_trans hS.size ((hN20.ge1) x hx))
   have hS := hS.trans hN20.chg (Ok.nil _ _)
   have f22 : Own (rInt .u8) 5 w18 ([g19] ++ (M)) (some ⟨g19, 0, none⟩) 0 ([] : List Int) := hN20.own rfl (Nat.le_of_ble_eq_true rfl)
   refine ae hK17 hS ?_; clear hK17 K17
   refine ac 16 (by kernel_rfl) (by rfl) fun K23 hK23 => ?_
   obtain ⟨hx24, H⟩ := ite_some H
   refine app (r := (rInt .u8)) (xs := ([] : List Int)) (ys := ((a0.B.take (Int.toNat (IntKind.i64.wrap (a0.At + a1)))).drop (Int.toNat a0.At))) ha (ElemT.mk' (bytes := 1) (by kernel_rfl)) rfl rfl rfl rfl rfl f22 f16.src hx24 (by decide) fun a w25 ao26 cap26 hO26 hc26 hk26 hl26 ha => ?_
   have o1 : Ok [g19] ([g19] ++ (M)) w18.heap.size := (fun _ h => .inl (ml h))
   have o2 : Ok (blkL ao26 ++ (M)) ([g19] ++ (M)) w18.heap.size := (Ok.app (Ok.to hk26 (fun _ h => ml h)) (fun _ h => .inl (mr (h))))
   have f1 := f1.chg hc26 o1 o2
   have f16 := f16.chg hc26 o1 o2
   have hBgp0 := hBgp0.chg hc26 ((fun x (hx : x ∈ [gp0]) (hy : x ∈ [g19]) => p_iD000021_M x hy (by rw [List.mem_singleton.1 hx]; exact hg_gp0)) gp0 (by simp))
   have p_iD000026_M : ∀ x ∈ blkL ao26, x ∉ M := fun x hx hy => (hk26 x hx).elim (fun h => p_iD000021_M x h hy) (fun h => absurd (hM x (mr (hy))) (Nat.not_lt.2 h))
   have e_iD000026 : ∀ x ∈ blkL ao26, w.heap.size ≤ x := fun x hx => (hk26 x hx).elim (e_iD000021 x) (Nat.le_trans hC.size)
   have hM : MS (blkL ao26 ++ (M)) w25 := (MS.app hl26 (fun x h => hM.chg hc26 x (mr (h))))
   have hC := hC.trans hc26 (fun x h => .inr (e_iD000021 x h))
   have d_iD000026 : Ok (blkL ao26) [] w5.heap.size := fun x hx => (hk26 x hx).elim (fun h => d_iD000021 x h) (fun h => .inr (Nat.le_trans hS.size h))
   have hS := hS.trans hc26 d_iD000021
   have f26 := hO26.chg (M' := blkL ao26 ++ (M)) (Chg.refl [] _) (Ok.nil _ _) (Ok.app (fun _ h => .inl (ml h)) (Ok.to (fun _ h => .inl (mr (h))) (fun _ h => mr h))) (fun _ _ h => nomatch h) (fun _ h => ml h)
   refine ae hK23 hS ?_; clear hK23 K23
   refine tkpz 17 0 (.slice ao26 (([] : List Int) ++ ((a0.B.take (Int.toNat (IntKind.i64.wrap (a0.At + a1)))).drop (Int.toNat a0.At))).length cap26) ha (s := hS) (q := fun a ha => ?_)
   refine dn (by kernel_rfl) ?_
   refine hK12 _ _ ?_; try clear hK12 K12
   refine wp_seq_k fun K27 hK27 => ?_
   refine wp_region_lit ?_
   refine seg ha 4 [(1, .int .i64 a1), (5, .slice ao26 (([] : List Int) ++ ((a0.B.take (Int.toNat (IntKind.i64.wrap (a0.At + a1)))).drop (Int.toNat a0.At))).length cap26), (48, .pointer (some ⟨gp0, 0, none⟩)), (51, .pointer (some ⟨gp0, 1, none⟩))] (by kernel_rfl) fun a ha => ?_
   refine ld (v := .int .i64 a0.At) ha rfl (by kernel_rfl) rfl rfl rfl (hBgp0.cell' (o := 1) rfl (by kernel_rfl)) fun a ha => ?_
   refine seg ha 4 [(5, .slice ao26 (([] : List Int) ++ ((a0.B.take (Int.toNat (IntKind.i64.wrap (a0.At + a1)))).drop (Int.toNat a0.At))).length cap26), (54, .int .i64 (IntKind.i64.wrap (a0.At + a1))), (56, .pointer (some ⟨gp0, 1, none⟩))] (by kernel_rfl) fun a ha => ?_
   refine st ha rfl rfl rfl (by kernel_rfl) rfl rfl hBgp0 (Nat.le_of_ble_eq_true (by kernel_rfl)) fun a w28 ha hb2 hc29 _ => ?_
   have o1 : Ok [gp0] (blkL ao26 ++ (M)) w25.heap.size := Ok.one (.inl (mr (hg_gp0)))
   have o2 : Ok (blkL ao26 ++ (M)) (blkL ao26 ++ (M)) w25.heap.size := (Ok.refl _ _)
   have f26 := f26.chg hc29 o1 o2 (fun x (hx : x ∈ blkL ao26) (hy : x ∈ [gp0]) => p_iD000026_M x hx (by rw [List.mem_singleton.1 hy]; exact hg_gp0)) (fun _ h => ml h)
   have f1 := f1.chg hc29 o1 o2
   have hM : MS (blkL ao26 ++ (M)) w28 := (hM.chg hc29)
   have hC := hC.trans hc29 (Ok.one (.inl (by simp)))
   have hBgp0 : Box w28 gp0 (cS_vineryref01_Reader (⟨a0.B, IntKind.i64.wrap (a0.At + a1), a0.No⟩ : S_vineryref01_Reader) ao1 cap1) := hb2
   refine hK27 _ _ ?_; try clear hK27 K27
   refine wp_seq_k fun K30 hK30 => ?_
   refine wp_region_lit ?_
   refine seg ha 2 [(4, .slice ao26 (([] : List Int) ++ ((a0.B.take (Int.toNat (IntKind.i64.wrap (a0.At + a1)))).drop (Int.toNat a0.At))).length cap26)] (by kernel_rfl) fun a ha => ?_
   refine hK30 _ _ ?_; try clear hK30 K30
   refine wp_ret ?_
   try simp only [Exit.then, Exit.inBlock]
   obtain rfl := Option.some.inj H
   refine rt1 ha rfl rfl ?_
   exact ⟨ao26, cap26, ao1, cap1, rfl, f26, f1, hBgp0, e_iD000026, hC, hM⟩
 have H := H5
 refine qp 0 (.pointer (some ⟨gp0, 0, none⟩)) ha rfl rfl rfl (by kernel_rfl) fun a ha => ?_
 refine qp 0 (.pointer (some ⟨gp0, 0, none⟩)) ha rfl rfl rfl (by kernel_rfl) fun a ha => ?_
 refine qp 0 (.pointer (some ⟨gp0, 2, none⟩)) ha rfl rfl rfl (by kernel_rfl) fun a ha => ?_
 refine qv (v := .bool a0.No) ha rfl rfl rfl (fun w' hs => ld_run ha rfl (by kernel_rfl) ((Box.chg hBgp0 hs (fun h => nomatch h)).cell' (o := 2) rfl (by kernel_rfl))) fun a ha => ?_
 refine qp 0 (.bool a0.No) ha rfl rfl rfl (by kernel_rfl) fun a ha => ?_
 have ha := ha.sel (env' := [(10, .bool a0.No), (0, .pointer (some ⟨gp0, 0, none⟩)), (1, .int .i64 a1)]) (by kernel_rfl)
 rcases Bool.eq_false_or_eq_true (a0.No) with hb31 | hb31
 ·have ha := ha.lit hb31
  have H := ite_t hb31 H
  refine qo ha rfl rfl rfl fun a ha => ?_
  refine qo ha rfl rfl rfl fun a ha => ?_
  refine qp 3 (.bool true) ha rfl rfl rfl (by kernel_rfl) fun a ha => ?_
  refine qp 0 (.bool true) ha rfl rfl rfl (by kernel_rfl) fun a ha => ?_
  refine qo ha rfl rfl rfl fun a ha => ?_
  refine qo ha rfl rfl rfl fun a ha => ?_
  refine qo ha rfl rfl rfl fun a ha => ?_
  refine qo ha rfl rfl rfl fun a ha => ?_
  refine qo ha rfl rfl rfl fun a ha => ?_
  refine qo ha rfl rfl rfl fun a ha => ?_
  refine qo ha rfl rfl rfl fun a ha => ?_
  refine qo ha rfl rfl rfl fun a ha => ?_
  refine qo ha rfl rfl rfl fun a ha => ?_
  refine qo ha rfl rfl rfl fun a ha => ?_
  refine qo ha rfl rfl rfl fun a ha => ?_
  refine qo ha rfl rfl rfl fun a ha => ?_
  refine qp 3 (.bool true) ha rfl rfl rfl (by kernel_rfl) fun a ha => ?_
  refine wpQuiet_nil ?_
  intro w32 hc33
  have o1 : Ok [] (M) w.heap.size := Ok.nil _ _
  have o2 : Ok (M) (M) w.heap.size := (Ok.refl _ _)
  have f1 := f1.chg hc33 o1 o2
  have hBgp0 := hBgp0.chg hc33 (fun h => nomatch h)
  have hM : MS (M) w32 := (hM.chg hc33)
  have hC := hC.trans hc33 (Ok.nil _ _)
  refine wpl_end ?_
  obtain rfl := Option.some.inj H
  exact J5 _ _ (ha.sel (by kernel_rfl)) f1 hBgp0 hC hM
 ·have ha := ha.lit hb31
  have H := ite_f hb31 H
  refine qp 0 (.int .i64 a1) ha rfl rfl rfl (by kernel_rfl) fun a ha => ?_
  refine qp 0 (.bool (decide (a1 < (0 : Int)))) ha rfl rfl rfl (by kernel_rfl) fun a ha => ?_
  refine qp 4 (.bool (decide (a1 < (0 : Int)))) ha rfl rfl rfl (by kernel_rfl) fun a ha => ?_
  refine qp 0 (.bool (decide (a1 < (0 : Int)))) ha rfl rfl rfl (by kernel_rfl) fun a ha => ?_
  have ha := ha.sel (env' := [(14, .bool (decide (a1 < (0 : Int)))), (0, .pointer (some ⟨gp0, 0, none⟩)), (1, .int .i64 a1)]) (by kernel_rfl)
  rcases Bool.eq_false_or_eq_true (decide (a1 < (0 : Int))) with hb34 | hb34
  ·have ha := ha.lit hb34
   have H := ite_t hb34 H
   refine qo ha rfl rfl rfl fun a ha => ?_
   refine qo ha rfl rfl rfl fun a ha => ?_
   refine qo ha rfl rfl rfl fun a ha => ?_
   refine qo ha rfl rfl rfl fun a ha => ?_
   refine qo ha rfl rfl rfl fun a ha => ?_
   refine qo ha rfl rfl rfl fun a ha => ?_
   refine qo ha rfl rfl rfl fun a ha => ?_
   refine qo ha rfl rfl rfl fun a ha => ?_
   refine qo ha rfl rfl rfl fun a ha => ?_
   refine qo ha rfl rfl rfl fun a ha => ?_
   refine qo ha rfl rfl rfl fun a ha => ?_
   refine qo ha rfl rfl rfl fun a ha => ?_
   refine qp 3 (.bool true) ha rfl rfl rfl (by kernel_rfl) fun a ha => ?_
   refine wpQuiet_nil ?_
   intro w35 hc36
   have o1 : Ok [] (M) w.heap.size := Ok.nil _ _
   have o2 : Ok (M) (M) w.heap.size := (Ok.refl _ _)
   have f1 := f1.chg hc36 o1 o2
   have hBgp0 := hBgp0.chg hc36 (fun h => nomatch h)
   have hM : MS (M) w35 := (hM.chg hc36)
   have hC := hC.trans hc36 (Ok.nil _ _)
   refine wpl_end ?_
   obtain rfl := Option.some.inj H
   exact J5 _ _ (ha.sel (by kernel_rfl)) f1 hBgp0 hC hM
  ·have ha := ha.lit hb34
   have H := ite_f hb34 H
   refine qp 0 (.int .i64 a1) ha rfl rfl rfl (by kernel_rfl) fun a ha => ?_
   refine qp 0 (.pointer (some ⟨gp0, 0, none⟩)) ha rfl rfl rfl (by kernel_rfl) fun a ha => ?_
   refine qp 0 (.pointer (some ⟨gp0, 0, none⟩)) ha rfl rfl rfl (by kernel_rfl) fun a ha => ?_
   refine qp 0 (.pointer (some ⟨gp0, 0, none⟩)) ha rfl rfl rfl (by kernel_rfl) fun a ha => ?_
   refine qv (v := .slice ao1 a0.B.length cap1) ha rfl rfl rfl (fun w' hs => ld_run ha rfl (by kernel_rfl) ((Box.chg hBgp0 hs (fun h => nomatch h)).cell' (o := 0) rfl (by kernel_rfl))) fun a ha => ?_
   refine qp 0 (.int .i64 (a0.B.length : Int)) ha rfl rfl rfl (by kernel_rfl) fun a ha => ?_
   refine qp 0 (.pointer (some ⟨gp0, 0, none⟩)) ha rfl rfl rfl (by kernel_rfl) fun a ha => ?_
   refine qp 0 (.pointer (some ⟨gp0, 0, none⟩)) ha rfl rfl rfl (by kernel_rfl) fun a ha => ?_
   refine qp 0 (.pointer (some ⟨gp0, 1, none⟩)) ha rfl rfl rfl (by kernel_rfl) fun a ha => ?_
   refine qv (v := .int .i64 a0.At) ha rfl rfl rfl (fun w' hs => ld_run ha rfl (by kernel_rfl) ((Box.chg hBgp0 hs (fun h => nomatch h)).cell' (o := 1) rfl (by kernel_rfl))) fun a ha => ?_
   refine qp 0 (.int .i64 (IntKind.i64.wrap ((a0.B.length : Int) - a0.At))) ha rfl rfl rfl (by kernel_rfl) fun a ha => ?_
   refine qp 0 (.bool (decide (a1 > (IntKind.i64.wrap ((a0.B.length : Int) - a0.At))))) ha rfl rfl rfl (by kernel_rfl) fun a ha => ?_
   refine qp 4 (.bool (decide (a1 > (IntKind.i64.wrap ((a0.B.length : Int) - a0.At))))) ha rfl rfl rfl (by kernel_rfl) fun a ha => ?_
   refine wpQuiet_nil ?_
   intro w37 hc38
   have o1 : Ok [] (M) w.heap.size := Ok.nil _ _
   have o2 : Ok (M) (M) w.heap.size := (Ok.refl _ _)
   have f1 := f1.chg hc38 o1 o2
   have hBgp0 := hBgp0.chg hc38 (fun h => nomatch h)
   have hM : MS (M) w37 := (hM.chg hc38)
   have hC := hC.trans hc38 (Ok.nil _ _)
   refine wpl_end ?_
   obtain rfl := Option.some.inj H
   exact J5 _ _ (ha.sel (by kernel_rfl)) f1 hBgp0 hC hM
def vineryref01_Big.l0 (a0 : List Int) : Nat → Int → Int → Option (Int)
  | 0, _, _ => none
  | kk + 1, x7, x8 => (if (decide (x8 < (a0.length : Int))) = true then (if 0 ≤ x8 ∧ x8 < (a0.length : Int) then vineryref01_Big.l0 a0 kk (IntKind.i64.wrap ((IntKind.i64.wrap (x7 * (256 : Int))) + (IntKind.i64.wrap (rd a0 x8)))) (IntKind.i64.wrap (x8 + (1 : Int))) else none) else some (x7 : Int))
def vineryref01_Big.f (k : Nat) (a0 : List Int) : Option (Int) := (vineryref01_Big.l0 a0 k (0 : Int) (0 : Int)).bind fun s6 => some ((s6 : Int))
set_option maxRecDepth 100000 in
theorem vineryref01_Big.walk (w : World) (M : List Nat) (hM : MS M w) (a0 : List Int) (ao1 : Option Addr) (cap1 : Nat) (f1 : RSl (rInt .u8) 5 w M ao1 cap1 a0) (k : Nat) (r : Int) (H : vineryref01_Big.f k a0 = some r) :
    To Tryd.prog 91 [.slice ao1 a0.length cap1] w fun v w' => v = .int .i64 r ∧ Chg [] w w' ∧ MS (M) w' := by
 unfold vineryref01_Big.f at H
 refine ent Tryd.func91 rfl [(0, .slice ao1 a0.length cap1)] rfl (by rfl) fun a ha => ?_
 have hC : Chg [] w w := Chg.refl _ _
 refine wp_seq_k fun K2 hK2 => ?_
 refine wp_region_lit ?_
 refine seg ha 1 [(0, .slice ao1 a0.length cap1)] (by kernel_rfl) fun a ha => ?_
 refine hK2 _ _ ?_; try clear hK2 K2
 refine wp_seq_k fun K3 hK3 => ?_
 refine wp_region_lit ?_
 refine seg ha 1 [(0, .slice ao1 a0.length cap1), (3, .int .i64 (0 : Int))] (by kernel_rfl) fun a ha => ?_
 refine hK3 _ _ ?_; try clear hK3 K3
 refine wp_seq_k fun K4 hK4 => ?_
 refine wp_seq_k fun K5 hK5 => ?_
 refine wp_region_lit ?_
 refine seg ha 1 [(0, .slice ao1 a0.length cap1), (3, .int .i64 (0 : Int)), (4, .int .i64 (0 : Int))] (by kernel_rfl) fun a ha => ?_
 refine hK5 _ _ ?_; try clear hK5 K5
 refine wp_block ?_
 obtain ⟨s6, H6, H⟩ := bind_some H
 have J6 : ∀ (a : Act) (wx6 : World), Has a Tryd.f91.ntmps [(3, .int .i64 s6)] → (Chg [] w wx6) → (MS (M) wx6) → K4 a wx6 := by
  intro a wx6 ha hC hM
  refine hK4 _ _ ?_; try clear hK4 K4
  refine wp_seq_k fun K9 hK9 => ?_
  refine wp_region_lit ?_
  refine seg ha 2 [(2, .int .i64 s6)] (by kernel_rfl) fun a ha => ?_
  refine hK9 _ _ ?_; try clear hK9 K9
  refine wp_ret ?_
  try simp only [Exit.then, Exit.inBlock]
  obtain rfl := Option.some.inj H
  refine rt1 ha rfl rfl ?_
  exact ⟨rfl, hC, hM⟩
 have Hc6 := H
 have H := H6
 refine wp_loop_ghost (fun kk a w6 => ∃ (x7 : Int) (x8 : Int), vineryref01_Big.l0 a0 kk x7 x8 = some s6 ∧ Has a Tryd.f91.ntmps [(0, .slice ao1 a0.length cap1), (3, .int .i64 x7), (4, .int .i64 x8)] ∧ (RSl (rInt .u8) 5 w6 (M) ao1 cap1 a0) ∧ (Chg [] w w6) ∧ (MS (M) w6)) k ?_ ?_
 ·skip
  exact ⟨(0 : Int), (0 : Int), H, (ha.sel (by kernel_rfl)), f1, hC, hM⟩
 ·rintro kk a w6 ⟨x7, x8, H, ha, f1, hC, hM⟩
  obtain _ | kk := kk
  ·exact nomatch (show none = some _ from H)
  rw [vineryref01_Big.l0] at H
  refine wp_seq_k fun K10 hK10 => ?_
  refine wp_seq_k fun K11 hK11 => ?_
  refine wp_region_lit ?_
  refine seg ha 4 [(0, .slice ao1 a0.length cap1), (3, .int .i64 x7), (4, .int .i64 x8), (8, .bool (decide (x8 < (a0.length : Int))))] (by kernel_rfl) fun a ha => ?_
  refine hK11 _ _ ?_; try clear hK11 K11
  refine cnd ha rfl (fun hc12 => ?_) (fun hc12 => ?_)
  ·have H := ite_t hc12 H
   refine wp_skip ?_
   refine hK10 _ _ ?_; try clear hK10 K10
   refine wp_seq_k fun K13 hK13 => ?_
   refine wp_block ?_
   refine wp_region_lit ?_
   refine seg ha 4 [(0, .slice ao1 a0.length cap1), (4, .int .i64 x8), (12, .int .i64 (IntKind.i64.wrap (x7 * (256 : Int)))), (13, .slice ao1 a0.length cap1), (14, .int .i64 x8)] (by kernel_rfl) fun a ha => ?_
   obtain ⟨⟨hx14, hx14'⟩, H⟩ := ite_some H
   refine ix (r := (rInt .u8)) ha (by kernel_rfl) (by kernel_rfl) rfl rfl rfl rfl rfl f1 hx14 hx14' fun a ge15 oe16 cs17 hn20 hR18 hE19 ha => ?_
   rw [rd_get] at hR18
   obtain rfl := hR18
   have hE19 : ∀ j v, ([.int .u8 (rd a0 x8)] : List Value)[j]? = some v → w6.cell? ⟨ge15, oe16 + j, none⟩ = some v := hE19
   refine ld ha rfl (by kernel_rfl) rfl rfl rfl (hE19 0 (.int .u8 (rd a0 x8)) (by kernel_rfl)) fun a ha => ?_
   refine seg ha 3 [(0, .slice ao1 a0.length cap1), (3, .int .i64 (IntKind.i64.wrap ((IntKind.i64.wrap (x7 * (256 : Int))) + (IntKind.i64.wrap (rd a0 x8))))), (4, .int .i64 x8)] (by kernel_rfl) fun a ha => ?_
   refine hK13 _ _ ?_; try clear hK13 K13
   refine wp_region_lit ?_
   refine seg ha 3 [(0, .slice ao1 a0.length cap1), (3, .int .i64 (IntKind.i64.wrap ((IntKind.i64.wrap (x7 * (256 : Int))) + (IntKind.i64.wrap (rd a0 x8))))), (4, .int .i64 (IntKind.i64.wrap (x8 + (1 : Int))))] (by kernel_rfl) fun a ha => ?_
   exact ⟨kk, Nat.lt_succ_self _, ⟨IntKind.i64.wrap ((IntKind.i64.wrap (x7 * (256 : Int))) + (IntKind.i64.wrap (rd a0 x8))), IntKind.i64.wrap (x8 + (1 : Int)), H, (ha.sel (by kernel_rfl)), f1, hC, hM⟩⟩
  ·have H := ite_f hc12 H
   refine wp_exit ?_
   simp only [Exit.then, Exit.inBlock, ↓reduceIte, Nat.reduceEqDiff]
   obtain rfl := Option.some.inj H
   exact J6 _ _ (ha.sel (by kernel_rfl)) hC hM
def vineryref01_Reader_Num.f (k : Nat) (a0 : S_vineryref01_Reader) (a1 : Int) : Option (Int × S_vineryref01_Reader) := (if (if (decide (a1 < (1 : Int))) = true then true else (decide (a1 > (4 : Int)))) = true then some (((0 : Int) : Int), ((⟨a0.B, a0.At, true⟩ : S_vineryref01_Reader) : S_vineryref01_Reader)) else (vineryref01_Reader_Take.f a0 a1).bind fun t11 => (vineryref01_Big.f k t11.1).bind fun t14 => some ((t14 : Int), (t11.2 : S_vineryref01_Reader)))
set_option maxRecDepth 100000 in
theorem vineryref01_Reader_Num.walk (w : World) (M : List Nat) (hM : MS M w) (gp0 : Nat) (a0 : S_vineryref01_Reader) (ao1 : Option Addr) (cap1 : Nat) (f1 : RSl (rInt .u8) 5 w M ao1 cap1 a0.B) (hBgp0 : Box w gp0 (cS_vineryref01_Reader a0 ao1 cap1)) (hg_gp0 : gp0 ∈ M) (a1 : Int) (k : Nat) (r : Int × S_vineryref01_Reader) (H : vineryref01_Reader_Num.f k a0 a1 = some r) :
    To Tryd.prog 62 [.pointer (some ⟨gp0, 0, none⟩), .int .i64 a1] w fun v w' => ∃ (ao15 : Option Addr) (cap15 : Nat), v = .int .i64 r.1 ∧ (RSl (rInt .u8) 5 w' (M) ao15 cap15 r.2.B) ∧ (Box w' gp0 (cS_vineryref01_Reader r.2 ao15 cap15)) ∧ Chg [gp0] w w' ∧ MS (M) w' := by
 unfold vineryref01_Reader_Num.f at H
 refine ent Tryd.func62 rfl [(0, .pointer (some ⟨gp0, 0, none⟩)), (1, .int .i64 a1)] rfl (by rfl) fun a ha => ?_
 have hC : Chg [gp0] w w := Chg.refl _ _
 refine wp_seq_k fun K2 hK2 => ?_
 refine wp_region_lit ?_
 refine seg ha 1 [(0, .pointer (some ⟨gp0, 0, none⟩)), (1, .int .i64 a1)] (by kernel_rfl) fun a ha => ?_
 refine hK2 _ _ ?_; try clear hK2 K2
 refine wp_seq_k fun K3 hK3 => ?_
 refine wp_seq_k fun K4 hK4 => ?_
 refine wp_region_lit ?_
 refine seg ha 6 [(0, .pointer (some ⟨gp0, 0, none⟩)), (1, .int .i64 a1), (10, .bool (if (decide (a1 < (1 : Int))) = true then true else (decide (a1 > (4 : Int)))))] (by kernel_rfl) fun a ha => ?_
 refine hK4 _ _ ?_; try clear hK4 K4
 refine cnd ha rfl (fun hc5 => ?_) (fun hc5 => ?_)
 ·have H := ite_t hc5 H
  refine wp_seq_k fun K6 hK6 => ?_
  refine wp_region_lit ?_
  refine seg ha 3 [(13, .pointer (some ⟨gp0, 2, none⟩))] (by kernel_rfl) fun a ha => ?_
  refine st ha rfl rfl rfl (by kernel_rfl) rfl rfl hBgp0 (Nat.le_of_ble_eq_true (by kernel_rfl)) fun a w7 ha hb2 hc8 _ => ?_
  have o1 : Ok [gp0] (M) w.heap.size := Ok.one (.inl (hg_gp0))
  have o2 : Ok (M) (M) w.heap.size := (Ok.refl _ _)
  have f1 := f1.chg hc8 o1 o2
  have hM : MS (M) w7 := (hM.chg hc8)
  have hC := hC.trans hc8 (Ok.one (.inl (by simp)))
  have hBgp0 : Box w7 gp0 (cS_vineryref01_Reader (⟨a0.B, a0.At, true⟩ : S_vineryref01_Reader) ao1 cap1) := hb2
  refine hK6 _ _ ?_; try clear hK6 K6
  refine wp_seq_k fun K9 hK9 => ?_
  refine wp_region_lit ?_
  refine seg ha 1 [(4, .int .i64 (0 : Int))] (by kernel_rfl) fun a ha => ?_
  refine hK9 _ _ ?_; try clear hK9 K9
  refine wp_ret ?_
  try simp only [Exit.then, Exit.inBlock]
  obtain rfl := Option.some.inj H
  refine rt1 ha rfl rfl ?_
  exact ⟨ao1, cap1, rfl, f1, hBgp0, hC, hM⟩
 ·have H := ite_f hc5 H
  refine wp_skip ?_
  refine hK3 _ _ ?_; try clear hK3 K3
  refine wp_seq_k fun K10 hK10 => ?_
  refine wp_region_lit ?_
  refine seg ha 2 [(14, .pointer (some ⟨gp0, 0, none⟩)), (15, .int .i64 a1)] (by kernel_rfl) fun a ha => ?_
  obtain ⟨t11, H11, H⟩ := bind_some H
  refine cl ha (by rfl) (by kernel_rfl) (by rfl) (by rfl) (by rfl) (vineryref01_Reader_Take.walk w _ hM gp0 a0 ao1 cap1 f1 hBgp0 (hg_gp0) a1 _ H11) ?_
  rintro _ w11 ⟨ao12, cap12, ao13, cap13, rfl, f12, f13, qhBgp0, ne_i12, hc11, hMn⟩ a ha
  have o1 : Ok [gp0] (M) w.heap.size := Ok.one (.inl (hg_gp0))
  have o2 : Ok (blkL ao12 ++ (M)) (M) w.heap.size := (Ok.app (fun x h => .inr (ne_i12 x h)) (Ok.refl _ _))
  have f1 := f1.chg hc11 o1 o2
  have p_i12_M : ∀ x ∈ blkL ao12, x ∉ M := fun x hx hy => absurd (hM x (hy)) (Nat.not_lt.2 (ne_i12 x hx))
  have e_i12 : ∀ x ∈ blkL ao12, w.heap.size ≤ x := fun x hx => Nat.le_trans hC.size (ne_i12 x hx)
  have hM : MS (blkL ao12 ++ (M)) w11 := (MS.app (fun x h => hMn x (ml h)) (hM.chg hc11))
  have hC := hC.trans hc11 (Ok.one (.inl (by simp)))
  have hBgp0 := qhBgp0
  have hML : MS (M) w11 := MS.rest hM (fun _ h => mr (h))
  have oL : Ok (M) (blkL ao12 ++ (M)) w11.heap.size := (fun _ h => .inl (mr (h)))
  obtain ⟨t14, H14, H⟩ := bind_some H
  refine cl ha (by rfl) (by kernel_rfl) (by rfl) (by rfl) (by rfl) (vineryref01_Big.walk w11 _ hML t11.1 ao12 cap12 (Own.toRSl (M' := M) f12 oL (fun x hx hm => p_i12_M x hx hm)) k _ H14) ?_
  rintro _ w14 ⟨rfl, hc14, hMn⟩ a ha
  have o1 : Ok [] (blkL ao12 ++ (M)) w11.heap.size := Ok.nil _ _
  have o2 : Ok (blkL ao12 ++ (M)) (blkL ao12 ++ (M)) w11.heap.size := (Ok.refl _ _)
  have f12 := f12.chg hc14 o1 o2 (fun _ _ h => nomatch h) (fun _ h => ml h)
  have f13 := f13.chg hc14 o1 o2
  have hBgp0 := hBgp0.chg hc14 (fun h => nomatch h)
  have hM : MS (blkL ao12 ++ (M)) w14 := (hM.chg hc14)
  have hC := hC.trans hc14 (Ok.nil _ _)
  refine seg ha 1 [(4, .int .i64 t14)] (by kernel_rfl) fun a ha => ?_
  refine hK10 _ _ ?_; try clear hK10 K10
  refine wp_ret ?_
  try simp only [Exit.then, Exit.inBlock]
  have o1 : Ok [] (blkL ao12 ++ (M)) w14.heap.size := Ok.nil _ _
  have o2 : Ok (M) (blkL ao12 ++ (M)) w14.heap.size := (fun _ h => .inl (mr (h)))
  have f13 := f13.chg (Chg.refl [] _) o1 o2
  have hBgp0 := hBgp0.chg (Chg.refl [] _) (fun h => nomatch h)
  have hM : MS (M) w14 := (fun x h => hM.chg (Chg.refl [] _) x (mr (h)))
  have hC := hC.trans (Chg.refl [] _) (Ok.nil _ _)
  obtain rfl := Option.some.inj H
  refine rt1 ha rfl rfl ?_
  exact ⟨ao13, cap13, rfl, f13, hBgp0, hC, hM⟩
def vineryref05_Read.f (k : Nat) (a0 : List Int) : Option (Int × Bool × Int) := (vineryref01_Big.f k a0).bind fun t4 => (if (if ((a0.length : Int) != (3 : Int)) = true then true else (decide ((Int.tmod t4 (16 : Int)) > (1 : Int)))) = true then some (((0 : Int) : Int), (false : Bool), ((4 : Int) : Int)) else some ((IntKind.i64.wrap (Int.tdiv t4 (16 : Int)) : Int), ((Int.tmod t4 (16 : Int)) == (1 : Int) : Bool), ((0 : Int) : Int)))
set_option maxRecDepth 100000 in
theorem vineryref05_Read.walk (w : World) (M : List Nat) (hM : MS M w) (a0 : List Int) (ao1 : Option Addr) (cap1 : Nat) (f1 : RSl (rInt .u8) 5 w M ao1 cap1 a0) (k : Nat) (r : Int × Bool × Int) (H : vineryref05_Read.f k a0 = some r) :
    To Tryd.prog 88 [.slice ao1 a0.length cap1] w fun v w' => v = .tuple #[.int .i64 r.1, .bool r.2.1, .int .i64 r.2.2] ∧ Chg [] w w' ∧ MS (M) w' := by
 unfold vineryref05_Read.f at H
 refine ent Tryd.func88 rfl [(0, .slice ao1 a0.length cap1)] rfl (by rfl) fun a ha => ?_
 have hC : Chg [] w w := Chg.refl _ _
 refine wp_seq_k fun K2 hK2 => ?_
 refine wp_region_lit ?_
 refine seg ha 3 [(0, .slice ao1 a0.length cap1)] (by kernel_rfl) fun a ha => ?_
 refine hK2 _ _ ?_; try clear hK2 K2
 refine wp_seq_k fun K3 hK3 => ?_
 refine wp_region_lit ?_
 refine seg ha 1 [(0, .slice ao1 a0.length cap1), (6, .slice ao1 a0.length cap1)] (by kernel_rfl) fun a ha => ?_
 obtain ⟨t4, H4, H⟩ := bind_some H
 refine cl ha (by rfl) (by kernel_rfl) (by rfl) (by rfl) (by rfl) (vineryref01_Big.walk w _ hM a0 ao1 cap1 f1 k _ H4) ?_
 rintro _ w4 ⟨rfl, hc4, hMn⟩ a ha
 have o1 : Ok [] (M) w.heap.size := Ok.nil _ _
 have o2 : Ok (M) (M) w.heap.size := (Ok.refl _ _)
 have f1 := f1.chg hc4 o1 o2
 have hM : MS (M) w4 := (hM.chg hc4)
 have hC := hC.trans hc4 (Ok.nil _ _)
 refine seg ha 1 [(0, .slice ao1 a0.length cap1), (5, .int .i64 t4)] (by kernel_rfl) fun a ha => ?_
 refine hK3 _ _ ?_; try clear hK3 K3
 refine wp_seq_k fun K5 hK5 => ?_
 refine wp_seq_k fun K6 hK6 => ?_
 refine wp_region_lit ?_
 refine seg ha 8 [(5, .int .i64 t4), (15, .bool (if ((a0.length : Int) != (3 : Int)) = true then true else (decide ((Int.tmod t4 (16 : Int)) > (1 : Int)))))] (by kernel_rfl) fun a ha => ?_
 refine hK6 _ _ ?_; try clear hK6 K6
 refine cnd ha rfl (fun hc7 => ?_) (fun hc7 => ?_)
 ·have H := ite_t hc7 H
  refine wp_seq_k fun K8 hK8 => ?_
  refine wp_region_lit ?_
  refine seg ha 3 [(2, .int .i64 (0 : Int)), (3, .bool false), (4, .int .i64 (4 : Int))] (by kernel_rfl) fun a ha => ?_
  refine hK8 _ _ ?_; try clear hK8 K8
  refine wp_ret ?_
  try simp only [Exit.then, Exit.inBlock]
  obtain rfl := Option.some.inj H
  refine rt3 ha rfl rfl rfl rfl ?_
  exact ⟨rfl, hC, hM⟩
 ·have H := ite_f hc7 H
  refine wp_skip ?_
  refine hK5 _ _ ?_; try clear hK5 K5
  refine wp_seq_k fun K9 hK9 => ?_
  refine wp_region_lit ?_
  refine seg ha 8 [(2, .int .i64 (IntKind.i64.wrap (Int.tdiv t4 (16 : Int)))), (3, .bool ((Int.tmod t4 (16 : Int)) == (1 : Int))), (4, .int .i64 (0 : Int))] (by kernel_rfl) fun a ha => ?_
  refine hK9 _ _ ?_; try clear hK9 K9
  refine wp_ret ?_
  try simp only [Exit.then, Exit.inBlock]
  obtain rfl := Option.some.inj H
  refine rt3 ha rfl rfl rfl rfl ?_
  exact ⟨rfl, hC, hM⟩
def vineryref01_Reader_Left.f (a0 : S_vineryref01_Reader) : Option (Int) := (if a0.No = true then some (((0 : Int) : Int)) else some ((IntKind.i64.wrap ((a0.B.length : Int) - a0.At) : Int)))
set_option maxRecDepth 100000 in
theorem vineryref01_Reader_Left.walk (w : World) (M : List Nat) (hM : MS M w) (gp0 : Nat) (a0 : S_vineryref01_Reader) (ao1 : Option Addr) (cap1 : Nat) (f1 : RSl (rInt .u8) 5 w M ao1 cap1 a0.B) (hBgp0 : Box w gp0 (cS_vineryref01_Reader a0 ao1 cap1)) (hg_gp0 : gp0 ∈ M) (r : Int) (H : vineryref01_Reader_Left.f a0 = some r) :
    To Tryd.prog 61 [.pointer (some ⟨gp0, 0, none⟩)] w fun v w' => v = .int .i64 r ∧ Chg [] w w' ∧ MS (M) w' := by
 unfold vineryref01_Reader_Left.f at H
 refine ent Tryd.func61 rfl [(0, .pointer (some ⟨gp0, 0, none⟩))] rfl (by rfl) fun a ha => ?_
 have hC : Chg [] w w := Chg.refl _ _
 refine wp_seq_k fun K2 hK2 => ?_
 refine wp_region_lit ?_
 refine seg ha 1 [(0, .pointer (some ⟨gp0, 0, none⟩))] (by kernel_rfl) fun a ha => ?_
 refine hK2 _ _ ?_; try clear hK2 K2
 refine wp_seq_k fun K3 hK3 => ?_
 refine wp_seq_k fun K4 hK4 => ?_
 refine wp_region_lit ?_
 refine seg ha 3 [(0, .pointer (some ⟨gp0, 0, none⟩)), (5, .pointer (some ⟨gp0, 2, none⟩))] (by kernel_rfl) fun a ha => ?_
 refine ld (v := .bool a0.No) ha rfl (by kernel_rfl) rfl rfl rfl (hBgp0.cell' (o := 2) rfl (by kernel_rfl)) fun a ha => ?_
 refine hK4 _ _ ?_; try clear hK4 K4
 refine cnd ha rfl (fun hc5 => ?_) (fun hc5 => ?_)
 ·have H := ite_t hc5 H
  refine wp_seq_k fun K6 hK6 => ?_
  refine wp_region_lit ?_
  refine seg ha 1 [(2, .int .i64 (0 : Int))] (by kernel_rfl) fun a ha => ?_
  refine hK6 _ _ ?_; try clear hK6 K6
  refine wp_ret ?_
  try simp only [Exit.then, Exit.inBlock]
  obtain rfl := Option.some.inj H
  refine rt1 ha rfl rfl ?_
  exact ⟨rfl, hC, hM⟩
 ·have H := ite_f hc5 H
  refine wp_skip ?_
  refine hK3 _ _ ?_; try clear hK3 K3
  refine wp_seq_k fun K7 hK7 => ?_
  refine drq0 (fun w' => Chg [] w w') (by kernel_rfl) (by kernel_rfl) (fun _ h => h) ?_
  refine qp 0 (.pointer (some ⟨gp0, 0, none⟩)) ha rfl rfl rfl (by kernel_rfl) fun a ha => ?_
  refine qp 0 (.pointer (some ⟨gp0, 0, none⟩)) ha rfl rfl rfl (by kernel_rfl) fun a ha => ?_
  refine qp 0 (.pointer (some ⟨gp0, 0, none⟩)) ha rfl rfl rfl (by kernel_rfl) fun a ha => ?_
  refine qv (v := .slice ao1 a0.B.length cap1) ha rfl rfl rfl (fun w' hs => ld_run ha rfl (by kernel_rfl) ((Box.chg hBgp0 hs (fun h => nomatch h)).cell' (o := 0) rfl (by kernel_rfl))) fun a ha => ?_
  refine qp 0 (.int .i64 (a0.B.length : Int)) ha rfl rfl rfl (by kernel_rfl) fun a ha => ?_
  refine qp 0 (.pointer (some ⟨gp0, 0, none⟩)) ha rfl rfl rfl (by kernel_rfl) fun a ha => ?_
  refine qp 0 (.pointer (some ⟨gp0, 0, none⟩)) ha rfl rfl rfl (by kernel_rfl) fun a ha => ?_
  refine qp 0 (.pointer (some ⟨gp0, 1, none⟩)) ha rfl rfl rfl (by kernel_rfl) fun a ha => ?_
  refine qv (v := .int .i64 a0.At) ha rfl rfl rfl (fun w' hs => ld_run ha rfl (by kernel_rfl) ((Box.chg hBgp0 hs (fun h => nomatch h)).cell' (o := 1) rfl (by kernel_rfl))) fun a ha => ?_
  refine qp 0 (.int .i64 (IntKind.i64.wrap ((a0.B.length : Int) - a0.At))) ha rfl rfl rfl (by kernel_rfl) fun a ha => ?_
  refine qp 0 (.int .i64 (IntKind.i64.wrap ((a0.B.length : Int) - a0.At))) ha rfl rfl rfl (by kernel_rfl) fun a ha => ?_
  refine wpQuiet_nil ?_
  intro w8 hc9
  have o1 : Ok [] (M) w.heap.size := Ok.nil _ _
  have o2 : Ok (M) (M) w.heap.size := (Ok.refl _ _)
  have f1 := f1.chg hc9 o1 o2
  have hBgp0 := hBgp0.chg hc9 (fun h => nomatch h)
  have hM : MS (M) w8 := (hM.chg hc9)
  have hC := hC.trans hc9 (Ok.nil _ _)
  refine wpl_end ?_
  refine hK7 _ _ ?_; try clear hK7 K7
  refine wp_ret ?_
  try simp only [Exit.then, Exit.inBlock]
  obtain rfl := Option.some.inj H
  refine rt1 ha rfl rfl ?_
  exact ⟨rfl, hC, hM⟩
def vineryref01_Reader_Rest.f (a0 : S_vineryref01_Reader) : Option (List Int × S_vineryref01_Reader) := (vineryref01_Reader_Left.f a0).bind fun t4 => (vineryref01_Reader_Take.f a0 t4).bind fun t5 => some ((t5.1 : List Int), (t5.2 : S_vineryref01_Reader))
set_option maxRecDepth 100000 in
theorem vineryref01_Reader_Rest.walk (w : World) (M : List Nat) (hM : MS M w) (gp0 : Nat) (a0 : S_vineryref01_Reader) (ao1 : Option Addr) (cap1 : Nat) (f1 : RSl (rInt .u8) 5 w M ao1 cap1 a0.B) (hBgp0 : Box w gp0 (cS_vineryref01_Reader a0 ao1 cap1)) (hg_gp0 : gp0 ∈ M) (r : List Int × S_vineryref01_Reader) (H : vineryref01_Reader_Rest.f a0 = some r) :
    To Tryd.prog 89 [.pointer (some ⟨gp0, 0, none⟩)] w fun v w' => ∃ (ao8 : Option Addr) (cap8 : Nat) (ao9 : Option Addr) (cap9 : Nat), v = .slice ao8 r.1.length cap8 ∧ (Own (rInt .u8) 5 w' (blkL ao8 ++ (M)) ao8 cap8 r.1) ∧ (RSl (rInt .u8) 5 w' (blkL ao8 ++ (M)) ao9 cap9 r.2.B) ∧ (Box w' gp0 (cS_vineryref01_Reader r.2 ao9 cap9)) ∧ (∀ x ∈ blkL ao8, w.heap.size ≤ x) ∧ Chg [gp0] w w' ∧ MS (blkL ao8 ++ (M)) w' := by
 unfold vineryref01_Reader_Rest.f at H
 refine ent Tryd.func89 rfl [(0, .pointer (some ⟨gp0, 0, none⟩))] rfl (by rfl) fun a ha => ?_
 have hC : Chg [gp0] w w := Chg.refl _ _
 refine wp_seq_k fun K2 hK2 => ?_
 refine wp_region_lit ?_
 refine seg ha 1 [(0, .pointer (some ⟨gp0, 0, none⟩))] (by kernel_rfl) fun a ha => ?_
 refine hK2 _ _ ?_; try clear hK2 K2
 refine wp_seq_k fun K3 hK3 => ?_
 refine wp_region_lit ?_
 refine seg ha 2 [(3, .pointer (some ⟨gp0, 0, none⟩)), (4, .pointer (some ⟨gp0, 0, none⟩))] (by kernel_rfl) fun a ha => ?_
 obtain ⟨t4, H4, H⟩ := bind_some H
 refine cl ha (by rfl) (by kernel_rfl) (by rfl) (by rfl) (by rfl) (vineryref01_Reader_Left.walk w _ hM gp0 a0 ao1 cap1 f1 hBgp0 (hg_gp0) _ H4) ?_
 rintro _ w4 ⟨rfl, hc4, hMn⟩ a ha
 have o1 : Ok [] (M) w.heap.size := Ok.nil _ _
 have o2 : Ok (M) (M) w.heap.size := (Ok.refl _ _)
 have f1 := f1.chg hc4 o1 o2
 have hBgp0 := hBgp0.chg hc4 (fun h => nomatch h)
 have hM : MS (M) w4 := (hM.chg hc4)
 have hC := hC.trans hc4 (Ok.nil _ _)
 obtain ⟨t5, H5, H⟩ := bind_some H
 refine cl ha (by rfl) (by kernel_rfl) (by rfl) (by rfl) (by rfl) (vineryref01_Reader_Take.walk w4 _ hM gp0 a0 ao1 cap1 f1 hBgp0 (hg_gp0) t4 _ H5) ?_
 rintro _ w5 ⟨ao6, cap6, ao7, cap7, rfl, f6, f7, qhBgp0, ne_i6, hc5, hMn⟩ a ha
 have o1 : Ok [gp0] (M) w4.heap.size := Ok.one (.inl (hg_gp0))
 have o2 : Ok (blkL ao6 ++ (M)) (M) w4.heap.size := (Ok.app (fun x h => .inr (ne_i6 x h)) (Ok.refl _ _))
 have f1 := f1.chg hc5 o1 o2
 have p_i6_M : ∀ x ∈ blkL ao6, x ∉ M := fun x hx hy => absurd (hM x (hy)) (Nat.not_lt.2 (ne_i6 x hx))
 have e_i6 : ∀ x ∈ blkL ao6, w.heap.size ≤ x := fun x hx => Nat.le_trans hC.size (ne_i6 x hx)
 have hM : MS (blkL ao6 ++ (M)) w5 := (MS.app (fun x h => hMn x (ml h)) (hM.chg hc5))
 have hC := hC.trans hc5 (Ok.one (.inl (by simp)))
 have hBgp0 := qhBgp0
 refine seg ha 1 [(2, .slice ao6 t5.1.length cap6)] (by kernel_rfl) fun a ha => ?_
 refine hK3 _ _ ?_; try clear hK3 K3
 refine wp_ret ?_
 try simp only [Exit.then, Exit.inBlock]
 obtain rfl := Option.some.inj H
 refine rt1 ha rfl rfl ?_
 exact ⟨ao6, cap6, ao7, cap7, rfl, f6, f7, hBgp0, e_i6, hC, hM⟩
end Go.E
