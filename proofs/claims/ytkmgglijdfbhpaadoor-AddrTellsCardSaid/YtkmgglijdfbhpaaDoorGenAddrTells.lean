/- What the functions that the law reaches compute, and the walks that show it. -/
import Derived.Test.YtkmgglijdfbhpaaDoorEngU
import Derived.Test.YtkmgglijdfbhpaaDoorShelf
import Derived.Test.YtkmgglijdfbhpaaDoorProg
import Derived.Test.YtkmgglijdfbhpaaDoorGenAddrTellsP1
set_option linter.unusedVariables false
set_option linter.unusedSimpArgs false
namespace Go.E
open Go.RowKit Go.Proofs
def vineryref02_Multicast.f (k : Nat) (a0 : S_api_Addr) : Option (Bool) := (vineryref02_Right.f k a0).bind fun t8 => ((if t8 = true then (if (a0.Size == (4 : Int)) = true then (if (decide ((ar a0.B 0) ≥ (224 : Int))) = true then (if (decide ((ar a0.B 0) < (240 : Int))) = true then some (true : Bool) else (if (a0.Size == (16 : Int)) = true then some ((ar a0.B 0) == (255 : Int) : Bool) else some (false : Bool))) else (if (a0.Size == (16 : Int)) = true then some ((ar a0.B 0) == (255 : Int) : Bool) else some (false : Bool))) else (if (a0.Size == (16 : Int)) = true then some ((ar a0.B 0) == (255 : Int) : Bool) else some (false : Bool))) else some (false : Bool))).bind fun s10 => some ((s10 : Bool))
set_option maxRecDepth 100000 in
theorem vineryref02_Multicast.walk (w : World) (M : List Nat) (hM : MS M w) (a0 : S_api_Addr) (k : Nat) (r : Bool) (H : vineryref02_Multicast.f k a0 = some r) :
    To Tryd.prog 36 [.agg (cS_api_Addr a0).toArray] w fun v w' => v = .bool r ∧ Chg [] w w' ∧ MS (M) w' := by
 unfold vineryref02_Multicast.f at H
 refine ent Tryd.func36 rfl [(0, .agg (cS_api_Addr a0).toArray)] rfl (by rfl) fun a ha => ?_
 have hC : Chg [] w w := Chg.refl _ _
 refine wp_seq_k fun K1 hK1 => ?_
 refine wp_region_lit ?_
 refine bx (cs := (cS_api_Addr a0)) ha rfl rfl rfl rfl rfl fun a w2 g3 hN4 ha => ?_
 have hn6 := hN4.notin hM
 have hM : MS (M) w2 := (hM.chg hN4.chg)
 have hC := hC.trans hN4.chg (Ok.nil _ _)
 have hE5 : ∀ j v, (cS_api_Addr a0)[j]? = some v → w2.cell? ⟨g3, 0 + j, none⟩ = some v := Box.cells (New.box hN4)
 refine seg ha 1 [(1, .pointer (some ⟨g3, 0, none⟩))] (by kernel_rfl) fun a ha => ?_
 refine hK1 _ _ ?_; try clear hK1 K1
 refine wp_seq_k fun K7 hK7 => ?_
 refine wp_region_lit ?_
 refine ldA (cs := (cS_api_Addr a0)) ha rfl (by kernel_rfl) rfl rfl rfl (cells_sub hE5 (all := (cS_api_Addr a0)) [] [] (by kernel_rfl)) fun a ha => ?_
 obtain ⟨t8, H8, H⟩ := bind_some H
 refine cl ha (by rfl) (by kernel_rfl) (by rfl) (by rfl) (by rfl) (vineryref02_Right.walk w2 _ hM a0 k _ H8) ?_
 rintro _ w8 ⟨rfl, hc8, hMn⟩ a ha
 have o1 : Ok [] (M) w2.heap.size := Ok.nil _ _
 have o2 : Ok (M) (M) w2.heap.size := (Ok.refl _ _)
 have q_hn6 : g3 ∉ M := fun h => (o2 g3 h).elim hn6 (fun h => absurd (lt_cell (hE5 0 _ rfl)) (Nat.not_lt.2 h))
 have hE5 : ∀ j v, (cS_api_Addr a0)[j]? = some v → w8.cell? ⟨g3, 0 + j, none⟩ = some v := fun j v hv => (cell_keep hc8 o1 hn6 (hE5 j v hv))
 have hn6 := q_hn6
 have hM : MS (M) w8 := (hM.chg hc8)
 have hC := hC.trans hc8 (Ok.nil _ _)
 refine seg ha 1 [(1, .pointer (some ⟨g3, 0, none⟩)), (3, .bool t8)] (by kernel_rfl) fun a ha => ?_
 refine hK7 _ _ ?_; try clear hK7 K7
 refine wp_seq_k fun K9 hK9 => ?_
 refine wp_region_lit ?_
 obtain ⟨s10, H10, H⟩ := bind_some H
 have J10 : ∀ (a : Act) (w10 : World), Has a Tryd.f36.ntmps [(2, .bool s10)] → (Chg [] w w10) → (MS (M) w10) → K9 a w10 := by
  intro a w10 ha hC hM
  refine hK9 _ _ ?_; try clear hK9 K9
  refine wp_ret ?_
  try simp only [Exit.then, Exit.inBlock]
  obtain rfl := Option.some.inj H
  refine rt1 ha rfl rfl ?_
  exact ⟨rfl, hC, hM⟩
 have H := H10
 refine seg ha 2 [(7, .bool t8), (1, .pointer (some ⟨g3, 0, none⟩))] (by kernel_rfl) fun a ha => ?_
 rcases Bool.eq_false_or_eq_true (t8) with hb11 | hb11
 ·have ha := ha.lit hb11
  have H := ite_t hb11 H
  refine sgh ha 1 [2] [(1, .pointer (some ⟨g3, 0, none⟩)), (7, .bool true), (8, .pointer (some ⟨g3, 0, none⟩))] (by kernel_rfl) fun a ha => ?_
  refine ld ha rfl (by kernel_rfl) rfl rfl rfl (hE5 0 (.int .i64 a0.Size) (by kernel_rfl)) fun a ha => ?_
  refine sgh ha 2 [2, 2] [(11, .bool (a0.Size == (4 : Int))), (1, .pointer (some ⟨g3, 0, none⟩)), (7, .bool true)] (by kernel_rfl) fun a ha => ?_
  rcases Bool.eq_false_or_eq_true (a0.Size == (4 : Int)) with hb12 | hb12
  ·have ha := ha.lit hb12
   have H := ite_t hb12 H
   refine sgh ha 1 [2] [(1, .pointer (some ⟨g3, 0, none⟩)), (7, .bool true), (11, .bool true), (12, .pointer (some ⟨g3, 0 + 1, none⟩))] (by kernel_rfl) fun a ha => ?_
   have hE13 : ∀ j v, ([.int .u8 (ar a0.B 0)] : List Value)[j]? = some v → w8.cell? ⟨g3, (0 + 1 + 0) + j, none⟩ = some v := cellA (m := 16) [.int .i64 a0.Size] [] hE5 (by kernel_rfl) (by decide)
   have hn13 := hn6
   refine hop (v := .pointer (some ⟨g3, (0 + 1 + 0), none⟩)) (w' := w8) ha rfl rfl rfl (ixA_run (T := 5) (N := 16) (g := g3) (o' := 0 + 1) (k := .i64) (i := (0 : Int)) ha (by kernel_rfl) (by kernel_rfl) (by rfl) (by rfl) (by decide) (by decide) _) fun a ha => ?_
   refine ld ha rfl (by kernel_rfl) rfl rfl rfl (hE13 0 (.int .u8 (ar a0.B 0)) (by kernel_rfl)) fun a ha => ?_
   refine sgh ha 3 [2, 5, 2] [(17, .bool (decide ((ar a0.B 0) ≥ (224 : Int)))), (1, .pointer (some ⟨g3, 0, none⟩)), (7, .bool true)] (by kernel_rfl) fun a ha => ?_
   rcases Bool.eq_false_or_eq_true (decide ((ar a0.B 0) ≥ (224 : Int))) with hb14 | hb14
   ·have ha := ha.lit hb14
    have H := ite_t hb14 H
    refine sgh ha 1 [2] [(1, .pointer (some ⟨g3, 0, none⟩)), (7, .bool true), (17, .bool true), (18, .pointer (some ⟨g3, 0 + 1, none⟩))] (by kernel_rfl) fun a ha => ?_
    have hE15 : ∀ j v, ([.int .u8 (ar a0.B 0)] : List Value)[j]? = some v → w8.cell? ⟨g3, (0 + 1 + 0) + j, none⟩ = some v := cellA (m := 16) [.int .i64 a0.Size] [] hE5 (by kernel_rfl) (by decide)
    have hn15 := hn6
    refine hop (v := .pointer (some ⟨g3, (0 + 1 + 0), none⟩)) (w' := w8) ha rfl rfl rfl (ixA_run (T := 5) (N := 16) (g := g3) (o' := 0 + 1) (k := .i64) (i := (0 : Int)) ha (by kernel_rfl) (by kernel_rfl) (by rfl) (by rfl) (by decide) (by decide) _) fun a ha => ?_
    refine ld ha rfl (by kernel_rfl) rfl rfl rfl (hE15 0 (.int .u8 (ar a0.B 0)) (by kernel_rfl)) fun a ha => ?_
    refine sgh ha 3 [2, 5, 2] [(23, .bool (decide ((ar a0.B 0) < (240 : Int)))), (1, .pointer (some ⟨g3, 0, none⟩)), (7, .bool true)] (by kernel_rfl) fun a ha => ?_
    rcases Bool.eq_false_or_eq_true (decide ((ar a0.B 0) < (240 : Int))) with hb16 | hb16
    ·have ha := ha.lit hb16
     have H := ite_t hb16 H
     refine sgh ha 12 [1, 1, 1, 1, 1, 1, 1, 1, 1, 5, 3, 0] [(2, .bool true)] (by kernel_rfl) fun a ha => ?_
     obtain rfl := Option.some.inj H
     exact J10 _ _ (ha.sel (by kernel_rfl)) hC hM
    ·have ha := ha.lit hb16
     have H := ite_f hb16 H
     refine sgh ha 1 [2] [(1, .pointer (some ⟨g3, 0, none⟩)), (7, .bool true), (23, .bool false), (24, .pointer (some ⟨g3, 0, none⟩))] (by kernel_rfl) fun a ha => ?_
     refine ld ha rfl (by kernel_rfl) rfl rfl rfl (hE5 0 (.int .i64 a0.Size) (by kernel_rfl)) fun a ha => ?_
     refine sgh ha 2 [2, 2] [(27, .bool (a0.Size == (16 : Int))), (1, .pointer (some ⟨g3, 0, none⟩)), (7, .bool true), (23, .bool false)] (by kernel_rfl) fun a ha => ?_
     rcases Bool.eq_false_or_eq_true (a0.Size == (16 : Int)) with hb17 | hb17
     ·have ha := ha.lit hb17
      have H := ite_t hb17 H
      refine sgh ha 1 [2] [(7, .bool true), (23, .bool false), (27, .bool true), (28, .pointer (some ⟨g3, 0 + 1, none⟩))] (by kernel_rfl) fun a ha => ?_
      have hE18 : ∀ j v, ([.int .u8 (ar a0.B 0)] : List Value)[j]? = some v → w8.cell? ⟨g3, (0 + 1 + 0) + j, none⟩ = some v := cellA (m := 16) [.int .i64 a0.Size] [] hE5 (by kernel_rfl) (by decide)
      have hn18 := hn6
      refine hop (v := .pointer (some ⟨g3, (0 + 1 + 0), none⟩)) (w' := w8) ha rfl rfl rfl (ixA_run (T := 5) (N := 16) (g := g3) (o' := 0 + 1) (k := .i64) (i := (0 : Int)) ha (by kernel_rfl) (by kernel_rfl) (by rfl) (by rfl) (by decide) (by decide) _) fun a ha => ?_
      refine ld ha rfl (by kernel_rfl) rfl rfl rfl (hE18 0 (.int .u8 (ar a0.B 0)) (by kernel_rfl)) fun a ha => ?_
      refine sgh ha 5 [2, 5, 6, 3, 0] [(2, .bool ((ar a0.B 0) == (255 : Int)))] (by kernel_rfl) fun a ha => ?_
      obtain rfl := Option.some.inj H
      exact J10 _ _ (ha.sel (by kernel_rfl)) hC hM
     ·have ha := ha.lit hb17
      have H := ite_f hb17 H
      refine sgh ha 8 [1, 1, 1, 1, 6, 6, 3, 0] [(2, .bool false)] (by kernel_rfl) fun a ha => ?_
      obtain rfl := Option.some.inj H
      exact J10 _ _ (ha.sel (by kernel_rfl)) hC hM
   ·have ha := ha.lit hb14
    have H := ite_f hb14 H
    refine sgh ha 7 [1, 1, 1, 1, 6, 2, 2] [(1, .pointer (some ⟨g3, 0, none⟩)), (7, .bool true), (23, .bool false), (24, .pointer (some ⟨g3, 0, none⟩))] (by kernel_rfl) fun a ha => ?_
    refine ld ha rfl (by kernel_rfl) rfl rfl rfl (hE5 0 (.int .i64 a0.Size) (by kernel_rfl)) fun a ha => ?_
    refine sgh ha 2 [2, 2] [(27, .bool (a0.Size == (16 : Int))), (1, .pointer (some ⟨g3, 0, none⟩)), (7, .bool true), (23, .bool false)] (by kernel_rfl) fun a ha => ?_
    rcases Bool.eq_false_or_eq_true (a0.Size == (16 : Int)) with hb19 | hb19
    ·have ha := ha.lit hb19
     have H := ite_t hb19 H
     refine sgh ha 1 [2] [(7, .bool true), (23, .bool false), (27, .bool true), (28, .pointer (some ⟨g3, 0 + 1, none⟩))] (by kernel_rfl) fun a ha => ?_
     have hE20 : ∀ j v, ([.int .u8 (ar a0.B 0)] : List Value)[j]? = some v → w8.cell? ⟨g3, (0 + 1 + 0) + j, none⟩ = some v := cellA (m := 16) [.int .i64 a0.Size] [] hE5 (by kernel_rfl) (by decide)
     have hn20 := hn6
     refine hop (v := .pointer (some ⟨g3, (0 + 1 + 0), none⟩)) (w' := w8) ha rfl rfl rfl (ixA_run (T := 5) (N := 16) (g := g3) (o' := 0 + 1) (k := .i64) (i := (0 : Int)) ha (by kernel_rfl) (by kernel_rfl) (by rfl) (by rfl) (by decide) (by decide) _) fun a ha => ?_
     refine ld ha rfl (by kernel_rfl) rfl rfl rfl (hE20 0 (.int .u8 (ar a0.B 0)) (by kernel_rfl)) fun a ha => ?_
     refine sgh ha 5 [2, 5, 6, 3, 0] [(2, .bool ((ar a0.B 0) == (255 : Int)))] (by kernel_rfl) fun a ha => ?_
     obtain rfl := Option.some.inj H
     exact J10 _ _ (ha.sel (by kernel_rfl)) hC hM
    ·have ha := ha.lit hb19
     have H := ite_f hb19 H
     refine sgh ha 8 [1, 1, 1, 1, 6, 6, 3, 0] [(2, .bool false)] (by kernel_rfl) fun a ha => ?_
     obtain rfl := Option.some.inj H
     exact J10 _ _ (ha.sel (by kernel_rfl)) hC hM
  ·have ha := ha.lit hb12
   have H := ite_f hb12 H
   refine sgh ha 13 [1, 1, 1, 1, 6, 2, 1, 1, 1, 1, 6, 2, 2] [(1, .pointer (some ⟨g3, 0, none⟩)), (7, .bool true), (23, .bool false), (24, .pointer (some ⟨g3, 0, none⟩))] (by kernel_rfl) fun a ha => ?_
   refine ld ha rfl (by kernel_rfl) rfl rfl rfl (hE5 0 (.int .i64 a0.Size) (by kernel_rfl)) fun a ha => ?_
   refine sgh ha 2 [2, 2] [(27, .bool (a0.Size == (16 : Int))), (1, .pointer (some ⟨g3, 0, none⟩)), (7, .bool true), (23, .bool false)] (by kernel_rfl) fun a ha => ?_
   rcases Bool.eq_false_or_eq_true (a0.Size == (16 : Int)) with hb21 | hb21
   ·have ha := ha.lit hb21
    have H := ite_t hb21 H
    refine sgh ha 1 [2] [(7, .bool true), (23, .bool false), (27, .bool true), (28, .pointer (some ⟨g3, 0 + 1, none⟩))] (by kernel_rfl) fun a ha => ?_
    have hE22 : ∀ j v, ([.int .u8 (ar a0.B 0)] : List Value)[j]? = some v → w8.cell? ⟨g3, (0 + 1 + 0) + j, none⟩ = some v := cellA (m := 16) [.int .i64 a0.Size] [] hE5 (by kernel_rfl) (by decide)
    have hn22 := hn6
    refine hop (v := .pointer (some ⟨g3, (0 + 1 + 0), none⟩)) (w' := w8) ha rfl rfl rfl (ixA_run (T := 5) (N := 16) (g := g3) (o' := 0 + 1) (k := .i64) (i := (0 : Int)) ha (by kernel_rfl) (by kernel_rfl) (by rfl) (by rfl) (by decide) (by decide) _) fun a ha => ?_
    refine ld ha rfl (by kernel_rfl) rfl rfl rfl (hE22 0 (.int .u8 (ar a0.B 0)) (by kernel_rfl)) fun a ha => ?_
    refine sgh ha 5 [2, 5, 6, 3, 0] [(2, .bool ((ar a0.B 0) == (255 : Int)))] (by kernel_rfl) fun a ha => ?_
    obtain rfl := Option.some.inj H
    exact J10 _ _ (ha.sel (by kernel_rfl)) hC hM
   ·have ha := ha.lit hb21
    have H := ite_f hb21 H
    refine sgh ha 8 [1, 1, 1, 1, 6, 6, 3, 0] [(2, .bool false)] (by kernel_rfl) fun a ha => ?_
    obtain rfl := Option.some.inj H
    exact J10 _ _ (ha.sel (by kernel_rfl)) hC hM
 ·have ha := ha.lit hb11
  have H := ite_f hb11 H
  refine sgh ha 28 [1, 1, 1, 1, 1, 1, 1, 1, 1, 1, 1, 1, 1, 1, 1, 1, 1, 1, 1, 1, 1, 1, 1, 1, 1, 1, 4, 0] [(2, .bool false)] (by kernel_rfl) fun a ha => ?_
  obtain rfl := Option.some.inj H
  exact J10 _ _ (ha.sel (by kernel_rfl)) hC hM
def vinerylaw02_AddrTells.f (k : Nat) (a0 : S_api_Addr) (a1 : S_api_Addr) (a2 : S_api_Prefix) : Option (Bool) := (vinerylaw02_small.f k ).bind fun t18 => ((if t18 = true then (addr_Compare.f k a0 a1).bind fun t22 => (vineryref02_Compare.f k a0 a1).bind fun t23 => (if (t22 == t23) = true then (addr_Has.f k a2 a0).bind fun t25 => (vineryref02_Has.f k a2 a0).bind fun t26 => (if (t25 == t26) = true then (addr_Multicast.f k a0).bind fun t28 => (vineryref02_Multicast.f k a0).bind fun t29 => some (t28 == t29 : Bool) else some (false : Bool)) else some (false : Bool)) else some (false : Bool))).bind fun s20 => some ((s20 : Bool))
set_option maxRecDepth 100000 in
theorem vinerylaw02_AddrTells.walk (w : World) (M : List Nat) (hM : MS M w) (hG : GF w M) (a0 : S_api_Addr) (a1 : S_api_Addr) (a2 : S_api_Prefix) (k : Nat) (r : Bool) (H : vinerylaw02_AddrTells.f k a0 a1 a2 = some r) :
    To Tryd.prog 10 [.agg (cS_api_Addr a0).toArray, .agg (cS_api_Addr a1).toArray, .agg (cS_api_Prefix a2).toArray] w fun v w' => v = .bool r ∧ Chg [] w w' ∧ MS (M) w' := by
 unfold vinerylaw02_AddrTells.f at H
 refine ent Tryd.func10 rfl [(0, .agg (cS_api_Addr a0).toArray), (1, .agg (cS_api_Addr a1).toArray), (2, .agg (cS_api_Prefix a2).toArray)] rfl (by rfl) fun a ha => ?_
 have hC : Chg [] w w := Chg.refl _ _
 refine wp_seq_k fun K1 hK1 => ?_
 refine wp_region_lit ?_
 refine bx (cs := (cS_api_Addr a0)) ha rfl rfl rfl rfl rfl fun a w2 g3 hN4 ha => ?_
 have hn6 := hN4.notin hM
 have o1 : Ok [] (M) w.heap.size := Ok.nil _ _
 have o2 : Ok (M) (M) w.heap.size := (Ok.refl _ _)
 have hG := hG.chg hN4.chg o1 o2
 have hM : MS (M) w2 := (hM.chg hN4.chg)
 have hC := hC.trans hN4.chg (Ok.nil _ _)
 have hE5 : ∀ j v, (cS_api_Addr a0)[j]? = some v → w2.cell? ⟨g3, 0 + j, none⟩ = some v := Box.cells (New.box hN4)
 refine bx (cs := (cS_api_Addr a1)) ha rfl rfl rfl rfl rfl fun a w7 g8 hN9 ha => ?_
 have hn11 := hN9.notin hM
 have o1 : Ok [] (M) w2.heap.size := Ok.nil _ _
 have o2 : Ok (M) (M) w2.heap.size := (Ok.refl _ _)
 have hG := hG.chg hN9.chg o1 o2
 have q_hn6 : g3 ∉ M := fun h => (o2 g3 h).elim hn6 (fun h => absurd (lt_cell (hE5 0 _ rfl)) (Nat.not_lt.2 h))
 have hE5 : ∀ j v, (cS_api_Addr a0)[j]? = some v → w7.cell? ⟨g3, 0 + j, none⟩ = some v := fun j v hv => (cell_keep hN9.chg o1 hn6 (hE5 j v hv))
 have hn6 := q_hn6
 have hM : MS (M) w7 := (hM.chg hN9.chg)
 have hC := hC.trans hN9.chg (Ok.nil _ _)
 have hE10 : ∀ j v, (cS_api_Addr a1)[j]? = some v → w7.cell? ⟨g8, 0 + j, none⟩ = some v := Box.cells (New.box hN9)
 refine bx (cs := (cS_api_Prefix a2)) ha rfl rfl rfl rfl rfl fun a w12 g13 hN14 ha => ?_
 have hn16 := hN14.notin hM
 have o1 : Ok [] (M) w7.heap.size := Ok.nil _ _
 have o2 : Ok (M) (M) w7.heap.size := (Ok.refl _ _)
 have hG := hG.chg hN14.chg o1 o2
 have q_hn6 : g3 ∉ M := fun h => (o2 g3 h).elim hn6 (fun h => absurd (lt_cell (hE5 0 _ rfl)) (Nat.not_lt.2 h))
 have hE5 : ∀ j v, (cS_api_Addr a0)[j]? = some v → w12.cell? ⟨g3, 0 + j, none⟩ = some v := fun j v hv => (cell_keep hN14.chg o1 hn6 (hE5 j v hv))
 have hn6 := q_hn6
 have q_hn11 : g8 ∉ M := fun h => (o2 g8 h).elim hn11 (fun h => absurd (lt_cell (hE10 0 _ rfl)) (Nat.not_lt.2 h))
 have hE10 : ∀ j v, (cS_api_Addr a1)[j]? = some v → w12.cell? ⟨g8, 0 + j, none⟩ = some v := fun j v hv => (cell_keep hN14.chg o1 hn11 (hE10 j v hv))
 have hn11 := q_hn11
 have hM : MS (M) w12 := (hM.chg hN14.chg)
 have hC := hC.trans hN14.chg (Ok.nil _ _)
 have hE15 : ∀ j v, (cS_api_Prefix a2)[j]? = some v → w12.cell? ⟨g13, 0 + j, none⟩ = some v := Box.cells (New.box hN14)
 refine seg ha 1 [(3, .pointer (some ⟨g3, 0, none⟩)), (4, .pointer (some ⟨g8, 0, none⟩)), (5, .pointer (some ⟨g13, 0, none⟩))] (by kernel_rfl) fun a ha => ?_
 refine hK1 _ _ ?_; try clear hK1 K1
 refine wp_seq_k fun K17 hK17 => ?_
 refine wp_region_lit ?_
 obtain ⟨t18, H18, H⟩ := bind_some H
 refine cl ha (by rfl) (by kernel_rfl) (by rfl) (by rfl) (by rfl) (vinerylaw02_small.walk w12 _ hM hG  k _ H18) ?_
 rintro _ w18 ⟨rfl, hc18, hMn⟩ a ha
 have o1 : Ok [] (M) w12.heap.size := Ok.nil _ _
 have o2 : Ok (M) (M) w12.heap.size := (Ok.refl _ _)
 have hG := hG.chg hc18 o1 o2
 have q_hn6 : g3 ∉ M := fun h => (o2 g3 h).elim hn6 (fun h => absurd (lt_cell (hE5 0 _ rfl)) (Nat.not_lt.2 h))
 have hE5 : ∀ j v, (cS_api_Addr a0)[j]? = some v → w18.cell? ⟨g3, 0 + j, none⟩ = some v := fun j v hv => (cell_keep hc18 o1 hn6 (hE5 j v hv))
 have hn6 := q_hn6
 have q_hn11 : g8 ∉ M := fun h => (o2 g8 h).elim hn11 (fun h => absurd (lt_cell (hE10 0 _ rfl)) (Nat.not_lt.2 h))
 have hE10 : ∀ j v, (cS_api_Addr a1)[j]? = some v → w18.cell? ⟨g8, 0 + j, none⟩ = some v := fun j v hv => (cell_keep hc18 o1 hn11 (hE10 j v hv))
 have hn11 := q_hn11
 have q_hn16 : g13 ∉ M := fun h => (o2 g13 h).elim hn16 (fun h => absurd (lt_cell (hE15 0 _ rfl)) (Nat.not_lt.2 h))
 have hE15 : ∀ j v, (cS_api_Prefix a2)[j]? = some v → w18.cell? ⟨g13, 0 + j, none⟩ = some v := fun j v hv => (cell_keep hc18 o1 hn16 (hE15 j v hv))
 have hn16 := q_hn16
 have hM : MS (M) w18 := (hM.chg hc18)
 have hC := hC.trans hc18 (Ok.nil _ _)
 refine seg ha 1 [(3, .pointer (some ⟨g3, 0, none⟩)), (4, .pointer (some ⟨g8, 0, none⟩)), (5, .pointer (some ⟨g13, 0, none⟩)), (7, .bool t18)] (by kernel_rfl) fun a ha => ?_
 refine hK17 _ _ ?_; try clear hK17 K17
 refine wp_seq_k fun K19 hK19 => ?_
 refine drq0 (fun w' => Chg [] w18 w') (by kernel_rfl) (by kernel_rfl) (fun _ h => h) ?_
 obtain ⟨s20, H20, H⟩ := bind_some H
 have J20 : ∀ (a : Act) (w20 : World), Has a Tryd.f10.ntmps [(6, .bool s20)] → (GF w20 (M)) → (Chg [] w w20) → (MS (M) w20) → K19 a w20 := by
  intro a w20 ha hG hC hM
  refine hK19 _ _ ?_; try clear hK19 K19
  refine wp_ret ?_
  try simp only [Exit.then, Exit.inBlock]
  obtain rfl := Option.some.inj H
  refine rt1 ha rfl rfl ?_
  exact ⟨rfl, hC, hM⟩
 have H := H20
 refine qp 0 (.bool t18) ha rfl rfl rfl (by kernel_rfl) fun a ha => ?_
 refine qp 0 (.bool t18) ha rfl rfl rfl (by kernel_rfl) fun a ha => ?_
 have ha := ha.sel (env' := [(10, .bool t18), (3, .pointer (some ⟨g3, 0, none⟩)), (4, .pointer (some ⟨g8, 0, none⟩)), (5, .pointer (some ⟨g13, 0, none⟩))]) (by kernel_rfl)
 rcases Bool.eq_false_or_eq_true (t18) with hb21 | hb21
 ·have ha := ha.lit hb21
  have H := ite_t hb21 H
  refine qv (v := .agg (cS_api_Addr a0).toArray) ha rfl rfl rfl (fun w' hs => ldA_run (cs := (cS_api_Addr a0)) ha rfl (by kernel_rfl) (cells_sub (fun j v hv => hs.keep (hE5 j v hv)) (all := (cS_api_Addr a0)) [] [] (by kernel_rfl))) fun a ha => ?_
  refine qv (v := .agg (cS_api_Addr a1).toArray) ha rfl rfl rfl (fun w' hs => ldA_run (cs := (cS_api_Addr a1)) ha rfl (by kernel_rfl) (cells_sub (fun j v hv => hs.keep (hE10 j v hv)) (all := (cS_api_Addr a1)) [] [] (by kernel_rfl))) fun a ha => ?_
  obtain ⟨t22, H22, H⟩ := bind_some H
  refine qc (.int .i64 t22) ha (by rfl) (by kernel_rfl) (by rfl) (by rfl) (by rfl) (fun w' hs => (addr_Compare.walk w' [] (MS.nil _) a0 a1 k _ H22).mono fun v w'' ⟨hv, hc, _⟩ => ⟨hv, hs.trans hc (Ok.nil _ _)⟩) fun a ha => ?_
  refine qv (v := .agg (cS_api_Addr a0).toArray) ha rfl rfl rfl (fun w' hs => ldA_run (cs := (cS_api_Addr a0)) ha rfl (by kernel_rfl) (cells_sub (fun j v hv => hs.keep (hE5 j v hv)) (all := (cS_api_Addr a0)) [] [] (by kernel_rfl))) fun a ha => ?_
  refine qv (v := .agg (cS_api_Addr a1).toArray) ha rfl rfl rfl (fun w' hs => ldA_run (cs := (cS_api_Addr a1)) ha rfl (by kernel_rfl) (cells_sub (fun j v hv => hs.keep (hE10 j v hv)) (all := (cS_api_Addr a1)) [] [] (by kernel_rfl))) fun a ha => ?_
  obtain ⟨t23, H23, H⟩ := bind_some H
  refine qc (.int .i64 t23) ha (by rfl) (by kernel_rfl) (by rfl) (by rfl) (by rfl) (fun w' hs => (vineryref02_Compare.walk w' [] (MS.nil _) a0 a1 k _ H23).mono fun v w'' ⟨hv, hc, _⟩ => ⟨hv, hs.trans hc (Ok.nil _ _)⟩) fun a ha => ?_
  refine qp 0 (.bool (t22 == t23)) ha rfl rfl rfl (by kernel_rfl) fun a ha => ?_
  refine qp 3 (.bool (t22 == t23)) ha rfl rfl rfl (by kernel_rfl) fun a ha => ?_
  refine qp 0 (.bool (t22 == t23)) ha rfl rfl rfl (by kernel_rfl) fun a ha => ?_
  have ha := ha.sel (env' := [(19, .bool (t22 == t23)), (3, .pointer (some ⟨g3, 0, none⟩)), (5, .pointer (some ⟨g13, 0, none⟩))]) (by kernel_rfl)
  rcases Bool.eq_false_or_eq_true (t22 == t23) with hb24 | hb24
  ·have ha := ha.lit hb24
   have H := ite_t hb24 H
   refine qv (v := .agg (cS_api_Prefix a2).toArray) ha rfl rfl rfl (fun w' hs => ldA_run (cs := (cS_api_Prefix a2)) ha rfl (by kernel_rfl) (cells_sub (fun j v hv => hs.keep (hE15 j v hv)) (all := (cS_api_Prefix a2)) [] [] (by kernel_rfl))) fun a ha => ?_
   refine qv (v := .agg (cS_api_Addr a0).toArray) ha rfl rfl rfl (fun w' hs => ldA_run (cs := (cS_api_Addr a0)) ha rfl (by kernel_rfl) (cells_sub (fun j v hv => hs.keep (hE5 j v hv)) (all := (cS_api_Addr a0)) [] [] (by kernel_rfl))) fun a ha => ?_
   obtain ⟨t25, H25, H⟩ := bind_some H
   refine qc (.bool t25) ha (by rfl) (by kernel_rfl) (by rfl) (by rfl) (by rfl) (fun w' hs => (addr_Has.walk w' [] (MS.nil _) a2 a0 k _ H25).mono fun v w'' ⟨hv, hc, _⟩ => ⟨hv, hs.trans hc (Ok.nil _ _)⟩) fun a ha => ?_
   refine qv (v := .agg (cS_api_Prefix a2).toArray) ha rfl rfl rfl (fun w' hs => ldA_run (cs := (cS_api_Prefix a2)) ha rfl (by kernel_rfl) (cells_sub (fun j v hv => hs.keep (hE15 j v hv)) (all := (cS_api_Prefix a2)) [] [] (by kernel_rfl))) fun a ha => ?_
   refine qv (v := .agg (cS_api_Addr a0).toArray) ha rfl rfl rfl (fun w' hs => ldA_run (cs := (cS_api_Addr a0)) ha rfl (by kernel_rfl) (cells_sub (fun j v hv => hs.keep (hE5 j v hv)) (all := (cS_api_Addr a0)) [] [] (by kernel_rfl))) fun a ha => ?_
   obtain ⟨t26, H26, H⟩ := bind_some H
   refine qc (.bool t26) ha (by rfl) (by kernel_rfl) (by rfl) (by rfl) (by rfl) (fun w' hs => (vineryref02_Has.walk w' [] (MS.nil _) a2 a0 k _ H26).mono fun v w'' ⟨hv, hc, _⟩ => ⟨hv, hs.trans hc (Ok.nil _ _)⟩) fun a ha => ?_
   refine qp 0 (.bool (t25 == t26)) ha rfl rfl rfl (by kernel_rfl) fun a ha => ?_
   refine qp 3 (.bool (t25 == t26)) ha rfl rfl rfl (by kernel_rfl) fun a ha => ?_
   refine qp 0 (.bool (t25 == t26)) ha rfl rfl rfl (by kernel_rfl) fun a ha => ?_
   have ha := ha.sel (env' := [(28, .bool (t25 == t26)), (3, .pointer (some ⟨g3, 0, none⟩))]) (by kernel_rfl)
   rcases Bool.eq_false_or_eq_true (t25 == t26) with hb27 | hb27
   ·have ha := ha.lit hb27
    have H := ite_t hb27 H
    refine qv (v := .agg (cS_api_Addr a0).toArray) ha rfl rfl rfl (fun w' hs => ldA_run (cs := (cS_api_Addr a0)) ha rfl (by kernel_rfl) (cells_sub (fun j v hv => hs.keep (hE5 j v hv)) (all := (cS_api_Addr a0)) [] [] (by kernel_rfl))) fun a ha => ?_
    obtain ⟨t28, H28, H⟩ := bind_some H
    refine qc (.bool t28) ha (by rfl) (by kernel_rfl) (by rfl) (by rfl) (by rfl) (fun w' hs => (addr_Multicast.walk w' [] (MS.nil _) a0 k _ H28).mono fun v w'' ⟨hv, hc, _⟩ => ⟨hv, hs.trans hc (Ok.nil _ _)⟩) fun a ha => ?_
    refine qv (v := .agg (cS_api_Addr a0).toArray) ha rfl rfl rfl (fun w' hs => ldA_run (cs := (cS_api_Addr a0)) ha rfl (by kernel_rfl) (cells_sub (fun j v hv => hs.keep (hE5 j v hv)) (all := (cS_api_Addr a0)) [] [] (by kernel_rfl))) fun a ha => ?_
    obtain ⟨t29, H29, H⟩ := bind_some H
    refine qc (.bool t29) ha (by rfl) (by kernel_rfl) (by rfl) (by rfl) (by rfl) (fun w' hs => (vineryref02_Multicast.walk w' [] (MS.nil _) a0 k _ H29).mono fun v w'' ⟨hv, hc, _⟩ => ⟨hv, hs.trans hc (Ok.nil _ _)⟩) fun a ha => ?_
    refine qp 0 (.bool (t28 == t29)) ha rfl rfl rfl (by kernel_rfl) fun a ha => ?_
    refine qp 3 (.bool (t28 == t29)) ha rfl rfl rfl (by kernel_rfl) fun a ha => ?_
    refine qp 0 (.bool (t28 == t29)) ha rfl rfl rfl (by kernel_rfl) fun a ha => ?_
    refine wpQuiet_nil ?_
    intro w30 hc31
    have o1 : Ok [] (M) w18.heap.size := Ok.nil _ _
    have o2 : Ok (M) (M) w18.heap.size := (Ok.refl _ _)
    have hG := hG.chg hc31 o1 o2
    have q_hn6 : g3 ∉ M := fun h => (o2 g3 h).elim hn6 (fun h => absurd (lt_cell (hE5 0 _ rfl)) (Nat.not_lt.2 h))
    have hE5 : ∀ j v, (cS_api_Addr a0)[j]? = some v → w30.cell? ⟨g3, 0 + j, none⟩ = some v := fun j v hv => (cell_keep hc31 o1 hn6 (hE5 j v hv))
    have hn6 := q_hn6
    have hM : MS (M) w30 := (hM.chg hc31)
    have hC := hC.trans hc31 (Ok.nil _ _)
    refine wpl_end ?_
    obtain rfl := Option.some.inj H
    exact J20 _ _ (ha.sel (by kernel_rfl)) hG hC hM
   ·have ha := ha.lit hb27
    have H := ite_f hb27 H
    refine qo ha rfl rfl rfl fun a ha => ?_
    refine qo ha rfl rfl rfl fun a ha => ?_
    refine qo ha rfl rfl rfl fun a ha => ?_
    refine qo ha rfl rfl rfl fun a ha => ?_
    refine qo ha rfl rfl rfl fun a ha => ?_
    refine qp 4 (.bool false) ha rfl rfl rfl (by kernel_rfl) fun a ha => ?_
    refine qp 0 (.bool false) ha rfl rfl rfl (by kernel_rfl) fun a ha => ?_
    refine wpQuiet_nil ?_
    intro w32 hc33
    have o1 : Ok [] (M) w18.heap.size := Ok.nil _ _
    have o2 : Ok (M) (M) w18.heap.size := (Ok.refl _ _)
    have hG := hG.chg hc33 o1 o2
    have q_hn6 : g3 ∉ M := fun h => (o2 g3 h).elim hn6 (fun h => absurd (lt_cell (hE5 0 _ rfl)) (Nat.not_lt.2 h))
    have hE5 : ∀ j v, (cS_api_Addr a0)[j]? = some v → w32.cell? ⟨g3, 0 + j, none⟩ = some v := fun j v hv => (cell_keep hc33 o1 hn6 (hE5 j v hv))
    have hn6 := q_hn6
    have hM : MS (M) w32 := (hM.chg hc33)
    have hC := hC.trans hc33 (Ok.nil _ _)
    refine wpl_end ?_
    obtain rfl := Option.some.inj H
    exact J20 _ _ (ha.sel (by kernel_rfl)) hG hC hM
  ·have ha := ha.lit hb24
   have H := ite_f hb24 H
   refine qo ha rfl rfl rfl fun a ha => ?_
   refine qo ha rfl rfl rfl fun a ha => ?_
   refine qo ha rfl rfl rfl fun a ha => ?_
   refine qo ha rfl rfl rfl fun a ha => ?_
   refine qo ha rfl rfl rfl fun a ha => ?_
   refine qo ha rfl rfl rfl fun a ha => ?_
   refine qo ha rfl rfl rfl fun a ha => ?_
   refine qp 4 (.bool false) ha rfl rfl rfl (by kernel_rfl) fun a ha => ?_
   refine qp 0 (.bool false) ha rfl rfl rfl (by kernel_rfl) fun a ha => ?_
   refine qo ha rfl rfl rfl fun a ha => ?_
   refine qo ha rfl rfl rfl fun a ha => ?_
   refine qo ha rfl rfl rfl fun a ha => ?_
   refine qo ha rfl rfl rfl fun a ha => ?_
   refine qo ha rfl rfl rfl fun a ha => ?_
   refine qp 4 (.bool false) ha rfl rfl rfl (by kernel_rfl) fun a ha => ?_
   refine qp 0 (.bool false) ha rfl rfl rfl (by kernel_rfl) fun a ha => ?_
   refine wpQuiet_nil ?_
   intro w34 hc35
   have o1 : Ok [] (M) w18.heap.size := Ok.nil _ _
   have o2 : Ok (M) (M) w18.heap.size := (Ok.refl _ _)
   have hG := hG.chg hc35 o1 o2
   have q_hn6 : g3 ∉ M := fun h => (o2 g3 h).elim hn6 (fun h => absurd (lt_cell (hE5 0 _ rfl)) (Nat.not_lt.2 h))
   have hE5 : ∀ j v, (cS_api_Addr a0)[j]? = some v → w34.cell? ⟨g3, 0 + j, none⟩ = some v := fun j v hv => (cell_keep hc35 o1 hn6 (hE5 j v hv))
   have hn6 := q_hn6
   have q_hn16 : g13 ∉ M := fun h => (o2 g13 h).elim hn16 (fun h => absurd (lt_cell (hE15 0 _ rfl)) (Nat.not_lt.2 h))
   have hE15 : ∀ j v, (cS_api_Prefix a2)[j]? = some v → w34.cell? ⟨g13, 0 + j, none⟩ = some v := fun j v hv => (cell_keep hc35 o1 hn16 (hE15 j v hv))
   have hn16 := q_hn16
   have hM : MS (M) w34 := (hM.chg hc35)
   have hC := hC.trans hc35 (Ok.nil _ _)
   refine wpl_end ?_
   obtain rfl := Option.some.inj H
   exact J20 _ _ (ha.sel (by kernel_rfl)) hG hC hM
 ·have ha := ha.lit hb21
  have H := ite_f hb21 H
  refine qo ha rfl rfl rfl fun a ha => ?_
  refine qo ha rfl rfl rfl fun a ha => ?_
  refine qo ha rfl rfl rfl fun a ha => ?_
  refine qo ha rfl rfl rfl fun a ha => ?_
  refine qo ha rfl rfl rfl fun a ha => ?_
  refine qo ha rfl rfl rfl fun a ha => ?_
  refine qo ha rfl rfl rfl fun a ha => ?_
  refine qp 4 (.bool false) ha rfl rfl rfl (by kernel_rfl) fun a ha => ?_
  refine qp 0 (.bool false) ha rfl rfl rfl (by kernel_rfl) fun a ha => ?_
  refine qo ha rfl rfl rfl fun a ha => ?_
  refine qo ha rfl rfl rfl fun a ha => ?_
  refine qo ha rfl rfl rfl fun a ha => ?_
  refine qo ha rfl rfl rfl fun a ha => ?_
  refine qo ha rfl rfl rfl fun a ha => ?_
  refine qo ha rfl rfl rfl fun a ha => ?_
  refine qo ha rfl rfl rfl fun a ha => ?_
  refine qp 4 (.bool false) ha rfl rfl rfl (by kernel_rfl) fun a ha => ?_
  refine qp 0 (.bool false) ha rfl rfl rfl (by kernel_rfl) fun a ha => ?_
  refine qo ha rfl rfl rfl fun a ha => ?_
  refine qo ha rfl rfl rfl fun a ha => ?_
  refine qo ha rfl rfl rfl fun a ha => ?_
  refine qo ha rfl rfl rfl fun a ha => ?_
  refine qo ha rfl rfl rfl fun a ha => ?_
  refine qp 4 (.bool false) ha rfl rfl rfl (by kernel_rfl) fun a ha => ?_
  refine qp 0 (.bool false) ha rfl rfl rfl (by kernel_rfl) fun a ha => ?_
  refine wpQuiet_nil ?_
  intro w36 hc37
  have o1 : Ok [] (M) w18.heap.size := Ok.nil _ _
  have o2 : Ok (M) (M) w18.heap.size := (Ok.refl _ _)
  have hG := hG.chg hc37 o1 o2
  have q_hn6 : g3 ∉ M := fun h => (o2 g3 h).elim hn6 (fun h => absurd (lt_cell (hE5 0 _ rfl)) (Nat.not_lt.2 h))
  have hE5 : ∀ j v, (cS_api_Addr a0)[j]? = some v → w36.cell? ⟨g3, 0 + j, none⟩ = some v := fun j v hv => (cell_keep hc37 o1 hn6 (hE5 j v hv))
  have hn6 := q_hn6
  have q_hn11 : g8 ∉ M := fun h => (o2 g8 h).elim hn11 (fun h => absurd (lt_cell (hE10 0 _ rfl)) (Nat.not_lt.2 h))
  have hE10 : ∀ j v, (cS_api_Addr a1)[j]? = some v → w36.cell? ⟨g8, 0 + j, none⟩ = some v := fun j v hv => (cell_keep hc37 o1 hn11 (hE10 j v hv))
  have hn11 := q_hn11
  have q_hn16 : g13 ∉ M := fun h => (o2 g13 h).elim hn16 (fun h => absurd (lt_cell (hE15 0 _ rfl)) (Nat.not_lt.2 h))
  have hE15 : ∀ j v, (cS_api_Prefix a2)[j]? = some v → w36.cell? ⟨g13, 0 + j, none⟩ = some v := fun j v hv => (cell_keep hc37 o1 hn16 (hE15 j v hv))
  have hn16 := q_hn16
  have hM : MS (M) w36 := (hM.chg hc37)
  have hC := hC.trans hc37 (Ok.nil _ _)
  refine wpl_end ?_
  obtain rfl := Option.some.inj H
  exact J20 _ _ (ha.sel (by kernel_rfl)) hG hC hM
end Go.E
