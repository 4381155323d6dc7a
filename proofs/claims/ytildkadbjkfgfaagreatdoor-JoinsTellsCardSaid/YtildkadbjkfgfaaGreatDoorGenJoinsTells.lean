/- What the functions that the law reaches compute, and the walks that show it. -/
import Derived.Test.YtildkadbjkfgfaaGreatDoorEngU
import Derived.Test.YtildkadbjkfgfaaGreatDoorShelf
import Derived.Test.YtildkadbjkfgfaaGreatDoorEngX
import Derived.Test.YtildkadbjkfgfaaGreatDoorEngQ
import Derived.Test.YtildkadbjkfgfaaGreatDoorEngY
import Derived.Test.YtildkadbjkfgfaaGreatDoorEngZ
import Derived.Test.YtildkadbjkfgfaaGreatDoorProg
import Derived.Test.YtildkadbjkfgfaaGreatDoorGenJoinsTellsP1
set_option linter.unusedVariables false
set_option linter.unusedSimpArgs false
namespace Go.E
open Go.RowKit Go.Proofs
def vineryref02_Compare.f (k : Nat) (a0 : S_api_Addr) (a1 : S_api_Addr) : Option (Int) := (if (decide (a0.Size < a1.Size)) = true then some (((-1 : Int) : Int)) else (if (decide (a0.Size > a1.Size)) = true then some (((1 : Int) : Int)) else (vineryref01_Order.f k (arL 16 a0.B) (arL 16 a1.B)).bind fun t23 => some ((t23 : Int))))
set_option maxRecDepth 100000 in
theorem vineryref02_Compare.walk (w : World) (M : List Nat) (hM : MS M w) (a0 : S_api_Addr) (a1 : S_api_Addr) (k : Nat) (r : Int) (H : vineryref02_Compare.f k a0 a1 = some r) :
    To Tryz.prog 34 [.agg (cS_api_Addr a0).toArray, .agg (cS_api_Addr a1).toArray] w fun v w' => v = .int .i64 r ∧ Chg [] w w' ∧ MS (M) w' := by
 unfold vineryref02_Compare.f at H
 refine ent Tryz.func34 rfl [(0, .agg (cS_api_Addr a0).toArray), (1, .agg (cS_api_Addr a1).toArray)] rfl (by rfl) fun a ha => ?_
 have hC : Chg [] w w := Chg.refl _ _
 refine wp_seq_k fun K1 hK1 => ?_
 refine wp_region_lit ?_
 refine bx (cs := (cS_api_Addr a0)) ha rfl rfl rfl rfl rfl fun a w2 g3 hN4 ha => ?_
 have hn6 := hN4.notin hM
 have hM : MS (M) w2 := (hM.chg hN4.chg)
 have hC := hC.trans hN4.chg (Ok.nil _ _)
 have hE5 : ∀ j v, (cS_api_Addr a0)[j]? = some v → w2.cell? ⟨g3, 0 + j, none⟩ = some v := Box.cells (New.box hN4)
 refine bx (cs := (cS_api_Addr a1)) ha rfl rfl rfl rfl rfl fun a w7 g8 hN9 ha => ?_
 have hn11 := hN9.notin hM
 have o1 : Ok [] (M) w2.heap.size := Ok.nil _ _
 have o2 : Ok (M) (M) w2.heap.size := (Ok.refl _ _)
 have q_hn6 : g3 ∉ M := fun h => (o2 g3 h).elim hn6 (fun h => absurd (lt_cell (hE5 0 _ rfl)) (Nat.not_lt.2 h))
 have hE5 : ∀ j v, (cS_api_Addr a0)[j]? = some v → w7.cell? ⟨g3, 0 + j, none⟩ = some v := fun j v hv => (cell_keep hN9.chg o1 hn6 (hE5 j v hv))
 have hn6 := q_hn6
 have hM : MS (M) w7 := (hM.chg hN9.chg)
 have hC := hC.trans hN9.chg (Ok.nil _ _)
 have hE10 : ∀ j v, (cS_api_Addr a1)[j]? = some v → w7.cell? ⟨g8, 0 + j, none⟩ = some v := Box.cells (New.box hN9)
 refine seg ha 1 [(2, .pointer (some ⟨g3, 0, none⟩)), (3, .pointer (some ⟨g8, 0, none⟩))] (by kernel_rfl) fun a ha => ?_
 refine hK1 _ _ ?_; try clear hK1 K1
 refine wp_seq_k fun K12 hK12 => ?_
 refine wp_seq_k fun K13 hK13 => ?_
 refine wp_region_lit ?_
 refine seg ha 1 [(2, .pointer (some ⟨g3, 0, none⟩)), (3, .pointer (some ⟨g8, 0, none⟩)), (5, .pointer (some ⟨g3, 0, none⟩))] (by kernel_rfl) fun a ha => ?_
 refine ld ha rfl (by kernel_rfl) rfl rfl rfl (hE5 0 (.int .i64 a0.Size) (by kernel_rfl)) fun a ha => ?_
 refine seg ha 1 [(2, .pointer (some ⟨g3, 0, none⟩)), (3, .pointer (some ⟨g8, 0, none⟩)), (6, .int .i64 a0.Size), (7, .pointer (some ⟨g8, 0, none⟩))] (by kernel_rfl) fun a ha => ?_
 refine ld ha rfl (by kernel_rfl) rfl rfl rfl (hE10 0 (.int .i64 a1.Size) (by kernel_rfl)) fun a ha => ?_
 refine seg ha 1 [(2, .pointer (some ⟨g3, 0, none⟩)), (3, .pointer (some ⟨g8, 0, none⟩)), (9, .bool (decide (a0.Size < a1.Size)))] (by kernel_rfl) fun a ha => ?_
 refine hK13 _ _ ?_; try clear hK13 K13
 refine cnd ha rfl (fun hc14 => ?_) (fun hc14 => ?_)
 ·have H := ite_t hc14 H
  refine wp_seq_k fun K15 hK15 => ?_
  refine wp_region_lit ?_
  refine seg ha 1 [(4, .int .i64 (-1 : Int))] (by kernel_rfl) fun a ha => ?_
  refine hK15 _ _ ?_; try clear hK15 K15
  refine wp_ret ?_
  try simp only [Exit.then, Exit.inBlock]
  obtain rfl := Option.some.inj H
  refine rt1 ha rfl rfl ?_
  exact ⟨rfl, hC, hM⟩
 ·have H := ite_f hc14 H
  refine wp_skip ?_
  refine hK12 _ _ ?_; try clear hK12 K12
  refine wp_seq_k fun K16 hK16 => ?_
  refine wp_seq_k fun K17 hK17 => ?_
  refine wp_region_lit ?_
  refine seg ha 1 [(2, .pointer (some ⟨g3, 0, none⟩)), (3, .pointer (some ⟨g8, 0, none⟩)), (10, .pointer (some ⟨g3, 0, none⟩))] (by kernel_rfl) fun a ha => ?_
  refine ld ha rfl (by kernel_rfl) rfl rfl rfl (hE5 0 (.int .i64 a0.Size) (by kernel_rfl)) fun a ha => ?_
  refine seg ha 1 [(2, .pointer (some ⟨g3, 0, none⟩)), (3, .pointer (some ⟨g8, 0, none⟩)), (11, .int .i64 a0.Size), (12, .pointer (some ⟨g8, 0, none⟩))] (by kernel_rfl) fun a ha => ?_
  refine ld ha rfl (by kernel_rfl) rfl rfl rfl (hE10 0 (.int .i64 a1.Size) (by kernel_rfl)) fun a ha => ?_
  refine seg ha 1 [(2, .pointer (some ⟨g3, 0, none⟩)), (3, .pointer (some ⟨g8, 0, none⟩)), (14, .bool (decide (a0.Size > a1.Size)))] (by kernel_rfl) fun a ha => ?_
  refine hK17 _ _ ?_; try clear hK17 K17
  refine cnd ha rfl (fun hc18 => ?_) (fun hc18 => ?_)
  ·have H := ite_t hc18 H
   refine wp_seq_k fun K19 hK19 => ?_
   refine wp_region_lit ?_
   refine seg ha 1 [(4, .int .i64 (1 : Int))] (by kernel_rfl) fun a ha => ?_
   refine hK19 _ _ ?_; try clear hK19 K19
   refine wp_ret ?_
   try simp only [Exit.then, Exit.inBlock]
   obtain rfl := Option.some.inj H
   refine rt1 ha rfl rfl ?_
   exact ⟨rfl, hC, hM⟩
  ·have H := ite_f hc18 H
   refine wp_skip ?_
   refine hK16 _ _ ?_; try clear hK16 K16
   refine wp_seq_k fun K20 hK20 => ?_
   refine drq0 (fun w' => Chg [] w7 w') (by kernel_rfl) (by kernel_rfl) (fun _ h => h) ?_
   refine qp 0 (.pointer (some ⟨g3, 0 + 1, none⟩)) ha rfl rfl rfl (by kernel_rfl) fun a ha => ?_
   have f21 : RSl (rInt .u8) 5 w7 (M) (some ⟨g3, 0 + 1, none⟩) 16 (arL 16 a0.B) := RSl.ofA [.int .i64 a0.Size] [] hE5 hn6 (by kernel_rfl) rfl
   refine qv (v := .slice (some ⟨g3, 0 + 1, none⟩) (arL 16 a0.B).length 16) ha rfl rfl rfl (fun w' hs => opk_run ha rfl rfl (fun w => by kernel_rfl)) fun a ha => ?_
   refine qp 0 (.pointer (some ⟨g8, 0 + 1, none⟩)) ha rfl rfl rfl (by kernel_rfl) fun a ha => ?_
   have f22 : RSl (rInt .u8) 5 w7 (M) (some ⟨g8, 0 + 1, none⟩) 16 (arL 16 a1.B) := RSl.ofA [.int .i64 a1.Size] [] hE10 hn11 (by kernel_rfl) rfl
   refine qv (v := .slice (some ⟨g8, 0 + 1, none⟩) (arL 16 a1.B).length 16) ha rfl rfl rfl (fun w' hs => opk_run ha rfl rfl (fun w => by kernel_rfl)) fun a ha => ?_
   obtain ⟨t23, H23, H⟩ := bind_some H
   refine qc (.int .i64 t23) ha (by rfl) (by kernel_rfl) (by rfl) (by rfl) (by rfl) (fun w' hs => (vineryref01_Order.walk w' [] (MS.nil _) (arL 16 a0.B) (some ⟨g3, 0 + 1, none⟩) 16 (RSl.chg (M' := []) f21 hs (Ok.nil _ _) (Ok.nil _ _)) (arL 16 a1.B) (some ⟨g8, 0 + 1, none⟩) 16 (RSl.chg (M' := []) f22 hs (Ok.nil _ _) (Ok.nil _ _)) k _ H23).mono fun v w'' ⟨hv, hc, _⟩ => ⟨hv, hs.trans hc (Ok.nil _ _)⟩) fun a ha => ?_
   refine qp 0 (.int .i64 t23) ha rfl rfl rfl (by kernel_rfl) fun a ha => ?_
   refine wpQuiet_nil ?_
   intro w24 hc25
   have o1 : Ok [] (M) w7.heap.size := Ok.nil _ _
   have o2 : Ok (M) (M) w7.heap.size := (Ok.refl _ _)
   have f21 := f21.chg hc25 o1 o2
   have f22 := f22.chg hc25 o1 o2
   have q_hn6 : g3 ∉ M := fun h => (o2 g3 h).elim hn6 (fun h => absurd (lt_cell (hE5 0 _ rfl)) (Nat.not_lt.2 h))
   have hE5 : ∀ j v, (cS_api_Addr a0)[j]? = some v → w24.cell? ⟨g3, 0 + j, none⟩ = some v := fun j v hv => (cell_keep hc25 o1 hn6 (hE5 j v hv))
   have hn6 := q_hn6
   have q_hn11 : g8 ∉ M := fun h => (o2 g8 h).elim hn11 (fun h => absurd (lt_cell (hE10 0 _ rfl)) (Nat.not_lt.2 h))
   have hE10 : ∀ j v, (cS_api_Addr a1)[j]? = some v → w24.cell? ⟨g8, 0 + j, none⟩ = some v := fun j v hv => (cell_keep hc25 o1 hn11 (hE10 j v hv))
   have hn11 := q_hn11
   have hM : MS (M) w24 := (hM.chg hc25)
   have hC := hC.trans hc25 (Ok.nil _ _)
   refine wpl_end ?_
   refine hK20 _ _ ?_; try clear hK20 K20
   refine wp_ret ?_
   try simp only [Exit.then, Exit.inBlock]
   obtain rfl := Option.some.inj H
   refine rt1 ha rfl rfl ?_
   exact ⟨rfl, hC, hM⟩
def vineryref20_Groups.l1 (k : Nat) (a0 : List S_api_Join) (x8 : List S_api_Addr) (x9 : Int) : Nat → Int → Option (Int)
  | 0, _ => none
  | kk + 1, x38 => ((if (decide (x38 < (x8.length : Int))) = true then (if 0 ≤ x38 ∧ x38 < (x8.length : Int) then (vineryref02_Compare.f k (rd x8 x38) ((rd a0 x9).Group)).bind fun t89 => some (decide (t89 < (0 : Int)) : Bool) else none) else some (false : Bool))).bind fun s79 => (if s79 = true then vineryref20_Groups.l1 k a0 x8 x9 kk (IntKind.i64.wrap (x38 + (1 : Int))) else some (x38 : Int))
def vineryref20_Groups.l0 (k : Nat) (a0 : List S_api_Join) (a1 : List UInt8) : Nat → (List S_api_Addr) → Int → Option (List S_api_Addr)
  | 0, _, _ => none
  | kk + 1, x8, x9 => (if (decide (x9 < (a0.length : Int))) = true then ((if 0 ≤ x9 ∧ x9 < (a0.length : Int) then (if (!((bstr ((rd a0 x9).Vrf)).toList == (bstr a1).toList)) = true then some (true : Bool) else (if 0 ≤ x9 ∧ x9 < (a0.length : Int) then some ((((rd a0 x9).Source).Size) != (0 : Int) : Bool) else none)) else none)).bind fun s19 => (if s19 = true then vineryref20_Groups.l0 k a0 a1 kk x8 (IntKind.i64.wrap (x9 + (1 : Int))) else (if 0 ≤ x9 ∧ x9 < (a0.length : Int) then (vineryref20_Groups.l1 k a0 x8 x9 k (0 : Int)).bind fun s37 => ((if (decide (s37 < (x8.length : Int))) = true then (if 0 ≤ s37 ∧ s37 < (x8.length : Int) then (vineryref02_Compare.f k (rd x8 s37) ((rd a0 x9).Group)).bind fun t72 => some (t72 == (0 : Int) : Bool) else none) else some (false : Bool))).bind fun s41 => (if s41 = true then vineryref20_Groups.l0 k a0 a1 kk x8 (IntKind.i64.wrap (x9 + (1 : Int))) else (if 0 ≤ (0 : Int) ∧ (0 : Int) ≤ s37 ∧ s37 ≤ (x8.length : Int) then (if (([] : List S_api_Addr).length + ((x8.take (Int.toNat s37)).drop (Int.toNat (0 : Int))).length) * 24 ≤ 140737488355328 then (if ((([] : List S_api_Addr) ++ ((x8.take (Int.toNat s37)).drop (Int.toNat (0 : Int)))).length + ([((rd a0 x9).Group)] : List S_api_Addr).length) * 24 ≤ 140737488355328 then (if 0 ≤ s37 ∧ s37 ≤ (x8.length : Int) ∧ (x8.length : Int) ≤ (x8.length : Int) then (if (((([] : List S_api_Addr) ++ ((x8.take (Int.toNat s37)).drop (Int.toNat (0 : Int)))) ++ ([((rd a0 x9).Group)] : List S_api_Addr)).length + ((x8.take (Int.toNat (x8.length : Int))).drop (Int.toNat s37)).length) * 24 ≤ 140737488355328 then vineryref20_Groups.l0 k a0 a1 kk (((([] : List S_api_Addr) ++ ((x8.take (Int.toNat s37)).drop (Int.toNat (0 : Int)))) ++ ([((rd a0 x9).Group)] : List S_api_Addr)) ++ ((x8.take (Int.toNat (x8.length : Int))).drop (Int.toNat s37))) (IntKind.i64.wrap (x9 + (1 : Int))) else none) else none) else none) else none) else none)) else none)) else some (x8 : List S_api_Addr))
def vineryref20_Groups.f (k : Nat) (a0 : List S_api_Join) (a1 : List UInt8) : Option (List S_api_Addr) := (vineryref20_Groups.l0 k a0 a1 k ([] : List S_api_Addr) (0 : Int)).bind fun s6 => some ((s6 : List S_api_Addr))
set_option maxRecDepth 100000 in
theorem vineryref20_Groups.walk (w : World) (M : List Nat) (hM : MS M w) (a0 : List S_api_Join) (ao1 : Option Addr) (cap1 : Nat) (f1 : RSl rS_api_Join 38 w M ao1 cap1 a0) (a1 : List UInt8) (k : Nat) (r : List S_api_Addr) (H : vineryref20_Groups.f k a0 a1 = some r) :
    To Tryz.prog 13 [.slice ao1 a0.length cap1, .string (bstr a1)] w fun v w' => ∃ (ao109 : Option Addr) (cap109 : Nat), v = .slice ao109 r.length cap109 ∧ (Own rS_api_Addr 25 w' (blkL ao109 ++ (M)) ao109 cap109 r) ∧ (∀ x ∈ blkL ao109, w.heap.size ≤ x) ∧ Chg [] w w' ∧ MS (blkL ao109 ++ (M)) w' := by
 unfold vineryref20_Groups.f at H
 refine ent Tryz.func13 rfl [(0, .slice ao1 a0.length cap1), (1, .string (bstr a1))] rfl (by rfl) fun a ha => ?_
 have hC : Chg [] w w := Chg.refl _ _
 refine wp_seq_k fun K2 hK2 => ?_
 refine wp_region_lit ?_
 refine seg ha 1 [(0, .slice ao1 a0.length cap1), (1, .string (bstr a1))] (by kernel_rfl) fun a ha => ?_
 refine hK2 _ _ ?_; try clear hK2 K2
 refine wp_seq_k fun K3 hK3 => ?_
 refine wp_region_lit ?_
 refine seg ha 1 [(0, .slice ao1 a0.length cap1), (1, .string (bstr a1)), (5, .slice none 0 0)] (by kernel_rfl) fun a ha => ?_
 refine hK3 _ _ ?_; try clear hK3 K3
 refine wp_seq_k fun K4 hK4 => ?_
 refine wp_seq_k fun K5 hK5 => ?_
 refine wp_region_lit ?_
 refine seg ha 1 [(0, .slice ao1 a0.length cap1), (1, .string (bstr a1)), (5, .slice none 0 0), (6, .int .i64 (0 : Int))] (by kernel_rfl) fun a ha => ?_
 refine hK5 _ _ ?_; try clear hK5 K5
 refine wp_block ?_
 obtain ⟨s6, H6, H⟩ := bind_some H
 have J6 : ∀ (a : Act) (wx6 : World) (ao10 : Option Addr) (cap10 : Nat), Has a Tryz.f13.ntmps [(5, .slice ao10 s6.length cap10)] → (Own rS_api_Addr 25 wx6 (blkL ao10 ++ (M)) ao10 cap10 s6) → (∀ x ∈ blkL ao10, w.heap.size ≤ x) → (∀ x ∈ blkL ao10, x ∉ M) → (Chg [] w wx6) → (MS (blkL ao10 ++ (M)) wx6) → K4 a wx6 := by
  intro a wx6 ao10 cap10 ha f10 e_i10 p_i10_M hC hM
  refine hK4 _ _ ?_; try clear hK4 K4
  refine wp_seq_k fun K11 hK11 => ?_
  refine wp_region_lit ?_
  refine seg ha 2 [(4, .slice ao10 s6.length cap10)] (by kernel_rfl) fun a ha => ?_
  refine hK11 _ _ ?_; try clear hK11 K11
  refine wp_ret ?_
  try simp only [Exit.then, Exit.inBlock]
  obtain rfl := Option.some.inj H
  refine rt1 ha rfl rfl ?_
  exact ⟨ao10, cap10, rfl, f10, e_i10, hC, hM⟩
 have Hc6 := H
 have H := H6
 refine wp_loop_ghost (fun kk a w6 => ∃ (x8 : List S_api_Addr) (x9 : Int) (ao7 : Option Addr) (cap7 : Nat), vineryref20_Groups.l0 k a0 a1 kk x8 x9 = some s6 ∧ Has a Tryz.f13.ntmps [(0, .slice ao1 a0.length cap1), (1, .string (bstr a1)), (5, .slice ao7 x8.length cap7), (6, .int .i64 x9)] ∧ (RSl rS_api_Join 38 w6 (blkL ao7 ++ (M)) ao1 cap1 a0) ∧ (Own rS_api_Addr 25 w6 (blkL ao7 ++ (M)) ao7 cap7 x8) ∧ (∀ x ∈ blkL ao7, w.heap.size ≤ x) ∧ (∀ x ∈ blkL ao7, x ∉ M) ∧ (Chg [] w w6) ∧ (MS (blkL ao7 ++ (M)) w6)) k ?_ ?_
 ·skip
  have o1 : Ok [] (M) w.heap.size := Ok.nil _ _
  have o2 : Ok (blkL none ++ (M)) (M) w.heap.size := (Ok.app (fun _ h => nomatch h) (Ok.refl _ _))
  have f1 := f1.chg (Chg.refl [] _) o1 o2
  have p_z12_M : ∀ x ∈ blkL none, x ∉ M := fun x hx hy => absurd (hM x (hy)) (Nat.not_lt.2 ((fun _ h => nomatch h) x hx))
  have e_z12 : ∀ x ∈ blkL none, w.heap.size ≤ x := fun x hx => Nat.le_trans hC.size ((fun _ h => nomatch h) x hx)
  have hM : MS (blkL none ++ (M)) w := (MS.app (fun _ h => nomatch h) (hM.chg (Chg.refl [] _)))
  exact ⟨([] : List S_api_Addr), (0 : Int), none, 0, H, (ha.sel (by kernel_rfl)), f1, Own.nil, e_z12, p_z12_M, hC, hM⟩
 ·rintro kk a w6 ⟨x8, x9, ao7, cap7, H, ha, f1, f7, e_i7, p_i7_M, hC, hM⟩
  obtain _ | kk := kk
  ·exact nomatch (show none = some _ from H)
  rw [vineryref20_Groups.l0] at H
  refine wp_seq_k fun K13 hK13 => ?_
  refine wp_seq_k fun K14 hK14 => ?_
  refine wp_region_lit ?_
  refine seg ha 4 [(0, .slice ao1 a0.length cap1), (1, .string (bstr a1)), (5, .slice ao7 x8.length cap7), (6, .int .i64 x9), (13, .bool (decide (x9 < (a0.length : Int))))] (by kernel_rfl) fun a ha => ?_
  refine hK14 _ _ ?_; try clear hK14 K14
  refine cnd ha rfl (fun hc15 => ?_) (fun hc15 => ?_)
  ·have H := ite_t hc15 H
   refine wp_skip ?_
   refine hK13 _ _ ?_; try clear hK13 K13
   refine wp_seq_k fun K16 hK16 => ?_
   refine wp_block ?_
   refine wp_seq_k fun K17 hK17 => ?_
   refine wp_seq_k fun K18 hK18 => ?_
   refine wp_region_lit ?_
   obtain ⟨s19, H19, H⟩ := bind_some H
   have J19 : ∀ (a : Act) (w19 : World), Has a Tryz.f13.ntmps [(0, .slice ao1 a0.length cap1), (1, .string (bstr a1)), (5, .slice ao7 x8.length cap7), (6, .int .i64 x9), (31, .bool s19)] → (RSl rS_api_Join 38 w19 (blkL ao7 ++ (M)) ao1 cap1 a0) → (Own rS_api_Addr 25 w19 (blkL ao7 ++ (M)) ao7 cap7 x8) → (Chg [] w w19) → (MS (blkL ao7 ++ (M)) w19) → K18 a w19 := by
    intro a w19 ha f1 f7 hC hM
    refine hK18 _ _ ?_; try clear hK18 K18
    refine cnd ha rfl (fun hc20 => ?_) (fun hc20 => ?_)
    ·have H := ite_t hc20 H
     refine wp_exit ?_
     simp only [Exit.then, Exit.inBlock, ↓reduceIte, Nat.reduceEqDiff]
     refine hK16 _ _ ?_; try clear hK16 K16
     refine wp_region_lit ?_
     refine seg ha 3 [(0, .slice ao1 a0.length cap1), (1, .string (bstr a1)), (5, .slice ao7 x8.length cap7), (6, .int .i64 (IntKind.i64.wrap (x9 + (1 : Int))))] (by kernel_rfl) fun a ha => ?_
     exact ⟨kk, Nat.lt_succ_self _, ⟨x8, IntKind.i64.wrap (x9 + (1 : Int)), ao7, cap7, H, (ha.sel (by kernel_rfl)), f1, f7, e_i7, p_i7_M, hC, hM⟩⟩
    ·have H := ite_f hc20 H
     refine wp_skip ?_
     refine hK17 _ _ ?_; try clear hK17 K17
     refine wp_seq_k fun K21 hK21 => ?_
     refine wp_region_lit ?_
     refine seg ha 2 [(0, .slice ao1 a0.length cap1), (1, .string (bstr a1)), (5, .slice ao7 x8.length cap7), (6, .int .i64 x9), (32, .slice ao1 a0.length cap1), (33, .int .i64 x9)] (by kernel_rfl) fun a ha => ?_
     obtain ⟨⟨hx22, hx22'⟩, H⟩ := ite_some H
     refine ix (r := rS_api_Join) ha (by kernel_rfl) (by kernel_rfl) rfl rfl rfl rfl rfl f1 hx22 hx22' fun a ge23 oe24 cs25 hn28 hR26 hE27 ha => ?_
     rw [rd_get] at hR26
     obtain rfl := rS_api_Join.open hR26
     refine seg ha 1 [(0, .slice ao1 a0.length cap1), (1, .string (bstr a1)), (5, .slice ao7 x8.length cap7), (6, .int .i64 x9), (35, .pointer (some ⟨ge23, oe24 + 19, none⟩))] (by kernel_rfl) fun a ha => ?_
     refine ldA (cs := (cS_api_Addr ((rd a0 x9).Group))) ha rfl (by kernel_rfl) rfl rfl rfl (cells_sub hE27 (all := (cS_api_Join (rd a0 x9))) [.string (bstr ((rd a0 x9).Vrf)), .string (bstr ((rd a0 x9).Iface)), .int .i64 (((rd a0 x9).Source).Size), .int .u8 (ar (((rd a0 x9).Source).B) 0), .int .u8 (ar (((rd a0 x9).Source).B) 1), .int .u8 (ar (((rd a0 x9).Source).B) 2), .int .u8 (ar (((rd a0 x9).Source).B) 3), .int .u8 (ar (((rd a0 x9).Source).B) 4), .int .u8 (ar (((rd a0 x9).Source).B) 5), .int .u8 (ar (((rd a0 x9).Source).B) 6), .int .u8 (ar (((rd a0 x9).Source).B) 7), .int .u8 (ar (((rd a0 x9).Source).B) 8), .int .u8 (ar (((rd a0 x9).Source).B) 9), .int .u8 (ar (((rd a0 x9).Source).B) 10), .int .u8 (ar (((rd a0 x9).Source).B) 11), .int .u8 (ar (((rd a0 x9).Source).B) 12), .int .u8 (ar (((rd a0 x9).Source).B) 13), .int .u8 (ar (((rd a0 x9).Source).B) 14), .int .u8 (ar (((rd a0 x9).Source).B) 15)] [] (by kernel_rfl)) fun a ha => ?_
     refine al (cs := (cS_api_Addr (⟨(0 : Int), (List.replicate 16 (0 : Int))⟩ : S_api_Addr))) (z := .agg (cS_api_Addr (⟨(0 : Int), (List.replicate 16 (0 : Int))⟩ : S_api_Addr)).toArray) ha (fun w => by kernel_rfl) rfl rfl rfl rfl fun a w29 g30 hN31 ha => ?_
     have o1 : Ok [] (blkL ao7 ++ (M)) w19.heap.size := Ok.nil _ _
     have o2 : Ok ([g30] ++ (blkL ao7 ++ (M))) (blkL ao7 ++ (M)) w19.heap.size := (Ok.app (hN31.ok _) (Ok.refl _ _))
     have f1 := f1.chg hN31.chg o1 o2
     have f7 := f7.chg hN31.chg o1 o2 (fun _ _ h => nomatch h) (fun _ h => mr (ml h))
     have p_i32_i7 : ∀ x ∈ [g30], x ∉ (blkL ao7) := fun x hx hy => absurd (hM x (ml hy)) (Nat.not_lt.2 ((hN31.ge1) x hx))
     have p_i32_M : ∀ x ∈ [g30], x ∉ M := fun x hx hy => absurd (hM x (mr (hy))) (Nat.not_lt.2 ((hN31.ge1) x hx))
     have e_i32 : ∀ x ∈ [g30], w.heap.size ≤ x := fun x hx => Nat.le_trans hC.size ((hN31.ge1) x hx)
     have hM : MS ([g30] ++ (blkL ao7 ++ (M))) w29 := (MS.app hN31.ms (hM.chg hN31.chg))
     have hC := hC.trans hN31.chg (Ok.nil _ _)
     have hBg30 : Box w29 g30 (cS_api_Addr (⟨(0 : Int), (List.replicate 16 (0 : Int))⟩ : S_api_Addr)) := hN31.box
     refine stA (l := (cS_api_Addr ((rd a0 x9).Group))) ha rfl rfl rfl (by kernel_rfl) rfl rfl hBg30 rfl fun a w33 ha hb2 hc34 _ => ?_
     have o1 : Ok [g30] ([g30] ++ (blkL ao7 ++ (M))) w29.heap.size := (fun _ h => .inl (ml h))
     have o2 : Ok ([g30] ++ (blkL ao7 ++ (M))) ([g30] ++ (blkL ao7 ++ (M))) w29.heap.size := (Ok.refl _ _)
     have f1 := f1.chg hc34 o1 o2
     have f7 := f7.chg hc34 o1 o2 (fun x (hx : x ∈ blkL ao7) (hy : x ∈ [g30]) => p_i32_i7 x hy hx) (fun _ h => mr (ml h))
     have hM : MS ([g30] ++ (blkL ao7 ++ (M))) w33 := (hM.chg hc34)
     have hC := hC.trans hc34 (fun x h => .inr (e_i32 x h))
     have hBg30 : Box w33 g30 (cS_api_Addr ((rd a0 x9).Group)) := hb2
     refine hK21 _ _ ?_; try clear hK21 K21
     refine wp_seq_k fun K35 hK35 => ?_
     refine wp_region_lit ?_
     refine seg ha 1 [(0, .slice ao1 a0.length cap1), (1, .string (bstr a1)), (5, .slice ao7 x8.length cap7), (6, .int .i64 x9), (7, .pointer (some ⟨g30, 0, none⟩)), (8, .int .i64 (0 : Int))] (by kernel_rfl) fun a ha => ?_
     refine hK35 _ _ ?_; try clear hK35 K35
     refine wp_seq_k fun K36 hK36 => ?_
     refine wp_block ?_
     obtain ⟨s37, H37, H⟩ := bind_some H
     have J37 : ∀ (a : Act) (wx37 : World), Has a Tryz.f13.ntmps [(0, .slice ao1 a0.length cap1), (1, .string (bstr a1)), (5, .slice ao7 x8.length cap7), (6, .int .i64 x9), (7, .pointer (some ⟨g30, 0, none⟩)), (8, .int .i64 s37)] → (RSl rS_api_Join 38 wx37 ([g30] ++ (blkL ao7 ++ (M))) ao1 cap1 a0) → (Own rS_api_Addr 25 wx37 ([g30] ++ (blkL ao7 ++ (M))) ao7 cap7 x8) → (Box wx37 g30 (cS_api_Addr ((rd a0 x9).Group))) → (Chg [] w wx37) → (MS ([g30] ++ (blkL ao7 ++ (M))) wx37) → K36 a wx37 := by
      intro a wx37 ha f1 f7 hBg30 hC hM
      refine hK36 _ _ ?_; try clear hK36 K36
      refine wp_seq_k fun K39 hK39 => ?_
      refine wp_seq_k fun K40 hK40 => ?_
      refine drq0 (fun w' => Chg [] wx37 w') (by kernel_rfl) (by kernel_rfl) (fun _ h => h) ?_
      obtain ⟨s41, H41, H⟩ := bind_some H
      have J41 : ∀ (a : Act) (w41 : World), Has a Tryz.f13.ntmps [(0, .slice ao1 a0.length cap1), (1, .string (bstr a1)), (5, .slice ao7 x8.length cap7), (6, .int .i64 x9), (7, .pointer (some ⟨g30, 0, none⟩)), (8, .int .i64 s37), (64, .bool s41)] → (RSl rS_api_Join 38 w41 ([g30] ++ (blkL ao7 ++ (M))) ao1 cap1 a0) → (Own rS_api_Addr 25 w41 ([g30] ++ (blkL ao7 ++ (M))) ao7 cap7 x8) → (Box w41 g30 (cS_api_Addr ((rd a0 x9).Group))) → (Chg [] w w41) → (MS ([g30] ++ (blkL ao7 ++ (M))) w41) → K40 a w41 := by
       intro a w41 ha f1 f7 hBg30 hC hM
       refine hK40 _ _ ?_; try clear hK40 K40
       refine cnd ha rfl (fun hc42 => ?_) (fun hc42 => ?_)
       ·have H := ite_t hc42 H
        refine wp_exit ?_
        simp only [Exit.then, Exit.inBlock, ↓reduceIte, Nat.reduceEqDiff]
        refine hK16 _ _ ?_; try clear hK16 K16
        refine wp_region_lit ?_
        refine seg ha 3 [(0, .slice ao1 a0.length cap1), (1, .string (bstr a1)), (5, .slice ao7 x8.length cap7), (6, .int .i64 (IntKind.i64.wrap (x9 + (1 : Int))))] (by kernel_rfl) fun a ha => ?_
        have o1 : Ok [] ([g30] ++ (blkL ao7 ++ (M))) w41.heap.size := Ok.nil _ _
        have o2 : Ok (blkL ao7 ++ (M)) ([g30] ++ (blkL ao7 ++ (M))) w41.heap.size := (fun _ h => .inl (mr (h)))
        have f1 := f1.chg (Chg.refl [] _) o1 o2
        have f7 := f7.chg (Chg.refl [] _) o1 o2 (fun _ _ h => nomatch h) (fun _ h => ml h)
        have hM : MS (blkL ao7 ++ (M)) w41 := (fun x h => hM.chg (Chg.refl [] _) x (mr (h)))
        exact ⟨kk, Nat.lt_succ_self _, ⟨x8, IntKind.i64.wrap (x9 + (1 : Int)), ao7, cap7, H, (ha.sel (by kernel_rfl)), f1, f7, e_i7, p_i7_M, hC, hM⟩⟩
       ·have H := ite_f hc42 H
        refine wp_skip ?_
        refine hK39 _ _ ?_; try clear hK39 K39
        refine wp_seq_k fun K43 hK43 => ?_
        refine wp_region_lit ?_
        refine seg ha 1 [(0, .slice ao1 a0.length cap1), (1, .string (bstr a1)), (5, .slice ao7 x8.length cap7), (6, .int .i64 x9), (7, .pointer (some ⟨g30, 0, none⟩)), (8, .int .i64 s37), (9, .slice none 0 0)] (by kernel_rfl) fun a ha => ?_
        refine hK43 _ _ ?_; try clear hK43 K43
        refine wp_seq_k fun K44 hK44 => ?_
        refine wp_region_lit ?_
        refine seg ha 3 [(0, .slice ao1 a0.length cap1), (1, .string (bstr a1)), (5, .slice ao7 x8.length cap7), (6, .int .i64 x9), (7, .pointer (some ⟨g30, 0, none⟩)), (8, .int .i64 s37), (65, .slice none 0 0), (66, .slice ao7 x8.length cap7), (67, .int .i64 s37)] (by kernel_rfl) fun a ha => ?_
        obtain ⟨⟨hx45, hx45', hx45''⟩, H⟩ := ite_some H
        have fz := f7.toRSl (M' := [g30] ++ (M)) (Ok.app (fun _ h => .inl (ml h)) (fun _ h => .inl (mr (mr (h))))) (fun x hx hm => (List.mem_append.1 hm).elim (fun h => (fun x hx hy => p_i32_i7 x hy hx) x hx h) (fun h => p_i7_M x hx h))
        have o1 : Ok [] ([g30] ++ (blkL ao7 ++ (M))) w41.heap.size := Ok.nil _ _
        have o2 : Ok ([g30] ++ (M)) ([g30] ++ (blkL ao7 ++ (M))) w41.heap.size := (Ok.app (fun _ h => .inl (ml h)) (fun _ h => .inl (mr (mr (h)))))
        have f1 := f1.chg (Chg.refl [] _) o1 o2
        have hM : MS ([g30] ++ (M)) w41 := (MS.app (fun x h => hM.chg (Chg.refl [] _) x (ml h)) (fun x h => hM.chg (Chg.refl [] _) x (mr (mr (h)))))
        have f7 := fz
        refine slc (r := rS_api_Addr) (l := (0 : Int)) (h := s37) ha (by kernel_rfl) (by kernel_rfl) rfl rfl rfl rfl rfl rfl f7 hx45 hx45' hx45'' fun a ao46 cap46 f46 ha => ?_
        obtain ⟨hx47, H⟩ := ite_some H
        refine app (r := rS_api_Addr) (xs := ([] : List S_api_Addr)) (ys := ((x8.take (Int.toNat s37)).drop (Int.toNat (0 : Int)))) ha (ElemT.mk' (bytes := 24) (by kernel_rfl)) rfl rfl rfl rfl rfl Own.nil f46.src hx47 (by decide) fun a w48 ao49 cap49 hO49 hc49 hk49 hl49 ha => ?_
        have o1 : Ok [] ([g30] ++ (M)) w41.heap.size := Ok.nil _ _
        have o2 : Ok (blkL ao49 ++ ([g30] ++ (M))) ([g30] ++ (M)) w41.heap.size := (Ok.app (Ok.to hk49 (fun _ h => nomatch h)) (Ok.refl _ _))
        have f1 := f1.chg hc49 o1 o2
        have f7 := f7.chg hc49 o1 o2
        have f46 := f46.chg hc49 o1 o2
        have hBg30 := hBg30.chg hc49 (fun h => nomatch h)
        have p_i49_i32 : ∀ x ∈ blkL ao49, x ∉ ([g30]) := fun x hx hy => absurd (hM x (ml hy)) (Nat.not_lt.2 ((fun x h => (hk49 x h).elim (fun h => nomatch h) id) x hx))
        have p_i49_M : ∀ x ∈ blkL ao49, x ∉ M := fun x hx hy => absurd (hM x (mr (hy))) (Nat.not_lt.2 ((fun x h => (hk49 x h).elim (fun h => nomatch h) id) x hx))
        have e_i49 : ∀ x ∈ blkL ao49, w.heap.size ≤ x := fun x hx => Nat.le_trans hC.size ((fun x h => (hk49 x h).elim (fun h => nomatch h) id) x hx)
        have hM : MS (blkL ao49 ++ ([g30] ++ (M))) w48 := (MS.app hl49 (hM.chg hc49))
        have hC := hC.trans hc49 (Ok.nil _ _)
        have f49 := hO49.chg (M' := blkL ao49 ++ ([g30] ++ (M))) (Chg.refl [] _) (Ok.nil _ _) (Ok.app (fun _ h => .inl (ml h)) (Ok.to (Ok.refl _ _) (fun _ h => mr h))) (fun _ _ h => nomatch h) (fun _ h => ml h)
        refine seg ha 1 [(0, .slice ao1 a0.length cap1), (1, .string (bstr a1)), (5, .slice ao7 x8.length cap7), (6, .int .i64 x9), (7, .pointer (some ⟨g30, 0, none⟩)), (8, .int .i64 s37), (9, .slice ao49 (([] : List S_api_Addr) ++ ((x8.take (Int.toNat s37)).drop (Int.toNat (0 : Int)))).length cap49)] (by kernel_rfl) fun a ha => ?_
        refine hK44 _ _ ?_; try clear hK44 K44
        refine wp_seq_k fun K50 hK50 => ?_
        refine wp_region_lit ?_
        refine seg ha 1 [(0, .slice ao1 a0.length cap1), (1, .string (bstr a1)), (5, .slice ao7 x8.length cap7), (6, .int .i64 x9), (7, .pointer (some ⟨g30, 0, none⟩)), (8, .int .i64 s37), (70, .slice ao49 (([] : List S_api_Addr) ++ ((x8.take (Int.toNat s37)).drop (Int.toNat (0 : Int)))).length cap49)] (by kernel_rfl) fun a ha => ?_
        refine ldA (cs := (cS_api_Addr ((rd a0 x9).Group))) ha rfl (by kernel_rfl) rfl rfl rfl (cells_sub (Box.cells hBg30) (all := (cS_api_Addr ((rd a0 x9).Group))) [] [] (by kernel_rfl)) fun a ha => ?_
        refine bslA (vals := ([.agg (cS_api_Addr ((rd a0 x9).Group)).toArray] : List Value)) (T := 25) (z := .agg (cS_api_Addr (⟨(0 : Int), (List.replicate 16 (0 : Int))⟩ : S_api_Addr)).toArray) ha rfl (by kernel_rfl) rfl (by kernel_rfl) (s := 17) (by kernel_rfl) rfl rfl (fun w => by kernel_rfl) (by kernel_rfl) rfl rfl rfl fun a w51 g52 hN53 ha => ?_
        have hN53 := (show New _ _ _ (.cells (((cS_api_Addr ((rd a0 x9).Group)) ++ ([] : List Value))).toArray 25 (0, 0)) from hN53)
        have o1 : Ok [] (blkL ao49 ++ ([g30] ++ (M))) w48.heap.size := Ok.nil _ _
        have o2 : Ok ([g52] ++ (blkL ao49 ++ ([g30] ++ (M)))) (blkL ao49 ++ ([g30] ++ (M))) w48.heap.size := (Ok.app (hN53.ok _) (Ok.refl _ _))
        have f1 := f1.chg hN53.chg o1 o2
        have f7 := f7.chg hN53.chg o1 o2
        have f49 := f49.chg hN53.chg o1 o2 (fun _ _ h => nomatch h) (fun _ h => mr (ml h))
        have hBg30 := hBg30.chg hN53.chg (fun h => nomatch h)
        have p_i54_i49 : ∀ x ∈ [g52], x ∉ (blkL ao49) := fun x hx hy => absurd (hM x (ml hy)) (Nat.not_lt.2 ((hN53.ge1) x hx))
        have p_i54_i32 : ∀ x ∈ [g52], x ∉ ([g30]) := fun x hx hy => absurd (hM x (mr (ml hy))) (Nat.not_lt.2 ((hN53.ge1) x hx))
        have p_i54_M : ∀ x ∈ [g52], x ∉ M := fun x hx hy => absurd (hM x (mr (mr (hy)))) (Nat.not_lt.2 ((hN53.ge1) x hx))
        have e_i54 : ∀ x ∈ [g52], w.heap.size ≤ x := fun x hx => Nat.le_trans hC.size ((hN53.ge1) x hx)
        have hM : MS ([g52] ++ (blkL ao49 ++ ([g30] ++ (M)))) w51 := (MS.app hN53.ms (hM.chg hN53.chg))
        have hC := hC.trans hN53.chg (Ok.nil _ _)
        have f55 : Own rS_api_Addr 25 w51 ([g52] ++ (blkL ao49 ++ ([g30] ++ (M)))) (some ⟨g52, 0, none⟩) 1 ([((rd a0 x9).Group)] : List S_api_Addr) := hN53.own ⟨(cS_api_Addr ((rd a0 x9).Group)), _, rfl, (rS_api_Addr.mk ((rd a0 x9).Group)), rfl⟩ (Nat.le_of_ble_eq_true rfl)
        obtain ⟨hx56, H⟩ := ite_some H
        refine app (r := rS_api_Addr) (xs := (([] : List S_api_Addr) ++ ((x8.take (Int.toNat s37)).drop (Int.toNat (0 : Int))))) (ys := ([((rd a0 x9).Group)] : List S_api_Addr)) ha (ElemT.mk' (bytes := 24) (by kernel_rfl)) rfl rfl rfl rfl rfl f49 f55.src hx56 (by decide) fun a w57 ao58 cap58 hO58 hc58 hk58 hl58 ha => ?_
        have o1 : Ok (blkL ao49) ([g52] ++ (blkL ao49 ++ ([g30] ++ (M)))) w51.heap.size := (fun _ h => .inl (mr (ml h)))
        have o2 : Ok (blkL ao58 ++ ([g52] ++ ([g30] ++ (M)))) ([g52] ++ (blkL ao49 ++ ([g30] ++ (M)))) w51.heap.size := (Ok.app (Ok.to hk58 (fun _ h => mr (ml h))) (Ok.app (fun _ h => .inl (ml h)) (fun _ h => .inl (mr (mr (h))))))
        have f1 := f1.chg hc58 o1 o2
        have f7 := f7.chg hc58 o1 o2
        have f55 := f55.chg hc58 o1 o2 p_i54_i49 (fun _ h => mr (ml h))
        have hBg30 := hBg30.chg hc58 ((fun x (hx : x ∈ [g30]) (hy : x ∈ blkL ao49) => p_i49_i32 x hy hx) g30 (by simp))
        have p_i58_i54 : ∀ x ∈ blkL ao58, x ∉ ([g52]) := fun x hx hy => (hk58 x hx).elim (fun h => (fun x hx hy => p_i54_i49 x hy hx) x h hy) (fun h => absurd (hM x (ml hy)) (Nat.not_lt.2 h))
        have p_i58_i32 : ∀ x ∈ blkL ao58, x ∉ ([g30]) := fun x hx hy => (hk58 x hx).elim (fun h => p_i49_i32 x h hy) (fun h => absurd (hM x (mr (mr (ml hy)))) (Nat.not_lt.2 h))
        have p_i58_M : ∀ x ∈ blkL ao58, x ∉ M := fun x hx hy => (hk58 x hx).elim (fun h => p_i49_M x h hy) (fun h => absurd (hM x (mr (mr (mr (hy))))) (Nat.not_lt.2 h))
        have e_i58 : ∀ x ∈ blkL ao58, w.heap.size ≤ x := fun x hx => (hk58 x hx).elim (e_i49 x) (Nat.le_trans hC.size)
        have hM : MS (blkL ao58 ++ ([g52] ++ ([g30] ++ (M)))) w57 := (MS.app hl58 (MS.app (fun x h => hM.chg hc58 x (ml h)) (fun x h => hM.chg hc58 x (mr (mr (h))))))
        have hC := hC.trans hc58 (fun x h => .inr (e_i49 x h))
        have f58 := hO58.chg (M' := blkL ao58 ++ ([g52] ++ ([g30] ++ (M)))) (Chg.refl [] _) (Ok.nil _ _) (Ok.app (fun _ h => .inl (ml h)) (Ok.to (Ok.app (fun _ h => .inl (ml h)) (fun _ h => .inl (mr (mr (h))))) (fun _ h => mr h))) (fun _ _ h => nomatch h) (fun _ h => ml h)
        refine seg ha 1 [(0, .slice ao1 a0.length cap1), (1, .string (bstr a1)), (5, .slice ao7 x8.length cap7), (6, .int .i64 x9), (8, .int .i64 s37), (9, .slice ao58 ((([] : List S_api_Addr) ++ ((x8.take (Int.toNat s37)).drop (Int.toNat (0 : Int)))) ++ ([((rd a0 x9).Group)] : List S_api_Addr)).length cap58)] (by kernel_rfl) fun a ha => ?_
        refine hK50 _ _ ?_; try clear hK50 K50
        refine wp_region_lit ?_
        refine seg ha 3 [(0, .slice ao1 a0.length cap1), (1, .string (bstr a1)), (6, .int .i64 x9), (74, .slice ao58 ((([] : List S_api_Addr) ++ ((x8.take (Int.toNat s37)).drop (Int.toNat (0 : Int)))) ++ ([((rd a0 x9).Group)] : List S_api_Addr)).length cap58), (75, .slice ao7 x8.length cap7), (76, .int .i64 s37)] (by kernel_rfl) fun a ha => ?_
        obtain ⟨⟨hx59, hx59', hx59''⟩, H⟩ := ite_some H
        refine slc (r := rS_api_Addr) (l := s37) (h := (x8.length : Int)) ha (by kernel_rfl) (by kernel_rfl) rfl rfl rfl rfl rfl rfl f7 hx59 hx59' hx59'' fun a ao60 cap60 f60 ha => ?_
        obtain ⟨hx61, H⟩ := ite_some H
        refine app (r := rS_api_Addr) (xs := ((([] : List S_api_Addr) ++ ((x8.take (Int.toNat s37)).drop (Int.toNat (0 : Int)))) ++ ([((rd a0 x9).Group)] : List S_api_Addr))) (ys := ((x8.take (Int.toNat (x8.length : Int))).drop (Int.toNat s37))) ha (ElemT.mk' (bytes := 24) (by kernel_rfl)) rfl rfl rfl rfl rfl f58 f60.src hx61 (by decide) fun a w62 ao63 cap63 hO63 hc63 hk63 hl63 ha => ?_
        have o1 : Ok (blkL ao58) (blkL ao58 ++ ([g52] ++ ([g30] ++ (M)))) w57.heap.size := (fun _ h => .inl (ml h))
        have o2 : Ok (blkL ao63 ++ ([g52] ++ ([g30] ++ (M)))) (blkL ao58 ++ ([g52] ++ ([g30] ++ (M)))) w57.heap.size := (Ok.app (Ok.to hk63 (fun _ h => ml h)) (fun _ h => .inl (mr (h))))
        have f1 := f1.chg hc63 o1 o2
        have f60 := f60.chg hc63 o1 o2
        have hBg30 := hBg30.chg hc63 ((fun x (hx : x ∈ [g30]) (hy : x ∈ blkL ao58) => p_i58_i32 x hy hx) g30 (by simp))
        have p_i63_i54 : ∀ x ∈ blkL ao63, x ∉ ([g52]) := fun x hx hy => (hk63 x hx).elim (fun h => p_i58_i54 x h hy) (fun h => absurd (hM x (mr (ml hy))) (Nat.not_lt.2 h))
        have p_i63_i32 : ∀ x ∈ blkL ao63, x ∉ ([g30]) := fun x hx hy => (hk63 x hx).elim (fun h => p_i58_i32 x h hy) (fun h => absurd (hM x (mr (mr (ml hy)))) (Nat.not_lt.2 h))
        have p_i63_M : ∀ x ∈ blkL ao63, x ∉ M := fun x hx hy => (hk63 x hx).elim (fun h => p_i58_M x h hy) (fun h => absurd (hM x (mr (mr (mr (hy))))) (Nat.not_lt.2 h))
        have e_i63 : ∀ x ∈ blkL ao63, w.heap.size ≤ x := fun x hx => (hk63 x hx).elim (e_i58 x) (Nat.le_trans hC.size)
        have hM : MS (blkL ao63 ++ ([g52] ++ ([g30] ++ (M)))) w62 := (MS.app hl63 (fun x h => hM.chg hc63 x (mr (h))))
        have hC := hC.trans hc63 (fun x h => .inr (e_i58 x h))
        have f63 := hO63.chg (M' := blkL ao63 ++ ([g52] ++ ([g30] ++ (M)))) (Chg.refl [] _) (Ok.nil _ _) (Ok.app (fun _ h => .inl (ml h)) (Ok.to (fun _ h => .inl (mr (h))) (fun _ h => mr h))) (fun _ _ h => nomatch h) (fun _ h => ml h)
        refine seg ha 1 [(0, .slice ao1 a0.length cap1), (1, .string (bstr a1)), (5, .slice ao63 (((([] : List S_api_Addr) ++ ((x8.take (Int.toNat s37)).drop (Int.toNat (0 : Int)))) ++ ([((rd a0 x9).Group)] : List S_api_Addr)) ++ ((x8.take (Int.toNat (x8.length : Int))).drop (Int.toNat s37))).length cap63), (6, .int .i64 x9)] (by kernel_rfl) fun a ha => ?_
        refine hK16 _ _ ?_; try clear hK16 K16
        refine wp_region_lit ?_
        refine seg ha 3 [(0, .slice ao1 a0.length cap1), (1, .string (bstr a1)), (5, .slice ao63 (((([] : List S_api_Addr) ++ ((x8.take (Int.toNat s37)).drop (Int.toNat (0 : Int)))) ++ ([((rd a0 x9).Group)] : List S_api_Addr)) ++ ((x8.take (Int.toNat (x8.length : Int))).drop (Int.toNat s37))).length cap63), (6, .int .i64 (IntKind.i64.wrap (x9 + (1 : Int))))] (by kernel_rfl) fun a ha => ?_
        have o1 : Ok [] (blkL ao63 ++ ([g52] ++ ([g30] ++ (M)))) w62.heap.size := Ok.nil _ _
        have o2 : Ok (blkL ao63 ++ (M)) (blkL ao63 ++ ([g52] ++ ([g30] ++ (M)))) w62.heap.size := (Ok.app (fun _ h => .inl (ml h)) (fun _ h => .inl (mr (mr (mr (h))))))
        have f1 := f1.chg (Chg.refl [] _) o1 o2
        have f63 := f63.chg (Chg.refl [] _) o1 o2 (fun _ _ h => nomatch h) (fun _ h => ml h)
        have hM : MS (blkL ao63 ++ (M)) w62 := (MS.app (fun x h => hM.chg (Chg.refl [] _) x (ml h)) (fun x h => hM.chg (Chg.refl [] _) x (mr (mr (mr (h))))))
        exact ⟨kk, Nat.lt_succ_self _, ⟨(((([] : List S_api_Addr) ++ ((x8.take (Int.toNat s37)).drop (Int.toNat (0 : Int)))) ++ ([((rd a0 x9).Group)] : List S_api_Addr)) ++ ((x8.take (Int.toNat (x8.length : Int))).drop (Int.toNat s37))), IntKind.i64.wrap (x9 + (1 : Int)), ao63, cap63, H, (ha.sel (by kernel_rfl)), f1, f63, e_i63, p_i63_M, hC, hM⟩⟩
      have H := H41
      refine qp 0 (.int .i64 s37) ha rfl rfl rfl (by kernel_rfl) fun a ha => ?_
      refine qp 0 (.slice ao7 x8.length cap7) ha rfl rfl rfl (by kernel_rfl) fun a ha => ?_
      refine qp 0 (.int .i64 (x8.length : Int)) ha rfl rfl rfl (by kernel_rfl) fun a ha => ?_
      refine qp 0 (.bool (decide (s37 < (x8.length : Int)))) ha rfl rfl rfl (by kernel_rfl) fun a ha => ?_
      refine qp 0 (.bool (decide (s37 < (x8.length : Int)))) ha rfl rfl rfl (by kernel_rfl) fun a ha => ?_
      have ha := ha.sel (env' := [(56, .bool (decide (s37 < (x8.length : Int)))), (0, .slice ao1 a0.length cap1), (1, .string (bstr a1)), (5, .slice ao7 x8.length cap7), (6, .int .i64 x9), (7, .pointer (some ⟨g30, 0, none⟩)), (8, .int .i64 s37)]) (by kernel_rfl)
      rcases Bool.eq_false_or_eq_true (decide (s37 < (x8.length : Int))) with hb64 | hb64
      ·have ha := ha.lit hb64
       have H := ite_t hb64 H
       refine qp 0 (.slice ao7 x8.length cap7) ha rfl rfl rfl (by kernel_rfl) fun a ha => ?_
       refine qp 0 (.int .i64 s37) ha rfl rfl rfl (by kernel_rfl) fun a ha => ?_
       obtain ⟨⟨hx65, hx65'⟩, H⟩ := ite_some H
       obtain ⟨ge66, oe670, cs68, hx65eq, hn71, hR69, hE70⟩ := RSl.elem (Own.toRSl (M' := []) f7 (Ok.nil _ _) (fun _ _ h => nomatch h)) (Int.toNat s37) (by omega)
       rw [rd_get] at hR69
       obtain rfl := rS_api_Addr.open hR69
       refine qv (v := .pointer (some ⟨ge66, (oe670 + (Int.toNat s37) * rS_api_Addr.sz), none⟩)) ha rfl rfl rfl (fun w' hs => ix_run (r := rS_api_Addr) (T := 25) ha (by kernel_rfl) (by kernel_rfl) (by rfl) (by rfl) hx65eq hx65 hx65') fun a ha => ?_
       refine qv (v := .agg (cS_api_Addr (rd x8 s37)).toArray) ha rfl rfl rfl (fun w' hs => ldA_run (cs := (cS_api_Addr (rd x8 s37))) ha rfl (by kernel_rfl) (cells_sub (fun j v hv => hs.keep (hE70 j v hv)) (all := (cS_api_Addr (rd x8 s37))) [] [] (by kernel_rfl))) fun a ha => ?_
       refine qv (v := .agg (cS_api_Addr ((rd a0 x9).Group)).toArray) ha rfl rfl rfl (fun w' hs => ldA_run (cs := (cS_api_Addr ((rd a0 x9).Group))) ha rfl (by kernel_rfl) (cells_sub (Box.cells (Box.chg hBg30 hs (fun h => nomatch h))) (all := (cS_api_Addr ((rd a0 x9).Group))) [] [] (by kernel_rfl))) fun a ha => ?_
       obtain ⟨t72, H72, H⟩ := bind_some H
       refine qc (.int .i64 t72) ha (by rfl) (by kernel_rfl) (by rfl) (by rfl) (by rfl) (fun w' hs => (vineryref02_Compare.walk w' [] (MS.nil _) (rd x8 s37) ((rd a0 x9).Group) k _ H72).mono fun v w'' ⟨hv, hc, _⟩ => ⟨hv, hs.trans hc (Ok.nil _ _)⟩) fun a ha => ?_
       refine qp 0 (.bool (t72 == (0 : Int))) ha rfl rfl rfl (by kernel_rfl) fun a ha => ?_
       refine qp 3 (.bool (t72 == (0 : Int))) ha rfl rfl rfl (by kernel_rfl) fun a ha => ?_
       refine wpQuiet_nil ?_
       intro w73 hc74
       have o1 : Ok [] ([g30] ++ (blkL ao7 ++ (M))) wx37.heap.size := Ok.nil _ _
       have o2 : Ok ([g30] ++ (blkL ao7 ++ (M))) ([g30] ++ (blkL ao7 ++ (M))) wx37.heap.size := (Ok.refl _ _)
       have f1 := f1.chg hc74 o1 o2
       have f7 := f7.chg hc74 o1 o2 (fun _ _ h => nomatch h) (fun _ h => mr (ml h))
       have hBg30 := hBg30.chg hc74 (fun h => nomatch h)
       have hM : MS ([g30] ++ (blkL ao7 ++ (M))) w73 := (hM.chg hc74)
       have hC := hC.trans hc74 (Ok.nil _ _)
       refine wpl_end ?_
       obtain rfl := Option.some.inj H
       exact J41 _ _ (ha.sel (by kernel_rfl)) f1 f7 hBg30 hC hM
      ·have ha := ha.lit hb64
       have H := ite_f hb64 H
       refine qo ha rfl rfl rfl fun a ha => ?_
       refine qo ha rfl rfl rfl fun a ha => ?_
       refine qo ha rfl rfl rfl fun a ha => ?_
       refine qo ha rfl rfl rfl fun a ha => ?_
       refine qo ha rfl rfl rfl fun a ha => ?_
       refine qo ha rfl rfl rfl fun a ha => ?_
       refine qo ha rfl rfl rfl fun a ha => ?_
       refine qp 4 (.bool false) ha rfl rfl rfl (by kernel_rfl) fun a ha => ?_
       refine wpQuiet_nil ?_
       intro w75 hc76
       have o1 : Ok [] ([g30] ++ (blkL ao7 ++ (M))) wx37.heap.size := Ok.nil _ _
       have o2 : Ok ([g30] ++ (blkL ao7 ++ (M))) ([g30] ++ (blkL ao7 ++ (M))) wx37.heap.size := (Ok.refl _ _)
       have f1 := f1.chg hc76 o1 o2
       have f7 := f7.chg hc76 o1 o2 (fun _ _ h => nomatch h) (fun _ h => mr (ml h))
       have hBg30 := hBg30.chg hc76 (fun h => nomatch h)
       have hM : MS ([g30] ++ (blkL ao7 ++ (M))) w75 := (hM.chg hc76)
       have hC := hC.trans hc76 (Ok.nil _ _)
       refine wpl_end ?_
       obtain rfl := Option.some.inj H
       exact J41 _ _ (ha.sel (by kernel_rfl)) f1 f7 hBg30 hC hM
     have Hc37 := H
     have H := H37
     refine wp_loop_ghost (fun kk a w37 => ∃ (x38 : Int), vineryref20_Groups.l1 k a0 x8 x9 kk x38 = some s37 ∧ Has a Tryz.f13.ntmps [(0, .slice ao1 a0.length cap1), (1, .string (bstr a1)), (5, .slice ao7 x8.length cap7), (6, .int .i64 x9), (7, .pointer (some ⟨g30, 0, none⟩)), (8, .int .i64 x38)] ∧ (RSl rS_api_Join 38 w37 ([g30] ++ (blkL ao7 ++ (M))) ao1 cap1 a0) ∧ (Own rS_api_Addr 25 w37 ([g30] ++ (blkL ao7 ++ (M))) ao7 cap7 x8) ∧ (Box w37 g30 (cS_api_Addr ((rd a0 x9).Group))) ∧ (Chg [] w w37) ∧ (MS ([g30] ++ (blkL ao7 ++ (M))) w37)) k ?_ ?_
     ·skip
      exact ⟨(0 : Int), H, (ha.sel (by kernel_rfl)), f1, f7, hBg30, hC, hM⟩
     ·rintro kk a w37 ⟨x38, H, ha, f1, f7, hBg30, hC, hM⟩
      obtain _ | kk := kk
      ·exact nomatch (show none = some _ from H)
      rw [vineryref20_Groups.l1] at H
      refine wp_seq_k fun K77 hK77 => ?_
      refine wp_seq_k fun K78 hK78 => ?_
      refine drq0 (fun w' => Chg [] w37 w') (by kernel_rfl) (by kernel_rfl) (fun _ h => h) ?_
      obtain ⟨s79, H79, H⟩ := bind_some H
      have J79 : ∀ (a : Act) (w79 : World), Has a Tryz.f13.ntmps [(0, .slice ao1 a0.length cap1), (1, .string (bstr a1)), (5, .slice ao7 x8.length cap7), (6, .int .i64 x9), (7, .pointer (some ⟨g30, 0, none⟩)), (8, .int .i64 x38), (49, .bool s79)] → (RSl rS_api_Join 38 w79 ([g30] ++ (blkL ao7 ++ (M))) ao1 cap1 a0) → (Own rS_api_Addr 25 w79 ([g30] ++ (blkL ao7 ++ (M))) ao7 cap7 x8) → (Box w79 g30 (cS_api_Addr ((rd a0 x9).Group))) → (Chg [] w w79) → (MS ([g30] ++ (blkL ao7 ++ (M))) w79) → K78 a w79 := by
       intro a w79 ha f1 f7 hBg30 hC hM
       refine hK78 _ _ ?_; try clear hK78 K78
       refine cnd ha rfl (fun hc80 => ?_) (fun hc80 => ?_)
       ·have H := ite_t hc80 H
        refine wp_skip ?_
        refine hK77 _ _ ?_; try clear hK77 K77
        refine wp_block ?_
        refine wp_region_lit ?_
        refine seg ha 3 [(0, .slice ao1 a0.length cap1), (1, .string (bstr a1)), (5, .slice ao7 x8.length cap7), (6, .int .i64 x9), (7, .pointer (some ⟨g30, 0, none⟩)), (8, .int .i64 (IntKind.i64.wrap (x38 + (1 : Int))))] (by kernel_rfl) fun a ha => ?_
        exact ⟨kk, Nat.lt_succ_self _, ⟨IntKind.i64.wrap (x38 + (1 : Int)), H, (ha.sel (by kernel_rfl)), f1, f7, hBg30, hC, hM⟩⟩
       ·have H := ite_f hc80 H
        refine wp_exit ?_
        simp only [Exit.then, Exit.inBlock, ↓reduceIte, Nat.reduceEqDiff]
        obtain rfl := Option.some.inj H
        exact J37 _ _ (ha.sel (by kernel_rfl)) f1 f7 hBg30 hC hM
      have H := H79
      refine qp 0 (.int .i64 x38) ha rfl rfl rfl (by kernel_rfl) fun a ha => ?_
      refine qp 0 (.slice ao7 x8.length cap7) ha rfl rfl rfl (by kernel_rfl) fun a ha => ?_
      refine qp 0 (.int .i64 (x8.length : Int)) ha rfl rfl rfl (by kernel_rfl) fun a ha => ?_
      refine qp 0 (.bool (decide (x38 < (x8.length : Int)))) ha rfl rfl rfl (by kernel_rfl) fun a ha => ?_
      refine qp 0 (.bool (decide (x38 < (x8.length : Int)))) ha rfl rfl rfl (by kernel_rfl) fun a ha => ?_
      have ha := ha.sel (env' := [(41, .bool (decide (x38 < (x8.length : Int)))), (0, .slice ao1 a0.length cap1), (1, .string (bstr a1)), (5, .slice ao7 x8.length cap7), (6, .int .i64 x9), (7, .pointer (some ⟨g30, 0, none⟩)), (8, .int .i64 x38)]) (by kernel_rfl)
      rcases Bool.eq_false_or_eq_true (decide (x38 < (x8.length : Int))) with hb81 | hb81
      ·have ha := ha.lit hb81
       have H := ite_t hb81 H
       refine qp 0 (.slice ao7 x8.length cap7) ha rfl rfl rfl (by kernel_rfl) fun a ha => ?_
       refine qp 0 (.int .i64 x38) ha rfl rfl rfl (by kernel_rfl) fun a ha => ?_
       obtain ⟨⟨hx82, hx82'⟩, H⟩ := ite_some H
       obtain ⟨ge83, oe840, cs85, hx82eq, hn88, hR86, hE87⟩ := RSl.elem (Own.toRSl (M' := []) f7 (Ok.nil _ _) (fun _ _ h => nomatch h)) (Int.toNat x38) (by omega)
       rw [rd_get] at hR86
       obtain rfl := rS_api_Addr.open hR86
       refine qv (v := .pointer (some ⟨ge83, (oe840 + (Int.toNat x38) * rS_api_Addr.sz), none⟩)) ha rfl rfl rfl (fun w' hs => ix_run (r := rS_api_Addr) (T := 25) ha (by kernel_rfl) (by kernel_rfl) (by rfl) (by rfl) hx82eq hx82 hx82') fun a ha => ?_
       refine qv (v := .agg (cS_api_Addr (rd x8 x38)).toArray) ha rfl rfl rfl (fun w' hs => ldA_run (cs := (cS_api_Addr (rd x8 x38))) ha rfl (by kernel_rfl) (cells_sub (fun j v hv => hs.keep (hE87 j v hv)) (all := (cS_api_Addr (rd x8 x38))) [] [] (by kernel_rfl))) fun a ha => ?_
       refine qv (v := .agg (cS_api_Addr ((rd a0 x9).Group)).toArray) ha rfl rfl rfl (fun w' hs => ldA_run (cs := (cS_api_Addr ((rd a0 x9).Group))) ha rfl (by kernel_rfl) (cells_sub (Box.cells (Box.chg hBg30 hs (fun h => nomatch h))) (all := (cS_api_Addr ((rd a0 x9).Group))) [] [] (by kernel_rfl))) fun a ha => ?_
       obtain ⟨t89, H89, H⟩ := bind_some H
       refine qc (.int .i64 t89) ha (by rfl) (by kernel_rfl) (by rfl) (by rfl) (by rfl) (fun w' hs => (vineryref02_Compare.walk w' [] (MS.nil _) (rd x8 x38) ((rd a0 x9).Group) k _ H89).mono fun v w'' ⟨hv, hc, _⟩ => ⟨hv, hs.trans hc (Ok.nil _ _)⟩) fun a ha => ?_
       refine qp 0 (.bool (decide (t89 < (0 : Int)))) ha rfl rfl rfl (by kernel_rfl) fun a ha => ?_
       refine qp 3 (.bool (decide (t89 < (0 : Int)))) ha rfl rfl rfl (by kernel_rfl) fun a ha => ?_
       refine wpQuiet_nil ?_
       intro w90 hc91
       have o1 : Ok [] ([g30] ++ (blkL ao7 ++ (M))) w37.heap.size := Ok.nil _ _
       have o2 : Ok ([g30] ++ (blkL ao7 ++ (M))) ([g30] ++ (blkL ao7 ++ (M))) w37.heap.size := (Ok.refl _ _)
       have f1 := f1.chg hc91 o1 o2
       have f7 := f7.chg hc91 o1 o2 (fun _ _ h => nomatch h) (fun _ h => mr (ml h))
       have hBg30 := hBg30.chg hc91 (fun h => nomatch h)
       have hM : MS ([g30] ++ (blkL ao7 ++ (M))) w90 := (hM.chg hc91)
       have hC := hC.trans hc91 (Ok.nil _ _)
       refine wpl_end ?_
       obtain rfl := Option.some.inj H
       exact J79 _ _ (ha.sel (by kernel_rfl)) f1 f7 hBg30 hC hM
      ·have ha := ha.lit hb81
       have H := ite_f hb81 H
       refine qo ha rfl rfl rfl fun a ha => ?_
       refine qo ha rfl rfl rfl fun a ha => ?_
       refine qo ha rfl rfl rfl fun a ha => ?_
       refine qo ha rfl rfl rfl fun a ha => ?_
       refine qo ha rfl rfl rfl fun a ha => ?_
       refine qo ha rfl rfl rfl fun a ha => ?_
       refine qo ha rfl rfl rfl fun a ha => ?_
       refine qp 4 (.bool false) ha rfl rfl rfl (by kernel_rfl) fun a ha => ?_
       refine wpQuiet_nil ?_
       intro w92 hc93
       have o1 : Ok [] ([g30] ++ (blkL ao7 ++ (M))) w37.heap.size := Ok.nil _ _
       have o2 : Ok ([g30] ++ (blkL ao7 ++ (M))) ([g30] ++ (blkL ao7 ++ (M))) w37.heap.size := (Ok.refl _ _)
       have f1 := f1.chg hc93 o1 o2
       have f7 := f7.chg hc93 o1 o2 (fun _ _ h => nomatch h) (fun _ h => mr (ml h))
       have hBg30 := hBg30.chg hc93 (fun h => nomatch h)
       have hM : MS ([g30] ++ (blkL ao7 ++ (M))) w92 := (hM.chg hc93)
       have hC := hC.trans hc93 (Ok.nil _ _)
       refine wpl_end ?_
       obtain rfl := Option.some.inj H
       exact J79 _ _ (ha.sel (by kernel_rfl)) f1 f7 hBg30 hC hM
   have H := H19
   refine seg ha 2 [(0, .slice ao1 a0.length cap1), (1, .string (bstr a1)), (5, .slice ao7 x8.length cap7), (6, .int .i64 x9), (16, .slice ao1 a0.length cap1), (17, .int .i64 x9)] (by kernel_rfl) fun a ha => ?_
   obtain ⟨⟨hx94, hx94'⟩, H⟩ := ite_some H
   refine ix (r := rS_api_Join) ha (by kernel_rfl) (by kernel_rfl) rfl rfl rfl rfl rfl f1 hx94 hx94' fun a ge95 oe96 cs97 hn100 hR98 hE99 ha => ?_
   rw [rd_get] at hR98
   obtain rfl := rS_api_Join.open hR98
   refine seg ha 1 [(0, .slice ao1 a0.length cap1), (1, .string (bstr a1)), (5, .slice ao7 x8.length cap7), (6, .int .i64 x9), (19, .pointer (some ⟨ge95, oe96, none⟩))] (by kernel_rfl) fun a ha => ?_
   refine ld ha rfl (by kernel_rfl) rfl rfl rfl (hE99 0 (.string (bstr ((rd a0 x9).Vrf))) (by kernel_rfl)) fun a ha => ?_
   refine seg ha 3 [(23, .bool (!((bstr ((rd a0 x9).Vrf)).toList == (bstr a1).toList))), (0, .slice ao1 a0.length cap1), (1, .string (bstr a1)), (5, .slice ao7 x8.length cap7), (6, .int .i64 x9)] (by kernel_rfl) fun a ha => ?_
   rcases Bool.eq_false_or_eq_true (!((bstr ((rd a0 x9).Vrf)).toList == (bstr a1).toList)) with hb101 | hb101
   ·have ha := ha.lit hb101
    have H := ite_t hb101 H
    refine sgh ha 8 [1, 1, 1, 1, 1, 1, 1, 3] [(0, .slice ao1 a0.length cap1), (1, .string (bstr a1)), (5, .slice ao7 x8.length cap7), (6, .int .i64 x9), (31, .bool true)] (by kernel_rfl) fun a ha => ?_
    obtain rfl := Option.some.inj H
    exact J19 _ _ (ha.sel (by kernel_rfl)) f1 f7 hC hM
   ·have ha := ha.lit hb101
    have H := ite_f hb101 H
    refine sgh ha 2 [2, 2] [(0, .slice ao1 a0.length cap1), (1, .string (bstr a1)), (5, .slice ao7 x8.length cap7), (6, .int .i64 x9), (23, .bool false), (24, .slice ao1 a0.length cap1), (25, .int .i64 x9)] (by kernel_rfl) fun a ha => ?_
    obtain ⟨⟨hx102, hx102'⟩, H⟩ := ite_some H
    refine ix (r := rS_api_Join) ha (by kernel_rfl) (by kernel_rfl) rfl rfl rfl rfl rfl f1 hx102 hx102' fun a ge103 oe104 cs105 hn108 hR106 hE107 ha => ?_
    rw [rd_get] at hR106
    obtain rfl := rS_api_Join.open hR106
    refine sgh ha 2 [2, 2] [(0, .slice ao1 a0.length cap1), (1, .string (bstr a1)), (5, .slice ao7 x8.length cap7), (6, .int .i64 x9), (23, .bool false), (28, .pointer (some ⟨ge103, oe104 + 2, none⟩))] (by kernel_rfl) fun a ha => ?_
    refine ld ha rfl (by kernel_rfl) rfl rfl rfl (hE107 2 (.int .i64 (((rd a0 x9).Source).Size)) (by kernel_rfl)) fun a ha => ?_
    refine sgh ha 2 [2, 4] [(0, .slice ao1 a0.length cap1), (1, .string (bstr a1)), (5, .slice ao7 x8.length cap7), (6, .int .i64 x9), (31, .bool ((((rd a0 x9).Source).Size) != (0 : Int)))] (by kernel_rfl) fun a ha => ?_
    obtain rfl := Option.some.inj H
    exact J19 _ _ (ha.sel (by kernel_rfl)) f1 f7 hC hM
  ·have H := ite_f hc15 H
   refine wp_exit ?_
   simp only [Exit.then, Exit.inBlock, ↓reduceIte, Nat.reduceEqDiff]
   obtain rfl := Option.some.inj H
   exact J6 _ _ ao7 cap7 (ha.sel (by kernel_rfl)) f7 e_i7 p_i7_M hC hM
def vineryref20_SameAddrs.l0 (a0 : List S_api_Addr) (a1 : List S_api_Addr) : Nat → Int → Option ((Bool) ⊕ (Unit))
  | 0, _ => none
  | kk + 1, x11 => (if (decide (x11 < (a0.length : Int))) = true then (if 0 ≤ x11 ∧ x11 < (a0.length : Int) then (if 0 ≤ x11 ∧ x11 < (a1.length : Int) then (if (!((((rd a0 x11).Size) == ((rd a1 x11).Size)) && ((eqA 16 ((rd a0 x11).B) ((rd a1 x11).B)) && true))) = true then some (.inl ((false : Bool))) else vineryref20_SameAddrs.l0 a0 a1 kk (IntKind.i64.wrap (x11 + (1 : Int)))) else none) else none) else some (.inr (() : Unit)))
def vineryref20_SameAddrs.f (k : Nat) (a0 : List S_api_Addr) (a1 : List S_api_Addr) : Option (Bool) := (if ((a0.length : Int) != (a1.length : Int)) = true then some ((false : Bool)) else (vineryref20_SameAddrs.l0 a0 a1 k (0 : Int)).bind fun s10 => match s10 with | .inl r => some r | .inr s10' => some ((true : Bool)))
set_option maxRecDepth 100000 in
theorem vineryref20_SameAddrs.walk (w : World) (M : List Nat) (hM : MS M w) (a0 : List S_api_Addr) (ao1 : Option Addr) (cap1 : Nat) (f1 : RSl rS_api_Addr 25 w M ao1 cap1 a0) (a1 : List S_api_Addr) (ao2 : Option Addr) (cap2 : Nat) (f2 : RSl rS_api_Addr 25 w M ao2 cap2 a1) (k : Nat) (r : Bool) (H : vineryref20_SameAddrs.f k a0 a1 = some r) :
    To Tryz.prog 12 [.slice ao1 a0.length cap1, .slice ao2 a1.length cap2] w fun v w' => v = .bool r ∧ Chg [] w w' ∧ MS (M) w' := by
 unfold vineryref20_SameAddrs.f at H
 refine ent Tryz.func12 rfl [(0, .slice ao1 a0.length cap1), (1, .slice ao2 a1.length cap2)] rfl (by rfl) fun a ha => ?_
 have hC : Chg [] w w := Chg.refl _ _
 refine wp_seq_k fun K3 hK3 => ?_
 refine wp_region_lit ?_
 refine seg ha 1 [(0, .slice ao1 a0.length cap1), (1, .slice ao2 a1.length cap2)] (by kernel_rfl) fun a ha => ?_
 refine hK3 _ _ ?_; try clear hK3 K3
 refine wp_seq_k fun K4 hK4 => ?_
 refine wp_seq_k fun K5 hK5 => ?_
 refine wp_region_lit ?_
 refine seg ha 5 [(0, .slice ao1 a0.length cap1), (1, .slice ao2 a1.length cap2), (10, .bool ((a0.length : Int) != (a1.length : Int)))] (by kernel_rfl) fun a ha => ?_
 refine hK5 _ _ ?_; try clear hK5 K5
 refine cnd ha rfl (fun hc6 => ?_) (fun hc6 => ?_)
 ·have H := ite_t hc6 H
  refine wp_seq_k fun K7 hK7 => ?_
  refine wp_region_lit ?_
  refine seg ha 1 [(4, .bool false)] (by kernel_rfl) fun a ha => ?_
  refine hK7 _ _ ?_; try clear hK7 K7
  refine wp_ret ?_
  try simp only [Exit.then, Exit.inBlock]
  obtain rfl := Option.some.inj H
  refine rt1 ha rfl rfl ?_
  exact ⟨rfl, hC, hM⟩
 ·have H := ite_f hc6 H
  refine wp_skip ?_
  refine hK4 _ _ ?_; try clear hK4 K4
  refine wp_seq_k fun K8 hK8 => ?_
  refine wp_seq_k fun K9 hK9 => ?_
  refine wp_region_lit ?_
  refine seg ha 1 [(0, .slice ao1 a0.length cap1), (1, .slice ao2 a1.length cap2), (5, .int .i64 (0 : Int))] (by kernel_rfl) fun a ha => ?_
  refine hK9 _ _ ?_; try clear hK9 K9
  refine wp_block ?_
  obtain ⟨s10, H10, H⟩ := bind_some H
  have J10 : ∀ s10' (a : Act) (wx10 : World), s10 = .inr s10' → Has a Tryz.f12.ntmps [] → (Chg [] w wx10) → (MS (M) wx10) → K8 a wx10 := by
   intro s10' a wx10 hs ha hC hM
   subst hs
   refine hK8 _ _ ?_; try clear hK8 K8
   refine wp_seq_k fun K12 hK12 => ?_
   refine wp_region_lit ?_
   refine seg ha 1 [(4, .bool true)] (by kernel_rfl) fun a ha => ?_
   refine hK12 _ _ ?_; try clear hK12 K12
   refine wp_ret ?_
   try simp only [Exit.then, Exit.inBlock]
   obtain rfl := Option.some.inj H
   refine rt1 ha rfl rfl ?_
   exact ⟨rfl, hC, hM⟩
  have Hc10 := H
  have H := H10
  refine wp_loop_ghost (fun kk a w10 => ∃ (x11 : Int), vineryref20_SameAddrs.l0 a0 a1 kk x11 = some s10 ∧ Has a Tryz.f12.ntmps [(0, .slice ao1 a0.length cap1), (1, .slice ao2 a1.length cap2), (5, .int .i64 x11)] ∧ (RSl rS_api_Addr 25 w10 (M) ao1 cap1 a0) ∧ (RSl rS_api_Addr 25 w10 (M) ao2 cap2 a1) ∧ (Chg [] w w10) ∧ (MS (M) w10)) k ?_ ?_
  ·skip
   exact ⟨(0 : Int), H, (ha.sel (by kernel_rfl)), f1, f2, hC, hM⟩
  ·rintro kk a w10 ⟨x11, H, ha, f1, f2, hC, hM⟩
   obtain _ | kk := kk
   ·exact nomatch (show none = some _ from H)
   rw [vineryref20_SameAddrs.l0] at H
   refine wp_seq_k fun K13 hK13 => ?_
   refine wp_seq_k fun K14 hK14 => ?_
   refine wp_region_lit ?_
   refine seg ha 4 [(0, .slice ao1 a0.length cap1), (1, .slice ao2 a1.length cap2), (5, .int .i64 x11), (14, .bool (decide (x11 < (a0.length : Int))))] (by kernel_rfl) fun a ha => ?_
   refine hK14 _ _ ?_; try clear hK14 K14
   refine cnd ha rfl (fun hc15 => ?_) (fun hc15 => ?_)
   ·have H := ite_t hc15 H
    refine wp_skip ?_
    refine hK13 _ _ ?_; try clear hK13 K13
    refine wp_seq_k fun K16 hK16 => ?_
    refine wp_block ?_
    refine wp_seq_k fun K17 hK17 => ?_
    refine drq0 (fun w' => Chg [] w10 w') (by kernel_rfl) (by kernel_rfl) (fun _ h => h) ?_
    refine qp 0 (.slice ao1 a0.length cap1) ha rfl rfl rfl (by kernel_rfl) fun a ha => ?_
    refine qp 0 (.int .i64 x11) ha rfl rfl rfl (by kernel_rfl) fun a ha => ?_
    obtain ⟨⟨hx18, hx18'⟩, H⟩ := ite_some H
    obtain ⟨ge19, oe200, cs21, hx18eq, hn24, hR22, hE23⟩ := RSl.elem f1 (Int.toNat x11) (by omega)
    rw [rd_get] at hR22
    obtain rfl := rS_api_Addr.open hR22
    refine qv (v := .pointer (some ⟨ge19, (oe200 + (Int.toNat x11) * rS_api_Addr.sz), none⟩)) ha rfl rfl rfl (fun w' hs => ix_run (r := rS_api_Addr) (T := 25) ha (by kernel_rfl) (by kernel_rfl) (by rfl) (by rfl) hx18eq hx18 hx18') fun a ha => ?_
    refine qv (v := .agg (cS_api_Addr (rd a0 x11)).toArray) ha rfl rfl rfl (fun w' hs => ldA_run (cs := (cS_api_Addr (rd a0 x11))) ha rfl (by kernel_rfl) (cells_sub (fun j v hv => hs.keep (hE23 j v hv)) (all := (cS_api_Addr (rd a0 x11))) [] [] (by kernel_rfl))) fun a ha => ?_
    refine qp 0 (.slice ao2 a1.length cap2) ha rfl rfl rfl (by kernel_rfl) fun a ha => ?_
    refine qp 0 (.int .i64 x11) ha rfl rfl rfl (by kernel_rfl) fun a ha => ?_
    obtain ⟨⟨hx25, hx25'⟩, H⟩ := ite_some H
    obtain ⟨ge26, oe270, cs28, hx25eq, hn31, hR29, hE30⟩ := RSl.elem f2 (Int.toNat x11) (by omega)
    rw [rd_get] at hR29
    obtain rfl := rS_api_Addr.open hR29
    refine qv (v := .pointer (some ⟨ge26, (oe270 + (Int.toNat x11) * rS_api_Addr.sz), none⟩)) ha rfl rfl rfl (fun w' hs => ix_run (r := rS_api_Addr) (T := 25) ha (by kernel_rfl) (by kernel_rfl) (by rfl) (by rfl) hx25eq hx25 hx25') fun a ha => ?_
    refine qv (v := .agg (cS_api_Addr (rd a1 x11)).toArray) ha rfl rfl rfl (fun w' hs => ldA_run (cs := (cS_api_Addr (rd a1 x11))) ha rfl (by kernel_rfl) (cells_sub (fun j v hv => hs.keep (hE30 j v hv)) (all := (cS_api_Addr (rd a1 x11))) [] [] (by kernel_rfl))) fun a ha => ?_
    refine qv (v := .bool (!((((rd a0 x11).Size) == ((rd a1 x11).Size)) && ((eqA 16 ((rd a0 x11).B) ((rd a1 x11).B)) && true)))) ha rfl rfl rfl (fun w' hs => nes_run (r := ((((rd a0 x11).Size) == ((rd a1 x11).Size)) && ((eqA 16 ((rd a0 x11).B) ((rd a1 x11).B)) && true))) (m := 9) ha rfl rfl (by kernel_rfl) rfl (by kernel_rfl) w') fun a ha => ?_
    refine wpQuiet_nil ?_
    intro w32 hc33
    have o1 : Ok [] (M) w10.heap.size := Ok.nil _ _
    have o2 : Ok (M) (M) w10.heap.size := (Ok.refl _ _)
    have f1 := f1.chg hc33 o1 o2
    have f2 := f2.chg hc33 o1 o2
    have q_hn24 : ge19 ∉ M := fun h => (o2 ge19 h).elim hn24 (fun h => absurd (lt_cell (hE23 0 _ rfl)) (Nat.not_lt.2 h))
    have hE23 : ∀ j v, (cS_api_Addr (rd a0 x11))[j]? = some v → w32.cell? ⟨ge19, (oe200 + (Int.toNat x11) * rS_api_Addr.sz) + j, none⟩ = some v := fun j v hv => (cell_keep hc33 o1 hn24 (hE23 j v hv))
    have hn24 := q_hn24
    have q_hn31 : ge26 ∉ M := fun h => (o2 ge26 h).elim hn31 (fun h => absurd (lt_cell (hE30 0 _ rfl)) (Nat.not_lt.2 h))
    have hE30 : ∀ j v, (cS_api_Addr (rd a1 x11))[j]? = some v → w32.cell? ⟨ge26, (oe270 + (Int.toNat x11) * rS_api_Addr.sz) + j, none⟩ = some v := fun j v hv => (cell_keep hc33 o1 hn31 (hE30 j v hv))
    have hn31 := q_hn31
    have hM : MS (M) w32 := (hM.chg hc33)
    have hC := hC.trans hc33 (Ok.nil _ _)
    refine wpl_end ?_
    refine hK17 _ _ ?_; try clear hK17 K17
    refine cnd ha rfl (fun hc34 => ?_) (fun hc34 => ?_)
    ·have H := ite_t hc34 H
     refine wp_seq_k fun K35 hK35 => ?_
     refine wp_region_lit ?_
     refine seg ha 1 [(4, .bool false)] (by kernel_rfl) fun a ha => ?_
     refine hK35 _ _ ?_; try clear hK35 K35
     refine wp_ret ?_
     try simp only [Exit.then, Exit.inBlock]
     obtain rfl := Option.some.inj H
     have H := (show some _ = some _ from Hc10)
     obtain rfl := Option.some.inj H
     refine rt1 ha rfl rfl ?_
     exact ⟨rfl, hC, hM⟩
    ·have H := ite_f hc34 H
     refine wp_skip ?_
     refine hK16 _ _ ?_; try clear hK16 K16
     refine wp_region_lit ?_
     refine seg ha 3 [(0, .slice ao1 a0.length cap1), (1, .slice ao2 a1.length cap2), (5, .int .i64 (IntKind.i64.wrap (x11 + (1 : Int))))] (by kernel_rfl) fun a ha => ?_
     exact ⟨kk, Nat.lt_succ_self _, ⟨IntKind.i64.wrap (x11 + (1 : Int)), H, (ha.sel (by kernel_rfl)), f1, f2, hC, hM⟩⟩
   ·have H := ite_f hc15 H
    refine wp_exit ?_
    simp only [Exit.then, Exit.inBlock, ↓reduceIte, Nat.reduceEqDiff]
    obtain rfl := Option.some.inj H
    exact J10 _ _ _ rfl (ha.sel (by kernel_rfl)) hC hM
def vineryref20_Same.l0 (a0 : List S_api_Join) (a1 : List S_api_Join) : Nat → Int → Option ((Bool) ⊕ (Unit))
  | 0, _ => none
  | kk + 1, x11 => (if (decide (x11 < (a0.length : Int))) = true then (if 0 ≤ x11 ∧ x11 < (a0.length : Int) then (if 0 ≤ x11 ∧ x11 < (a1.length : Int) then (if (!(((bstr ((rd a0 x11).Vrf)).toList == (bstr ((rd a1 x11).Vrf)).toList) && (((bstr ((rd a0 x11).Iface)).toList == (bstr ((rd a1 x11).Iface)).toList) && ((((((rd a0 x11).Source).Size) == (((rd a1 x11).Source).Size)) && ((eqA 16 (((rd a0 x11).Source).B) (((rd a1 x11).Source).B)) && true)) && ((((((rd a0 x11).Group).Size) == (((rd a1 x11).Group).Size)) && ((eqA 16 (((rd a0 x11).Group).B) (((rd a1 x11).Group).B)) && true)) && true))))) = true then some (.inl ((false : Bool))) else vineryref20_Same.l0 a0 a1 kk (IntKind.i64.wrap (x11 + (1 : Int)))) else none) else none) else some (.inr (() : Unit)))
def vineryref20_Same.f (k : Nat) (a0 : List S_api_Join) (a1 : List S_api_Join) : Option (Bool) := (if ((a0.length : Int) != (a1.length : Int)) = true then some ((false : Bool)) else (vineryref20_Same.l0 a0 a1 k (0 : Int)).bind fun s10 => match s10 with | .inl r => some r | .inr s10' => some ((true : Bool)))
set_option maxRecDepth 100000 in
theorem vineryref20_Same.walk (w : World) (M : List Nat) (hM : MS M w) (a0 : List S_api_Join) (ao1 : Option Addr) (cap1 : Nat) (f1 : RSl rS_api_Join 38 w M ao1 cap1 a0) (a1 : List S_api_Join) (ao2 : Option Addr) (cap2 : Nat) (f2 : RSl rS_api_Join 38 w M ao2 cap2 a1) (k : Nat) (r : Bool) (H : vineryref20_Same.f k a0 a1 = some r) :
    To Tryz.prog 14 [.slice ao1 a0.length cap1, .slice ao2 a1.length cap2] w fun v w' => v = .bool r ∧ Chg [] w w' ∧ MS (M) w' := by
 unfold vineryref20_Same.f at H
 refine ent Tryz.func14 rfl [(0, .slice ao1 a0.length cap1), (1, .slice ao2 a1.length cap2)] rfl (by rfl) fun a ha => ?_
 have hC : Chg [] w w := Chg.refl _ _
 refine wp_seq_k fun K3 hK3 => ?_
 refine wp_region_lit ?_
 refine seg ha 1 [(0, .slice ao1 a0.length cap1), (1, .slice ao2 a1.length cap2)] (by kernel_rfl) fun a ha => ?_
 refine hK3 _ _ ?_; try clear hK3 K3
 refine wp_seq_k fun K4 hK4 => ?_
 refine wp_seq_k fun K5 hK5 => ?_
 refine wp_region_lit ?_
 refine seg ha 5 [(0, .slice ao1 a0.length cap1), (1, .slice ao2 a1.length cap2), (10, .bool ((a0.length : Int) != (a1.length : Int)))] (by kernel_rfl) fun a ha => ?_
 refine hK5 _ _ ?_; try clear hK5 K5
 refine cnd ha rfl (fun hc6 => ?_) (fun hc6 => ?_)
 ·have H := ite_t hc6 H
  refine wp_seq_k fun K7 hK7 => ?_
  refine wp_region_lit ?_
  refine seg ha 1 [(4, .bool false)] (by kernel_rfl) fun a ha => ?_
  refine hK7 _ _ ?_; try clear hK7 K7
  refine wp_ret ?_
  try simp only [Exit.then, Exit.inBlock]
  obtain rfl := Option.some.inj H
  refine rt1 ha rfl rfl ?_
  exact ⟨rfl, hC, hM⟩
 ·have H := ite_f hc6 H
  refine wp_skip ?_
  refine hK4 _ _ ?_; try clear hK4 K4
  refine wp_seq_k fun K8 hK8 => ?_
  refine wp_seq_k fun K9 hK9 => ?_
  refine wp_region_lit ?_
  refine seg ha 1 [(0, .slice ao1 a0.length cap1), (1, .slice ao2 a1.length cap2), (5, .int .i64 (0 : Int))] (by kernel_rfl) fun a ha => ?_
  refine hK9 _ _ ?_; try clear hK9 K9
  refine wp_block ?_
  obtain ⟨s10, H10, H⟩ := bind_some H
  have J10 : ∀ s10' (a : Act) (wx10 : World), s10 = .inr s10' → Has a Tryz.f14.ntmps [] → (Chg [] w wx10) → (MS (M) wx10) → K8 a wx10 := by
   intro s10' a wx10 hs ha hC hM
   subst hs
   refine hK8 _ _ ?_; try clear hK8 K8
   refine wp_seq_k fun K12 hK12 => ?_
   refine wp_region_lit ?_
   refine seg ha 1 [(4, .bool true)] (by kernel_rfl) fun a ha => ?_
   refine hK12 _ _ ?_; try clear hK12 K12
   refine wp_ret ?_
   try simp only [Exit.then, Exit.inBlock]
   obtain rfl := Option.some.inj H
   refine rt1 ha rfl rfl ?_
   exact ⟨rfl, hC, hM⟩
  have Hc10 := H
  have H := H10
  refine wp_loop_ghost (fun kk a w10 => ∃ (x11 : Int), vineryref20_Same.l0 a0 a1 kk x11 = some s10 ∧ Has a Tryz.f14.ntmps [(0, .slice ao1 a0.length cap1), (1, .slice ao2 a1.length cap2), (5, .int .i64 x11)] ∧ (RSl rS_api_Join 38 w10 (M) ao1 cap1 a0) ∧ (RSl rS_api_Join 38 w10 (M) ao2 cap2 a1) ∧ (Chg [] w w10) ∧ (MS (M) w10)) k ?_ ?_
  ·skip
   exact ⟨(0 : Int), H, (ha.sel (by kernel_rfl)), f1, f2, hC, hM⟩
  ·rintro kk a w10 ⟨x11, H, ha, f1, f2, hC, hM⟩
   obtain _ | kk := kk
   ·exact nomatch (show none = some _ from H)
   rw [vineryref20_Same.l0] at H
   refine wp_seq_k fun K13 hK13 => ?_
   refine wp_seq_k fun K14 hK14 => ?_
   refine wp_region_lit ?_
   refine seg ha 4 [(0, .slice ao1 a0.length cap1), (1, .slice ao2 a1.length cap2), (5, .int .i64 x11), (14, .bool (decide (x11 < (a0.length : Int))))] (by kernel_rfl) fun a ha => ?_
   refine hK14 _ _ ?_; try clear hK14 K14
   refine cnd ha rfl (fun hc15 => ?_) (fun hc15 => ?_)
   ·have H := ite_t hc15 H
    refine wp_skip ?_
    refine hK13 _ _ ?_; try clear hK13 K13
    refine wp_seq_k fun K16 hK16 => ?_
    refine wp_block ?_
    refine wp_seq_k fun K17 hK17 => ?_
    refine drq0 (fun w' => Chg [] w10 w') (by kernel_rfl) (by kernel_rfl) (fun _ h => h) ?_
    refine qp 0 (.slice ao1 a0.length cap1) ha rfl rfl rfl (by kernel_rfl) fun a ha => ?_
    refine qp 0 (.int .i64 x11) ha rfl rfl rfl (by kernel_rfl) fun a ha => ?_
    obtain ⟨⟨hx18, hx18'⟩, H⟩ := ite_some H
    obtain ⟨ge19, oe200, cs21, hx18eq, hn24, hR22, hE23⟩ := RSl.elem f1 (Int.toNat x11) (by omega)
    rw [rd_get] at hR22
    obtain rfl := rS_api_Join.open hR22
    refine qv (v := .pointer (some ⟨ge19, (oe200 + (Int.toNat x11) * rS_api_Join.sz), none⟩)) ha rfl rfl rfl (fun w' hs => ix_run (r := rS_api_Join) (T := 38) ha (by kernel_rfl) (by kernel_rfl) (by rfl) (by rfl) hx18eq hx18 hx18') fun a ha => ?_
    refine qv (v := .agg (cS_api_Join (rd a0 x11)).toArray) ha rfl rfl rfl (fun w' hs => ldA_run (cs := (cS_api_Join (rd a0 x11))) ha rfl (by kernel_rfl) (cells_sub (fun j v hv => hs.keep (hE23 j v hv)) (all := (cS_api_Join (rd a0 x11))) [] [] (by kernel_rfl))) fun a ha => ?_
    refine qp 0 (.slice ao2 a1.length cap2) ha rfl rfl rfl (by kernel_rfl) fun a ha => ?_
    refine qp 0 (.int .i64 x11) ha rfl rfl rfl (by kernel_rfl) fun a ha => ?_
    obtain ⟨⟨hx25, hx25'⟩, H⟩ := ite_some H
    obtain ⟨ge26, oe270, cs28, hx25eq, hn31, hR29, hE30⟩ := RSl.elem f2 (Int.toNat x11) (by omega)
    rw [rd_get] at hR29
    obtain rfl := rS_api_Join.open hR29
    refine qv (v := .pointer (some ⟨ge26, (oe270 + (Int.toNat x11) * rS_api_Join.sz), none⟩)) ha rfl rfl rfl (fun w' hs => ix_run (r := rS_api_Join) (T := 38) ha (by kernel_rfl) (by kernel_rfl) (by rfl) (by rfl) hx25eq hx25 hx25') fun a ha => ?_
    refine qv (v := .agg (cS_api_Join (rd a1 x11)).toArray) ha rfl rfl rfl (fun w' hs => ldA_run (cs := (cS_api_Join (rd a1 x11))) ha rfl (by kernel_rfl) (cells_sub (fun j v hv => hs.keep (hE30 j v hv)) (all := (cS_api_Join (rd a1 x11))) [] [] (by kernel_rfl))) fun a ha => ?_
    refine qv (v := .bool (!(((bstr ((rd a0 x11).Vrf)).toList == (bstr ((rd a1 x11).Vrf)).toList) && (((bstr ((rd a0 x11).Iface)).toList == (bstr ((rd a1 x11).Iface)).toList) && ((((((rd a0 x11).Source).Size) == (((rd a1 x11).Source).Size)) && ((eqA 16 (((rd a0 x11).Source).B) (((rd a1 x11).Source).B)) && true)) && ((((((rd a0 x11).Group).Size) == (((rd a1 x11).Group).Size)) && ((eqA 16 (((rd a0 x11).Group).B) (((rd a1 x11).Group).B)) && true)) && true)))))) ha rfl rfl rfl (fun w' hs => nes_run (r := (((bstr ((rd a0 x11).Vrf)).toList == (bstr ((rd a1 x11).Vrf)).toList) && (((bstr ((rd a0 x11).Iface)).toList == (bstr ((rd a1 x11).Iface)).toList) && ((((((rd a0 x11).Source).Size) == (((rd a1 x11).Source).Size)) && ((eqA 16 (((rd a0 x11).Source).B) (((rd a1 x11).Source).B)) && true)) && ((((((rd a0 x11).Group).Size) == (((rd a1 x11).Group).Size)) && ((eqA 16 (((rd a0 x11).Group).B) (((rd a1 x11).Group).B)) && true)) && true))))) (m := 9) ha rfl rfl (by kernel_rfl) rfl (by kernel_rfl) w') fun a ha => ?_
    refine wpQuiet_nil ?_
    intro w32 hc33
    have o1 : Ok [] (M) w10.heap.size := Ok.nil _ _
    have o2 : Ok (M) (M) w10.heap.size := (Ok.refl _ _)
    have f1 := f1.chg hc33 o1 o2
    have f2 := f2.chg hc33 o1 o2
    have q_hn24 : ge19 ∉ M := fun h => (o2 ge19 h).elim hn24 (fun h => absurd (lt_cell (hE23 0 _ rfl)) (Nat.not_lt.2 h))
    have hE23 : ∀ j v, (cS_api_Join (rd a0 x11))[j]? = some v → w32.cell? ⟨ge19, (oe200 + (Int.toNat x11) * rS_api_Join.sz) + j, none⟩ = some v := fun j v hv => (cell_keep hc33 o1 hn24 (hE23 j v hv))
    have hn24 := q_hn24
    have q_hn31 : ge26 ∉ M := fun h => (o2 ge26 h).elim hn31 (fun h => absurd (lt_cell (hE30 0 _ rfl)) (Nat.not_lt.2 h))
    have hE30 : ∀ j v, (cS_api_Join (rd a1 x11))[j]? = some v → w32.cell? ⟨ge26, (oe270 + (Int.toNat x11) * rS_api_Join.sz) + j, none⟩ = some v := fun j v hv => (cell_keep hc33 o1 hn31 (hE30 j v hv))
    have hn31 := q_hn31
    have hM : MS (M) w32 := (hM.chg hc33)
    have hC := hC.trans hc33 (Ok.nil _ _)
    refine wpl_end ?_
    refine hK17 _ _ ?_; try clear hK17 K17
    refine cnd ha rfl (fun hc34 => ?_) (fun hc34 => ?_)
    ·have H := ite_t hc34 H
     refine wp_seq_k fun K35 hK35 => ?_
     refine wp_region_lit ?_
     refine seg ha 1 [(4, .bool false)] (by kernel_rfl) fun a ha => ?_
     refine hK35 _ _ ?_; try clear hK35 K35
     refine wp_ret ?_
     try simp only [Exit.then, Exit.inBlock]
     obtain rfl := Option.some.inj H
     have H := (show some _ = some _ from Hc10)
     obtain rfl := Option.some.inj H
     refine rt1 ha rfl rfl ?_
     exact ⟨rfl, hC, hM⟩
    ·have H := ite_f hc34 H
     refine wp_skip ?_
     refine hK16 _ _ ?_; try clear hK16 K16
     refine wp_region_lit ?_
     refine seg ha 3 [(0, .slice ao1 a0.length cap1), (1, .slice ao2 a1.length cap2), (5, .int .i64 (IntKind.i64.wrap (x11 + (1 : Int))))] (by kernel_rfl) fun a ha => ?_
     exact ⟨kk, Nat.lt_succ_self _, ⟨IntKind.i64.wrap (x11 + (1 : Int)), H, (ha.sel (by kernel_rfl)), f1, f2, hC, hM⟩⟩
   ·have H := ite_f hc15 H
    refine wp_exit ?_
    simp only [Exit.then, Exit.inBlock, ↓reduceIte, Nat.reduceEqDiff]
    obtain rfl := Option.some.inj H
    exact J10 _ _ _ rfl (ha.sel (by kernel_rfl)) hC hM
def vinerylaw20_JoinsTells.f (k : Nat) (a0 : List S_api_Join) (a1 : S_api_Flow) : Option (Bool) := (vinerylaw20_small.f k ).bind fun t9 => (if (decide ((a0.length : Int) > (60 : Int))) = true then some ((t9 : Bool)) else (if (([] : List S_api_Join).length + a0.length) * 80 ≤ 140737488355328 then (joins_Ifaces.f k (([] : List S_api_Join) ++ a0) a1).bind fun t24 => (joins_Groups.f k (([] : List S_api_Join) ++ a0) a1.Vrf).bind fun t27 => ((vineryref20_Ifaces.f k a0 a1).bind fun t36 => (vineryref20_SameTexts.f k t24 t36).bind fun t38 => (if t38 = true then (vineryref20_Groups.f k a0 a1.Vrf).bind fun t40 => (vineryref20_SameAddrs.f k t27 t40).bind fun t42 => some (t42 : Bool) else some (false : Bool))).bind fun s30 => ((if t9 = true then (if s30 = true then (vineryref20_Same.f k (([] : List S_api_Join) ++ a0) a0).bind fun t35 => some (t35 : Bool) else some (false : Bool)) else some (false : Bool))).bind fun s32 => some ((s32 : Bool)) else none))
set_option maxRecDepth 100000 in
theorem vinerylaw20_JoinsTells.walk (w : World) (M : List Nat) (hM : MS M w) (a0 : List S_api_Join) (ao1 : Option Addr) (cap1 : Nat) (f1 : RSl rS_api_Join 38 w M ao1 cap1 a0) (a1 : S_api_Flow) (k : Nat) (r : Bool) (H : vinerylaw20_JoinsTells.f k a0 a1 = some r) :
    To Tryz.prog 3 [.slice ao1 a0.length cap1, .agg (cS_api_Flow a1).toArray] w fun v w' => v = .bool r ∧ Chg [] w w' ∧ MS (M) w' := by
 unfold vinerylaw20_JoinsTells.f at H
 refine ent Tryz.func3 rfl [(0, .slice ao1 a0.length cap1), (1, .agg (cS_api_Flow a1).toArray)] rfl (by rfl) fun a ha => ?_
 have hC : Chg [] w w := Chg.refl _ _
 refine wp_seq_k fun K2 hK2 => ?_
 refine wp_region_lit ?_
 refine bx (cs := (cS_api_Flow a1)) ha rfl rfl rfl rfl rfl fun a w3 g4 hN5 ha => ?_
 have hn7 := hN5.notin hM
 have o1 : Ok [] (M) w.heap.size := Ok.nil _ _
 have o2 : Ok (M) (M) w.heap.size := (Ok.refl _ _)
 have f1 := f1.chg hN5.chg o1 o2
 have hM : MS (M) w3 := (hM.chg hN5.chg)
 have hC := hC.trans hN5.chg (Ok.nil _ _)
 have hE6 : ∀ j v, (cS_api_Flow a1)[j]? = some v → w3.cell? ⟨g4, 0 + j, none⟩ = some v := Box.cells (New.box hN5)
 refine seg ha 1 [(0, .slice ao1 a0.length cap1), (3, .pointer (some ⟨g4, 0, none⟩))] (by kernel_rfl) fun a ha => ?_
 refine hK2 _ _ ?_; try clear hK2 K2
 refine wp_seq_k fun K8 hK8 => ?_
 refine wp_region_lit ?_
 obtain ⟨t9, H9, H⟩ := bind_some H
 refine cl ha (by rfl) (by kernel_rfl) (by rfl) (by rfl) (by rfl) (vinerylaw20_small.walk w3 _ hM  k _ H9) ?_
 rintro _ w9 ⟨rfl, hc9, hMn⟩ a ha
 have o1 : Ok [] (M) w3.heap.size := Ok.nil _ _
 have o2 : Ok (M) (M) w3.heap.size := (Ok.refl _ _)
 have f1 := f1.chg hc9 o1 o2
 have q_hn7 : g4 ∉ M := fun h => (o2 g4 h).elim hn7 (fun h => absurd (lt_cell (hE6 0 _ rfl)) (Nat.not_lt.2 h))
 have hE6 : ∀ j v, (cS_api_Flow a1)[j]? = some v → w9.cell? ⟨g4, 0 + j, none⟩ = some v := fun j v hv => (cell_keep hc9 o1 hn7 (hE6 j v hv))
 have hn7 := q_hn7
 have hM : MS (M) w9 := (hM.chg hc9)
 have hC := hC.trans hc9 (Ok.nil _ _)
 refine seg ha 1 [(0, .slice ao1 a0.length cap1), (3, .pointer (some ⟨g4, 0, none⟩)), (5, .bool t9)] (by kernel_rfl) fun a ha => ?_
 refine hK8 _ _ ?_; try clear hK8 K8
 refine wp_seq_k fun K10 hK10 => ?_
 refine wp_seq_k fun K11 hK11 => ?_
 refine wp_region_lit ?_
 refine seg ha 3 [(0, .slice ao1 a0.length cap1), (3, .pointer (some ⟨g4, 0, none⟩)), (5, .bool t9), (13, .bool (decide ((a0.length : Int) > (60 : Int))))] (by kernel_rfl) fun a ha => ?_
 refine hK11 _ _ ?_; try clear hK11 K11
 refine cnd ha rfl (fun hc12 => ?_) (fun hc12 => ?_)
 ·have H := ite_t hc12 H
  refine wp_seq_k fun K13 hK13 => ?_
  refine wp_region_lit ?_
  refine seg ha 2 [(4, .bool t9)] (by kernel_rfl) fun a ha => ?_
  refine hK13 _ _ ?_; try clear hK13 K13
  refine wp_ret ?_
  try simp only [Exit.then, Exit.inBlock]
  obtain rfl := Option.some.inj H
  refine rt1 ha rfl rfl ?_
  exact ⟨rfl, hC, hM⟩
 ·have H := ite_f hc12 H
  refine wp_skip ?_
  refine hK10 _ _ ?_; try clear hK10 K10
  refine wp_seq_k fun K14 hK14 => ?_
  refine wp_region_lit ?_
  refine bsl (vals := ([] : List Value)) (T := 38) ha rfl ([] : List Value) (fun w => by kernel_rfl) rfl rfl rfl fun a w15 g16 hN17 ha => ?_
  have o1 : Ok [] (M) w9.heap.size := Ok.nil _ _
  have o2 : Ok ([g16] ++ (M)) (M) w9.heap.size := (Ok.app (hN17.ok _) (Ok.refl _ _))
  have f1 := f1.chg hN17.chg o1 o2
  have q_hn7 : g4 ∉ [g16] ++ (M) := fun h => (o2 g4 h).elim hn7 (fun h => absurd (lt_cell (hE6 0 _ rfl)) (Nat.not_lt.2 h))
  have hE6 : ∀ j v, (cS_api_Flow a1)[j]? = some v → w15.cell? ⟨g4, 0 + j, none⟩ = some v := fun j v hv => (cell_keep hN17.chg o1 hn7 (hE6 j v hv))
  have hn7 := q_hn7
  have p_i18_M : ∀ x ∈ [g16], x ∉ M := fun x hx hy => absurd (hM x (hy)) (Nat.not_lt.2 ((hN17.ge1) x hx))
  have e_i18 : ∀ x ∈ [g16], w.heap.size ≤ x := fun x hx => Nat.le_trans hC.size ((hN17.ge1) x hx)
  have hM : MS ([g16] ++ (M)) w15 := (MS.app hN17.ms (hM.chg hN17.chg))
  have hC := hC.trans hN17.chg (Ok.nil _ _)
  have f19 : Own rS_api_Join 38 w15 ([g16] ++ (M)) (some ⟨g16, 0, none⟩) 0 ([] : List S_api_Join) := hN17.own rfl (Nat.le_of_ble_eq_true rfl)
  refine seg ha 1 [(0, .slice ao1 a0.length cap1), (3, .pointer (some ⟨g4, 0, none⟩)), (5, .bool t9), (15, .slice (some ⟨g16, 0, none⟩) ([] : List S_api_Join).length 0), (16, .slice ao1 a0.length cap1)] (by kernel_rfl) fun a ha => ?_
  obtain ⟨hx20, H⟩ := ite_some H
  refine app (r := rS_api_Join) (xs := ([] : List S_api_Join)) (ys := a0) ha (ElemT.mk' (bytes := 80) (by kernel_rfl)) rfl rfl rfl rfl rfl f19 f1.src hx20 (by decide) fun a w21 ao22 cap22 hO22 hc22 hk22 hl22 ha => ?_
  have o1 : Ok [g16] ([g16] ++ (M)) w15.heap.size := (fun _ h => .inl (ml h))
  have o2 : Ok (blkL ao22 ++ (M)) ([g16] ++ (M)) w15.heap.size := (Ok.app (Ok.to hk22 (fun _ h => ml h)) (fun _ h => .inl (mr (h))))
  have f1 := f1.chg hc22 o1 o2
  have q_hn7 : g4 ∉ blkL ao22 ++ (M) := fun h => (o2 g4 h).elim hn7 (fun h => absurd (lt_cell (hE6 0 _ rfl)) (Nat.not_lt.2 h))
  have hE6 : ∀ j v, (cS_api_Flow a1)[j]? = some v → w21.cell? ⟨g4, 0 + j, none⟩ = some v := fun j v hv => (cell_keep hc22 o1 hn7 (hE6 j v hv))
  have hn7 := q_hn7
  have p_i22_M : ∀ x ∈ blkL ao22, x ∉ M := fun x hx hy => (hk22 x hx).elim (fun h => p_i18_M x h hy) (fun h => absurd (hM x (mr (hy))) (Nat.not_lt.2 h))
  have e_i22 : ∀ x ∈ blkL ao22, w.heap.size ≤ x := fun x hx => (hk22 x hx).elim (e_i18 x) (Nat.le_trans hC.size)
  have hM : MS (blkL ao22 ++ (M)) w21 := (MS.app hl22 (fun x h => hM.chg hc22 x (mr (h))))
  have hC := hC.trans hc22 (fun x h => .inr (e_i18 x h))
  have f22 := hO22.chg (M' := blkL ao22 ++ (M)) (Chg.refl [] _) (Ok.nil _ _) (Ok.app (fun _ h => .inl (ml h)) (Ok.to (fun _ h => .inl (mr (h))) (fun _ h => mr h))) (fun _ _ h => nomatch h) (fun _ h => ml h)
  refine seg ha 1 [(0, .slice ao1 a0.length cap1), (3, .pointer (some ⟨g4, 0, none⟩)), (5, .bool t9), (6, .slice ao22 (([] : List S_api_Join) ++ a0).length cap22)] (by kernel_rfl) fun a ha => ?_
  refine hK14 _ _ ?_; try clear hK14 K14
  refine wp_seq_k fun K23 hK23 => ?_
  refine wp_region_lit ?_
  refine seg ha 1 [(0, .slice ao1 a0.length cap1), (3, .pointer (some ⟨g4, 0, none⟩)), (5, .bool t9), (6, .slice ao22 (([] : List S_api_Join) ++ a0).length cap22), (18, .slice ao22 (([] : List S_api_Join) ++ a0).length cap22)] (by kernel_rfl) fun a ha => ?_
  refine ldA (cs := (cS_api_Flow a1)) ha rfl (by kernel_rfl) rfl rfl rfl (cells_sub hE6 (all := (cS_api_Flow a1)) [] [] (by kernel_rfl)) fun a ha => ?_
  have hML : MS (M) w21 := MS.rest hM (fun _ h => mr (h))
  have oL : Ok (M) (blkL ao22 ++ (M)) w21.heap.size := (fun _ h => .inl (mr (h)))
  obtain ⟨t24, H24, H⟩ := bind_some H
  refine cl ha (by rfl) (by kernel_rfl) (by rfl) (by rfl) (by rfl) (joins_Ifaces.walk w21 _ hML (([] : List S_api_Join) ++ a0) ao22 cap22 (Own.toRSl (M' := M) f22 oL (fun x hx hm => p_i22_M x hx hm)) a1 k _ H24) ?_
  rintro _ w24 ⟨ao25, cap25, rfl, f25, ne_i25, hc24, hMn⟩ a ha
  have o1 : Ok [] (blkL ao22 ++ (M)) w21.heap.size := Ok.nil _ _
  have o2 : Ok (blkL ao25 ++ (blkL ao22 ++ (M))) (blkL ao22 ++ (M)) w21.heap.size := (Ok.app (fun x h => .inr (ne_i25 x h)) (Ok.refl _ _))
  have f1 := f1.chg hc24 o1 o2
  have f22 := f22.chg hc24 o1 o2 (fun _ _ h => nomatch h) (fun _ h => mr (ml h))
  have q_hn7 : g4 ∉ blkL ao25 ++ (blkL ao22 ++ (M)) := fun h => (o2 g4 h).elim hn7 (fun h => absurd (lt_cell (hE6 0 _ rfl)) (Nat.not_lt.2 h))
  have hE6 : ∀ j v, (cS_api_Flow a1)[j]? = some v → w24.cell? ⟨g4, 0 + j, none⟩ = some v := fun j v hv => (cell_keep hc24 o1 hn7 (hE6 j v hv))
  have hn7 := q_hn7
  have p_i25_i22 : ∀ x ∈ blkL ao25, x ∉ (blkL ao22) := fun x hx hy => absurd (hM x (ml hy)) (Nat.not_lt.2 (ne_i25 x hx))
  have p_i25_M : ∀ x ∈ blkL ao25, x ∉ M := fun x hx hy => absurd (hM x (mr (hy))) (Nat.not_lt.2 (ne_i25 x hx))
  have e_i25 : ∀ x ∈ blkL ao25, w.heap.size ≤ x := fun x hx => Nat.le_trans hC.size (ne_i25 x hx)
  have hM : MS (blkL ao25 ++ (blkL ao22 ++ (M))) w24 := (MS.app (fun x h => hMn x (ml h)) (hM.chg hc24))
  have hC := hC.trans hc24 (Ok.nil _ _)
  have f25 := Own.re (M' := blkL ao25 ++ (blkL ao22 ++ (M))) (fun _ _ _ _ _ h => h) f25 (fun _ h => ml h)
  refine seg ha 1 [(0, .slice ao1 a0.length cap1), (3, .pointer (some ⟨g4, 0, none⟩)), (5, .bool t9), (6, .slice ao22 (([] : List S_api_Join) ++ a0).length cap22), (7, .slice ao25 t24.length cap25)] (by kernel_rfl) fun a ha => ?_
  refine hK23 _ _ ?_; try clear hK23 K23
  refine wp_seq_k fun K26 hK26 => ?_
  refine wp_region_lit ?_
  refine seg ha 2 [(0, .slice ao1 a0.length cap1), (3, .pointer (some ⟨g4, 0, none⟩)), (5, .bool t9), (6, .slice ao22 (([] : List S_api_Join) ++ a0).length cap22), (7, .slice ao25 t24.length cap25), (21, .slice ao22 (([] : List S_api_Join) ++ a0).length cap22), (22, .pointer (some ⟨g4, 0, none⟩))] (by kernel_rfl) fun a ha => ?_
  refine ld ha rfl (by kernel_rfl) rfl rfl rfl (hE6 0 (.string (bstr a1.Vrf)) (by kernel_rfl)) fun a ha => ?_
  have hML : MS (blkL ao25 ++ (M)) w24 := MS.rest hM (fun _ h => (List.mem_append.1 h).elim (fun h => ml h) (fun h => mr (mr (h))))
  have oL : Ok (blkL ao25 ++ (M)) (blkL ao25 ++ (blkL ao22 ++ (M))) w24.heap.size := (Ok.app (fun _ h => .inl (ml h)) (fun _ h => .inl (mr (mr (h)))))
  obtain ⟨t27, H27, H⟩ := bind_some H
  refine cl ha (by rfl) (by kernel_rfl) (by rfl) (by rfl) (by rfl) (joins_Groups.walk w24 _ hML (([] : List S_api_Join) ++ a0) ao22 cap22 (Own.toRSl (M' := blkL ao25 ++ (M)) f22 oL (fun x hx hm => (List.mem_append.1 hm).elim (fun h => (fun x hx hy => p_i25_i22 x hy hx) x hx h) (fun h => p_i22_M x hx h))) a1.Vrf k _ H27) ?_
  rintro _ w27 ⟨ao28, cap28, rfl, f28, ne_i28, hc27, hMn⟩ a ha
  have o1 : Ok [] (blkL ao25 ++ (blkL ao22 ++ (M))) w24.heap.size := Ok.nil _ _
  have o2 : Ok (blkL ao28 ++ (blkL ao25 ++ (blkL ao22 ++ (M)))) (blkL ao25 ++ (blkL ao22 ++ (M))) w24.heap.size := (Ok.app (fun x h => .inr (ne_i28 x h)) (Ok.refl _ _))
  have f1 := f1.chg hc27 o1 o2
  have f22 := f22.chg hc27 o1 o2 (fun _ _ h => nomatch h) (fun _ h => mr (mr (ml h)))
  have f25 := f25.chg hc27 o1 o2 (fun _ _ h => nomatch h) (fun _ h => mr (ml h))
  have q_hn7 : g4 ∉ blkL ao28 ++ (blkL ao25 ++ (blkL ao22 ++ (M))) := fun h => (o2 g4 h).elim hn7 (fun h => absurd (lt_cell (hE6 0 _ rfl)) (Nat.not_lt.2 h))
  have hE6 : ∀ j v, (cS_api_Flow a1)[j]? = some v → w27.cell? ⟨g4, 0 + j, none⟩ = some v := fun j v hv => (cell_keep hc27 o1 hn7 (hE6 j v hv))
  have hn7 := q_hn7
  have p_i28_i25 : ∀ x ∈ blkL ao28, x ∉ (blkL ao25) := fun x hx hy => absurd (hM x (ml hy)) (Nat.not_lt.2 (ne_i28 x hx))
  have p_i28_i22 : ∀ x ∈ blkL ao28, x ∉ (blkL ao22) := fun x hx hy => absurd (hM x (mr (ml hy))) (Nat.not_lt.2 (ne_i28 x hx))
  have p_i28_M : ∀ x ∈ blkL ao28, x ∉ M := fun x hx hy => absurd (hM x (mr (mr (hy)))) (Nat.not_lt.2 (ne_i28 x hx))
  have e_i28 : ∀ x ∈ blkL ao28, w.heap.size ≤ x := fun x hx => Nat.le_trans hC.size (ne_i28 x hx)
  have hM : MS (blkL ao28 ++ (blkL ao25 ++ (blkL ao22 ++ (M)))) w27 := (MS.app (fun x h => hMn x (ml h)) (hM.chg hc27))
  have hC := hC.trans hc27 (Ok.nil _ _)
  have f28 := Own.re (M' := blkL ao28 ++ (blkL ao25 ++ (blkL ao22 ++ (M)))) (fun _ _ _ _ _ h => h) f28 (fun _ h => ml h)
  refine seg ha 1 [(0, .slice ao1 a0.length cap1), (3, .pointer (some ⟨g4, 0, none⟩)), (5, .bool t9), (6, .slice ao22 (([] : List S_api_Join) ++ a0).length cap22), (7, .slice ao25 t24.length cap25), (8, .slice ao28 t27.length cap28)] (by kernel_rfl) fun a ha => ?_
  refine hK26 _ _ ?_; try clear hK26 K26
  refine wp_seq_k fun K29 hK29 => ?_
  refine wp_region_lit ?_
  obtain ⟨s30, H30, H⟩ := bind_some H
  have J30 : ∀ (a : Act) (w30 : World), Has a Tryz.f3.ntmps [(0, .slice ao1 a0.length cap1), (5, .bool t9), (6, .slice ao22 (([] : List S_api_Join) ++ a0).length cap22), (9, .bool s30)] → (RSl rS_api_Join 38 w30 (blkL ao22 ++ (M)) ao1 cap1 a0) → (Own rS_api_Join 38 w30 (blkL ao22 ++ (M)) ao22 cap22 (([] : List S_api_Join) ++ a0)) → (Chg [] w w30) → (MS (blkL ao22 ++ (M)) w30) → K29 a w30 := by
   intro a w30 ha f1 f22 hC hM
   refine hK29 _ _ ?_; try clear hK29 K29
   refine wp_seq_k fun K31 hK31 => ?_
   refine wp_region_lit ?_
   obtain ⟨s32, H32, H⟩ := bind_some H
   have J32 : ∀ (a : Act) (w32 : World), Has a Tryz.f3.ntmps [(4, .bool s32)] → (Chg [] w w32) → (MS (M) w32) → K31 a w32 := by
    intro a w32 ha hC hM
    refine hK31 _ _ ?_; try clear hK31 K31
    refine wp_ret ?_
    try simp only [Exit.then, Exit.inBlock]
    obtain rfl := Option.some.inj H
    refine rt1 ha rfl rfl ?_
    exact ⟨rfl, hC, hM⟩
   have H := H32
   refine seg ha 2 [(39, .bool t9), (0, .slice ao1 a0.length cap1), (6, .slice ao22 (([] : List S_api_Join) ++ a0).length cap22), (9, .bool s30)] (by kernel_rfl) fun a ha => ?_
   rcases Bool.eq_false_or_eq_true (t9) with hb33 | hb33
   ·have ha := ha.lit hb33
    have H := ite_t hb33 H
    refine sgh ha 3 [2, 3, 0] [(42, .bool s30), (0, .slice ao1 a0.length cap1), (6, .slice ao22 (([] : List S_api_Join) ++ a0).length cap22)] (by kernel_rfl) fun a ha => ?_
    rcases Bool.eq_false_or_eq_true (s30) with hb34 | hb34
    ·have ha := ha.lit hb34
     have H := ite_t hb34 H
     refine sgh ha 2 [2, 2] [(42, .bool true), (43, .slice ao22 (([] : List S_api_Join) ++ a0).length cap22), (44, .slice ao1 a0.length cap1)] (by kernel_rfl) fun a ha => ?_
     have hML : MS (M) w30 := MS.rest hM (fun _ h => mr (h))
     have oL : Ok (M) (blkL ao22 ++ (M)) w30.heap.size := (fun _ h => .inl (mr (h)))
     obtain ⟨t35, H35, H⟩ := bind_some H
     refine cl ha (by rfl) (by kernel_rfl) (by rfl) (by rfl) (by rfl) (vineryref20_Same.walk w30 _ hML (([] : List S_api_Join) ++ a0) ao22 cap22 (Own.toRSl (M' := M) f22 oL (fun x hx hm => p_i22_M x hx hm)) a0 ao1 cap1 (RSl.chg f1 (Chg.refl [] _) (Ok.nil _ _) oL) k _ H35) ?_
     rintro _ w35 ⟨rfl, hc35, hMn⟩ a ha
     have o1 : Ok [] (blkL ao22 ++ (M)) w30.heap.size := Ok.nil _ _
     have o2 : Ok (blkL ao22 ++ (M)) (blkL ao22 ++ (M)) w30.heap.size := (Ok.refl _ _)
     have f22 := f22.chg hc35 o1 o2 (fun _ _ h => nomatch h) (fun _ h => ml h)
     have f1 := f1.chg hc35 o1 o2
     have hM : MS (blkL ao22 ++ (M)) w35 := (hM.chg hc35)
     have hC := hC.trans hc35 (Ok.nil _ _)
     refine sgh ha 2 [3, 0] [(4, .bool t35)] (by kernel_rfl) fun a ha => ?_
     obtain rfl := Option.some.inj H
     have hM : MS (M) w35 := (fun x h => hM.chg (Chg.refl [] _) x (mr (h)))
     exact J32 _ _ (ha.sel (by kernel_rfl)) hC hM
    ·have ha := ha.lit hb34
     have H := ite_f hb34 H
     refine sgh ha 5 [1, 1, 1, 4, 0] [(4, .bool false)] (by kernel_rfl) fun a ha => ?_
     obtain rfl := Option.some.inj H
     have hM : MS (M) w30 := (fun x h => hM.chg (Chg.refl [] _) x (mr (h)))
     exact J32 _ _ (ha.sel (by kernel_rfl)) hC hM
   ·have ha := ha.lit hb33
    have H := ite_f hb33 H
    refine sgh ha 8 [1, 4, 0, 1, 1, 1, 4, 0] [(4, .bool false)] (by kernel_rfl) fun a ha => ?_
    obtain rfl := Option.some.inj H
    have hM : MS (M) w30 := (fun x h => hM.chg (Chg.refl [] _) x (mr (h)))
    exact J32 _ _ (ha.sel (by kernel_rfl)) hC hM
  have H := H30
  refine seg ha 2 [(0, .slice ao1 a0.length cap1), (3, .pointer (some ⟨g4, 0, none⟩)), (5, .bool t9), (6, .slice ao22 (([] : List S_api_Join) ++ a0).length cap22), (8, .slice ao28 t27.length cap28), (25, .slice ao25 t24.length cap25), (26, .slice ao1 a0.length cap1)] (by kernel_rfl) fun a ha => ?_
  refine ldA (cs := (cS_api_Flow a1)) ha rfl (by kernel_rfl) rfl rfl rfl (cells_sub hE6 (all := (cS_api_Flow a1)) [] [] (by kernel_rfl)) fun a ha => ?_
  obtain ⟨t36, H36, H⟩ := bind_some H
  refine cl ha (by rfl) (by kernel_rfl) (by rfl) (by rfl) (by rfl) (vineryref20_Ifaces.walk w27 _ hM a0 ao1 cap1 f1 a1 k _ H36) ?_
  rintro _ w36 ⟨ao37, cap37, rfl, f37, ne_i37, hc36, hMn⟩ a ha
  have o1 : Ok [] (blkL ao28 ++ (blkL ao25 ++ (blkL ao22 ++ (M)))) w27.heap.size := Ok.nil _ _
  have o2 : Ok (blkL ao37 ++ (blkL ao28 ++ (blkL ao25 ++ (blkL ao22 ++ (M))))) (blkL ao28 ++ (blkL ao25 ++ (blkL ao22 ++ (M)))) w27.heap.size := (Ok.app (fun x h => .inr (ne_i37 x h)) (Ok.refl _ _))
  have f1 := f1.chg hc36 o1 o2
  have f22 := f22.chg hc36 o1 o2 (fun _ _ h => nomatch h) (fun _ h => mr (mr (mr (ml h))))
  have f28 := f28.chg hc36 o1 o2 (fun _ _ h => nomatch h) (fun _ h => mr (ml h))
  have f25 := f25.chg hc36 o1 o2 (fun _ _ h => nomatch h) (fun _ h => mr (mr (ml h)))
  have q_hn7 : g4 ∉ blkL ao37 ++ (blkL ao28 ++ (blkL ao25 ++ (blkL ao22 ++ (M)))) := fun h => (o2 g4 h).elim hn7 (fun h => absurd (lt_cell (hE6 0 _ rfl)) (Nat.not_lt.2 h))
  have hE6 : ∀ j v, (cS_api_Flow a1)[j]? = some v → w36.cell? ⟨g4, 0 + j, none⟩ = some v := fun j v hv => (cell_keep hc36 o1 hn7 (hE6 j v hv))
  have hn7 := q_hn7
  have p_i37_i28 : ∀ x ∈ blkL ao37, x ∉ (blkL ao28) := fun x hx hy => absurd (hM x (ml hy)) (Nat.not_lt.2 (ne_i37 x hx))
  have p_i37_i25 : ∀ x ∈ blkL ao37, x ∉ (blkL ao25) := fun x hx hy => absurd (hM x (mr (ml hy))) (Nat.not_lt.2 (ne_i37 x hx))
  have p_i37_i22 : ∀ x ∈ blkL ao37, x ∉ (blkL ao22) := fun x hx hy => absurd (hM x (mr (mr (ml hy)))) (Nat.not_lt.2 (ne_i37 x hx))
  have p_i37_M : ∀ x ∈ blkL ao37, x ∉ M := fun x hx hy => absurd (hM x (mr (mr (mr (hy))))) (Nat.not_lt.2 (ne_i37 x hx))
  have e_i37 : ∀ x ∈ blkL ao37, w.heap.size ≤ x := fun x hx => Nat.le_trans hC.size (ne_i37 x hx)
  have hM : MS (blkL ao37 ++ (blkL ao28 ++ (blkL ao25 ++ (blkL ao22 ++ (M))))) w36 := (MS.app (fun x h => hMn x (ml h)) (hM.chg hc36))
  have hC := hC.trans hc36 (Ok.nil _ _)
  have hML : MS (blkL ao28 ++ (blkL ao22 ++ (M))) w36 := MS.rest hM (fun _ h => (List.mem_append.1 h).elim (fun h => mr (ml h)) (fun h => (List.mem_append.1 h).elim (fun h => mr (mr (mr (ml h)))) (fun h => mr (mr (mr (mr (h)))))))
  have oL : Ok (blkL ao28 ++ (blkL ao22 ++ (M))) (blkL ao37 ++ (blkL ao28 ++ (blkL ao25 ++ (blkL ao22 ++ (M))))) w36.heap.size := (Ok.app (fun _ h => .inl (mr (ml h))) (fun _ h => .inl (mr (mr (mr (h))))))
  obtain ⟨t38, H38, H⟩ := bind_some H
  refine cl ha (by rfl) (by kernel_rfl) (by rfl) (by rfl) (by rfl) (vineryref20_SameTexts.walk w36 _ hML t24 ao25 cap25 (Own.toRSl (M' := blkL ao28 ++ (blkL ao22 ++ (M))) f25 oL (fun x hx hm => (List.mem_append.1 hm).elim (fun h => (fun x hx hy => p_i28_i25 x hy hx) x hx h) (fun h => (List.mem_append.1 h).elim (fun h => p_i25_i22 x hx h) (fun h => p_i25_M x hx h)))) t36 ao37 cap37 (Own.toRSl (M' := blkL ao28 ++ (blkL ao22 ++ (M))) f37 oL (fun x hx hm => (List.mem_append.1 hm).elim (fun h => p_i37_i28 x hx h) (fun h => (List.mem_append.1 h).elim (fun h => p_i37_i22 x hx h) (fun h => p_i37_M x hx h)))) k _ H38) ?_
  rintro _ w38 ⟨rfl, hc38, hMn⟩ a ha
  have o1 : Ok [] (blkL ao37 ++ (blkL ao28 ++ (blkL ao25 ++ (blkL ao22 ++ (M))))) w36.heap.size := Ok.nil _ _
  have o2 : Ok (blkL ao37 ++ (blkL ao28 ++ (blkL ao25 ++ (blkL ao22 ++ (M))))) (blkL ao37 ++ (blkL ao28 ++ (blkL ao25 ++ (blkL ao22 ++ (M))))) w36.heap.size := (Ok.refl _ _)
  have f1 := f1.chg hc38 o1 o2
  have f22 := f22.chg hc38 o1 o2 (fun _ _ h => nomatch h) (fun _ h => mr (mr (mr (ml h))))
  have f28 := f28.chg hc38 o1 o2 (fun _ _ h => nomatch h) (fun _ h => mr (ml h))
  have f25 := f25.chg hc38 o1 o2 (fun _ _ h => nomatch h) (fun _ h => mr (mr (ml h)))
  have f37 := f37.chg hc38 o1 o2 (fun _ _ h => nomatch h) (fun _ h => ml h)
  have q_hn7 : g4 ∉ blkL ao37 ++ (blkL ao28 ++ (blkL ao25 ++ (blkL ao22 ++ (M)))) := fun h => (o2 g4 h).elim hn7 (fun h => absurd (lt_cell (hE6 0 _ rfl)) (Nat.not_lt.2 h))
  have hE6 : ∀ j v, (cS_api_Flow a1)[j]? = some v → w38.cell? ⟨g4, 0 + j, none⟩ = some v := fun j v hv => (cell_keep hc38 o1 hn7 (hE6 j v hv))
  have hn7 := q_hn7
  have hM : MS (blkL ao37 ++ (blkL ao28 ++ (blkL ao25 ++ (blkL ao22 ++ (M))))) w38 := (hM.chg hc38)
  have hC := hC.trans hc38 (Ok.nil _ _)
  refine seg ha 1 [(30, .bool t38), (0, .slice ao1 a0.length cap1), (3, .pointer (some ⟨g4, 0, none⟩)), (5, .bool t9), (6, .slice ao22 (([] : List S_api_Join) ++ a0).length cap22), (8, .slice ao28 t27.length cap28)] (by kernel_rfl) fun a ha => ?_
  rcases Bool.eq_false_or_eq_true (t38) with hb39 | hb39
  ·have ha := ha.lit hb39
   have H := ite_t hb39 H
   refine sgh ha 3 [2, 2, 2] [(0, .slice ao1 a0.length cap1), (5, .bool t9), (6, .slice ao22 (([] : List S_api_Join) ++ a0).length cap22), (30, .bool true), (31, .slice ao28 t27.length cap28), (32, .slice ao1 a0.length cap1), (33, .pointer (some ⟨g4, 0, none⟩))] (by kernel_rfl) fun a ha => ?_
   refine ld ha rfl (by kernel_rfl) rfl rfl rfl (hE6 0 (.string (bstr a1.Vrf)) (by kernel_rfl)) fun a ha => ?_
   obtain ⟨t40, H40, H⟩ := bind_some H
   refine cl ha (by rfl) (by kernel_rfl) (by rfl) (by rfl) (by rfl) (vineryref20_Groups.walk w38 _ hM a0 ao1 cap1 f1 a1.Vrf k _ H40) ?_
   rintro _ w40 ⟨ao41, cap41, rfl, f41, ne_i41, hc40, hMn⟩ a ha
   have o1 : Ok [] (blkL ao37 ++ (blkL ao28 ++ (blkL ao25 ++ (blkL ao22 ++ (M))))) w38.heap.size := Ok.nil _ _
   have o2 : Ok (blkL ao41 ++ (blkL ao37 ++ (blkL ao28 ++ (blkL ao25 ++ (blkL ao22 ++ (M)))))) (blkL ao37 ++ (blkL ao28 ++ (blkL ao25 ++ (blkL ao22 ++ (M))))) w38.heap.size := (Ok.app (fun x h => .inr (ne_i41 x h)) (Ok.refl _ _))
   have f1 := f1.chg hc40 o1 o2
   have f22 := f22.chg hc40 o1 o2 (fun _ _ h => nomatch h) (fun _ h => mr (mr (mr (mr (ml h)))))
   have f28 := f28.chg hc40 o1 o2 (fun _ _ h => nomatch h) (fun _ h => mr (mr (ml h)))
   have p_i41_i37 : ∀ x ∈ blkL ao41, x ∉ (blkL ao37) := fun x hx hy => absurd (hM x (ml hy)) (Nat.not_lt.2 (ne_i41 x hx))
   have p_i41_i28 : ∀ x ∈ blkL ao41, x ∉ (blkL ao28) := fun x hx hy => absurd (hM x (mr (ml hy))) (Nat.not_lt.2 (ne_i41 x hx))
   have p_i41_i25 : ∀ x ∈ blkL ao41, x ∉ (blkL ao25) := fun x hx hy => absurd (hM x (mr (mr (ml hy)))) (Nat.not_lt.2 (ne_i41 x hx))
   have p_i41_i22 : ∀ x ∈ blkL ao41, x ∉ (blkL ao22) := fun x hx hy => absurd (hM x (mr (mr (mr (ml hy))))) (Nat.not_lt.2 (ne_i41 x hx))
   have p_i41_M : ∀ x ∈ blkL ao41, x ∉ M := fun x hx hy => absurd (hM x (mr (mr (mr (mr (hy)))))) (Nat.not_lt.2 (ne_i41 x hx))
   have e_i41 : ∀ x ∈ blkL ao41, w.heap.size ≤ x := fun x hx => Nat.le_trans hC.size (ne_i41 x hx)
   have hM : MS (blkL ao41 ++ (blkL ao37 ++ (blkL ao28 ++ (blkL ao25 ++ (blkL ao22 ++ (M)))))) w40 := (MS.app (fun x h => hMn x (ml h)) (hM.chg hc40))
   have hC := hC.trans hc40 (Ok.nil _ _)
   have hML : MS (blkL ao37 ++ (blkL ao25 ++ (blkL ao22 ++ (M)))) w40 := MS.rest hM (fun _ h => (List.mem_append.1 h).elim (fun h => mr (ml h)) (fun h => (List.mem_append.1 h).elim (fun h => mr (mr (mr (ml h)))) (fun h => (List.mem_append.1 h).elim (fun h => mr (mr (mr (mr (ml h))))) (fun h => mr (mr (mr (mr (mr (h)))))))))
   have oL : Ok (blkL ao37 ++ (blkL ao25 ++ (blkL ao22 ++ (M)))) (blkL ao41 ++ (blkL ao37 ++ (blkL ao28 ++ (blkL ao25 ++ (blkL ao22 ++ (M)))))) w40.heap.size := (Ok.app (fun _ h => .inl (mr (ml h))) (fun _ h => .inl (mr (mr (mr (h))))))
   obtain ⟨t42, H42, H⟩ := bind_some H
   refine cl ha (by rfl) (by kernel_rfl) (by rfl) (by rfl) (by rfl) (vineryref20_SameAddrs.walk w40 _ hML t27 ao28 cap28 (Own.toRSl (M' := blkL ao37 ++ (blkL ao25 ++ (blkL ao22 ++ (M)))) f28 oL (fun x hx hm => (List.mem_append.1 hm).elim (fun h => (fun x hx hy => p_i37_i28 x hy hx) x hx h) (fun h => (List.mem_append.1 h).elim (fun h => p_i28_i25 x hx h) (fun h => (List.mem_append.1 h).elim (fun h => p_i28_i22 x hx h) (fun h => p_i28_M x hx h))))) t40 ao41 cap41 (Own.toRSl (M' := blkL ao37 ++ (blkL ao25 ++ (blkL ao22 ++ (M)))) f41 oL (fun x hx hm => (List.mem_append.1 hm).elim (fun h => p_i41_i37 x hx h) (fun h => (List.mem_append.1 h).elim (fun h => p_i41_i25 x hx h) (fun h => (List.mem_append.1 h).elim (fun h => p_i41_i22 x hx h) (fun h => p_i41_M x hx h))))) k _ H42) ?_
   rintro _ w42 ⟨rfl, hc42, hMn⟩ a ha
   have o1 : Ok [] (blkL ao41 ++ (blkL ao37 ++ (blkL ao28 ++ (blkL ao25 ++ (blkL ao22 ++ (M)))))) w40.heap.size := Ok.nil _ _
   have o2 : Ok (blkL ao41 ++ (blkL ao37 ++ (blkL ao28 ++ (blkL ao25 ++ (blkL ao22 ++ (M)))))) (blkL ao41 ++ (blkL ao37 ++ (blkL ao28 ++ (blkL ao25 ++ (blkL ao22 ++ (M)))))) w40.heap.size := (Ok.refl _ _)
   have f1 := f1.chg hc42 o1 o2
   have f22 := f22.chg hc42 o1 o2 (fun _ _ h => nomatch h) (fun _ h => mr (mr (mr (mr (ml h)))))
   have f28 := f28.chg hc42 o1 o2 (fun _ _ h => nomatch h) (fun _ h => mr (mr (ml h)))
   have f41 := f41.chg hc42 o1 o2 (fun _ _ h => nomatch h) (fun _ h => ml h)
   have hM : MS (blkL ao41 ++ (blkL ao37 ++ (blkL ao28 ++ (blkL ao25 ++ (blkL ao22 ++ (M)))))) w42 := (hM.chg hc42)
   have hC := hC.trans hc42 (Ok.nil _ _)
   refine sgh ha 2 [3, 0] [(0, .slice ao1 a0.length cap1), (5, .bool t9), (6, .slice ao22 (([] : List S_api_Join) ++ a0).length cap22), (9, .bool t42)] (by kernel_rfl) fun a ha => ?_
   obtain rfl := Option.some.inj H
   have o1 : Ok [] (blkL ao41 ++ (blkL ao37 ++ (blkL ao28 ++ (blkL ao25 ++ (blkL ao22 ++ (M)))))) w42.heap.size := Ok.nil _ _
   have o2 : Ok (blkL ao22 ++ (M)) (blkL ao41 ++ (blkL ao37 ++ (blkL ao28 ++ (blkL ao25 ++ (blkL ao22 ++ (M)))))) w42.heap.size := (fun _ h => .inl (mr (mr (mr (mr (h))))))
   have f1 := f1.chg (Chg.refl [] _) o1 o2
   have f22 := f22.chg (Chg.refl [] _) o1 o2 (fun _ _ h => nomatch h) (fun _ h => ml h)
   have hM : MS (blkL ao22 ++ (M)) w42 := (fun x h => hM.chg (Chg.refl [] _) x (mr (mr (mr (mr (h))))))
   exact J30 _ _ (ha.sel (by kernel_rfl)) f1 f22 hC hM
  ·have ha := ha.lit hb39
   have H := ite_f hb39 H
   refine sgh ha 8 [1, 1, 1, 1, 1, 1, 4, 0] [(0, .slice ao1 a0.length cap1), (5, .bool t9), (6, .slice ao22 (([] : List S_api_Join) ++ a0).length cap22), (9, .bool false)] (by kernel_rfl) fun a ha => ?_
   obtain rfl := Option.some.inj H
   have o1 : Ok [] (blkL ao37 ++ (blkL ao28 ++ (blkL ao25 ++ (blkL ao22 ++ (M))))) w38.heap.size := Ok.nil _ _
   have o2 : Ok (blkL ao22 ++ (M)) (blkL ao37 ++ (blkL ao28 ++ (blkL ao25 ++ (blkL ao22 ++ (M))))) w38.heap.size := (fun _ h => .inl (mr (mr (mr (h)))))
   have f1 := f1.chg (Chg.refl [] _) o1 o2
   have f22 := f22.chg (Chg.refl [] _) o1 o2 (fun _ _ h => nomatch h) (fun _ h => ml h)
   have hM : MS (blkL ao22 ++ (M)) w38 := (fun x h => hM.chg (Chg.refl [] _) x (mr (mr (mr (h)))))
   exact J30 _ _ (ha.sel (by kernel_rfl)) f1 f22 hC hM
end Go.E
