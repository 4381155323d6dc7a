/- What the functions that the law reaches compute, and the walks that show it. -/
import Derived.Test.YtildkadbjkfgfaaGreatDoorEngU
import Derived.Test.YtildkadbjkfgfaaGreatDoorShelf
import Derived.Test.YtildkadbjkfgfaaGreatDoorEngX
import Derived.Test.YtildkadbjkfgfaaGreatDoorEngQ
import Derived.Test.YtildkadbjkfgfaaGreatDoorEngY
import Derived.Test.YtildkadbjkfgfaaGreatDoorEngZ
import Derived.Test.YtildkadbjkfgfaaGreatDoorProg
import Derived.Test.YtildkadbjkfgfaaGreatDoorGenJoinsAsksP1
set_option linter.unusedVariables false
set_option linter.unusedSimpArgs false
namespace Go.E
open Go.RowKit Go.Proofs
def vinerylaw20_JoinsAsks.l1 (a1 : S_api_Join) (s26 : (List (List UInt8))) : Nat → Int → Int → Option ((Bool) ⊕ (Int))
  | 0, _, _ => none
  | kk + 1, x40, x41 => (if (decide (x41 < (s26.length : Int))) = true then ((if 0 ≤ x41 ∧ x41 < (s26.length : Int) then (if ((bstr (rd s26 x41)).toList == (bstr a1.Iface).toList) = true then some (IntKind.i64.wrap (x40 + (1 : Int)) : Int) else some (x40 : Int)) else none)).bind fun s60 => ((if (decide (x41 > (0 : Int))) = true then (if 0 ≤ (IntKind.i64.wrap (x41 - (1 : Int))) ∧ (IntKind.i64.wrap (x41 - (1 : Int))) < (s26.length : Int) then (if 0 ≤ x41 ∧ x41 < (s26.length : Int) then some (!Op.bytesLess (bstr (rd s26 (IntKind.i64.wrap (x41 - (1 : Int))))).toList (bstr (rd s26 x41)).toList : Bool) else none) else none) else some (false : Bool))).bind fun s62 => (if s62 = true then some (.inl ((false : Bool))) else vinerylaw20_JoinsAsks.l1 a1 s26 kk s60 (IntKind.i64.wrap (x41 + (1 : Int)))) else some (.inr (x40 : Int)))
def vinerylaw20_JoinsAsks.l0 (a1 : S_api_Join) (t21 : List (List UInt8)) : Nat → Bool → Int → Option (Bool)
  | 0, _, _ => none
  | kk + 1, x34, x35 => (if (decide (x35 < (t21.length : Int))) = true then ((if x34 = true then some (true : Bool) else (if 0 ≤ x35 ∧ x35 < (t21.length : Int) then some ((bstr (rd t21 x35)).toList == (bstr a1.Iface).toList : Bool) else none))).bind fun s99 => vinerylaw20_JoinsAsks.l0 a1 t21 kk s99 (IntKind.i64.wrap (x35 + (1 : Int))) else some (x34 : Bool))
def vinerylaw20_JoinsAsks.f (k : Nat) (a0 : List S_api_Join) (a1 : S_api_Join) (a2 : S_api_Flow) : Option (Bool) := (vinerylaw20_small.f k ).bind fun t14 => ((if (decide ((a0.length : Int) > (60 : Int))) = true then some (true : Bool) else (joins_Right.f k a1).bind fun t179 => some (!t179 : Bool))).bind fun s17 => (if s17 = true then some ((t14 : Bool)) else (joins_Ifaces.f k a0 a2).bind fun t21 => ((if (([] : List S_api_Join).length + a0.length) * 80 ≤ 140737488355328 then (if ((([] : List S_api_Join) ++ a0).length + ([a1] : List S_api_Join).length) * 80 ≤ 140737488355328 then (joins_Ifaces.f k ((([] : List S_api_Join) ++ a0) ++ ([a1] : List S_api_Join)) a2).bind fun t136 => some (t136 : List (List UInt8)) else none) else none)).bind fun s26 => ((if ((bstr a1.Vrf).toList == (bstr a2.Vrf).toList) = true then (if ((a1.Group.Size == a2.Group.Size) && ((eqA 16 a1.Group.B a2.Group.B) && true)) = true then (if (a1.Source.Size == (0 : Int)) = true then some (true : Bool) else some (((a1.Source.Size == a2.Source.Size) && ((eqA 16 a1.Source.B a2.Source.B) && true)) : Bool)) else some (false : Bool)) else some (false : Bool))).bind fun s29 => (vinerylaw20_JoinsAsks.l0 a1 t21 k false (0 : Int)).bind fun s33 => (vinerylaw20_JoinsAsks.l1 a1 s26 k (0 : Int) (0 : Int)).bind fun s39 => match s39 with | .inl r => some r | .inr s39' => (if (if (!s29) = true then true else s33) = true then ((if t14 = true then (vineryref20_SameTexts.f k t21 s26).bind fun t48 => some (t48 : Bool) else some (false : Bool))).bind fun s46 => some ((s46 : Bool)) else ((if t14 = true then (if (s39' == (1 : Int)) = true then (if ((s26.length : Int) == (IntKind.i64.wrap ((t21.length : Int) + (1 : Int)))) = true then (addr_Multicast.f k a1.Group).bind fun t54 => some (t54 : Bool) else some (false : Bool)) else some (false : Bool)) else some (false : Bool))).bind fun s50 => some ((s50 : Bool))))
set_option maxRecDepth 100000 in
theorem vinerylaw20_JoinsAsks.walk (w : World) (M : List Nat) (hM : MS M w) (a0 : List S_api_Join) (ao1 : Option Addr) (cap1 : Nat) (f1 : RSl rS_api_Join 38 w M ao1 cap1 a0) (a1 : S_api_Join) (a2 : S_api_Flow) (k : Nat) (r : Bool) (H : vinerylaw20_JoinsAsks.f k a0 a1 a2 = some r) :
    To Tryz.prog 4 [.slice ao1 a0.length cap1, .agg (cS_api_Join a1).toArray, .agg (cS_api_Flow a2).toArray] w fun v w' => v = .bool r ∧ Chg [] w w' ∧ MS (M) w' := by
 unfold vinerylaw20_JoinsAsks.f at H
 refine ent Tryz.func4 rfl [(0, .slice ao1 a0.length cap1), (1, .agg (cS_api_Join a1).toArray), (2, .agg (cS_api_Flow a2).toArray)] rfl (by rfl) fun a ha => ?_
 have hC : Chg [] w w := Chg.refl _ _
 refine wp_seq_k fun K2 hK2 => ?_
 refine wp_region_lit ?_
 refine bx (cs := (cS_api_Join a1)) ha rfl rfl rfl rfl rfl fun a w3 g4 hN5 ha => ?_
 have hn7 := hN5.notin hM
 have o1 : Ok [] (M) w.heap.size := Ok.nil _ _
 have o2 : Ok (M) (M) w.heap.size := (Ok.refl _ _)
 have f1 := f1.chg hN5.chg o1 o2
 have hM : MS (M) w3 := (hM.chg hN5.chg)
 have hC := hC.trans hN5.chg (Ok.nil _ _)
 have hE6 : ∀ j v, (cS_api_Join a1)[j]? = some v → w3.cell? ⟨g4, 0 + j, none⟩ = some v := Box.cells (New.box hN5)
 refine bx (cs := (cS_api_Flow a2)) ha rfl rfl rfl rfl rfl fun a w8 g9 hN10 ha => ?_
 have hn12 := hN10.notin hM
 have o1 : Ok [] (M) w3.heap.size := Ok.nil _ _
 have o2 : Ok (M) (M) w3.heap.size := (Ok.refl _ _)
 have f1 := f1.chg hN10.chg o1 o2
 have q_hn7 : g4 ∉ M := fun h => (o2 g4 h).elim hn7 (fun h => absurd (lt_cell (hE6 0 _ rfl)) (Nat.not_lt.2 h))
 have hE6 : ∀ j v, (cS_api_Join a1)[j]? = some v → w8.cell? ⟨g4, 0 + j, none⟩ = some v := fun j v hv => (cell_keep hN10.chg o1 hn7 (hE6 j v hv))
 have hn7 := q_hn7
 have hM : MS (M) w8 := (hM.chg hN10.chg)
 have hC := hC.trans hN10.chg (Ok.nil _ _)
 have hE11 : ∀ j v, (cS_api_Flow a2)[j]? = some v → w8.cell? ⟨g9, 0 + j, none⟩ = some v := Box.cells (New.box hN10)
 refine seg ha 1 [(0, .slice ao1 a0.length cap1), (4, .pointer (some ⟨g4, 0, none⟩)), (5, .pointer (some ⟨g9, 0, none⟩))] (by kernel_rfl) fun a ha => ?_
 refine hK2 _ _ ?_; try clear hK2 K2
 refine wp_seq_k fun K13 hK13 => ?_
 refine wp_region_lit ?_
 obtain ⟨t14, H14, H⟩ := bind_some H
 refine cl ha (by rfl) (by kernel_rfl) (by rfl) (by rfl) (by rfl) (vinerylaw20_small.walk w8 _ hM  k _ H14) ?_
 rintro _ w14 ⟨rfl, hc14, hMn⟩ a ha
 have o1 : Ok [] (M) w8.heap.size := Ok.nil _ _
 have o2 : Ok (M) (M) w8.heap.size := (Ok.refl _ _)
 have f1 := f1.chg hc14 o1 o2
 have q_hn7 : g4 ∉ M := fun h => (o2 g4 h).elim hn7 (fun h => absurd (lt_cell (hE6 0 _ rfl)) (Nat.not_lt.2 h))
 have hE6 : ∀ j v, (cS_api_Join a1)[j]? = some v → w14.cell? ⟨g4, 0 + j, none⟩ = some v := fun j v hv => (cell_keep hc14 o1 hn7 (hE6 j v hv))
 have hn7 := q_hn7
 have q_hn12 : g9 ∉ M := fun h => (o2 g9 h).elim hn12 (fun h => absurd (lt_cell (hE11 0 _ rfl)) (Nat.not_lt.2 h))
 have hE11 : ∀ j v, (cS_api_Flow a2)[j]? = some v → w14.cell? ⟨g9, 0 + j, none⟩ = some v := fun j v hv => (cell_keep hc14 o1 hn12 (hE11 j v hv))
 have hn12 := q_hn12
 have hM : MS (M) w14 := (hM.chg hc14)
 have hC := hC.trans hc14 (Ok.nil _ _)
 refine seg ha 1 [(0, .slice ao1 a0.length cap1), (4, .pointer (some ⟨g4, 0, none⟩)), (5, .pointer (some ⟨g9, 0, none⟩)), (7, .bool t14)] (by kernel_rfl) fun a ha => ?_
 refine hK13 _ _ ?_; try clear hK13 K13
 refine wp_seq_k fun K15 hK15 => ?_
 refine wp_seq_k fun K16 hK16 => ?_
 refine wp_region_lit ?_
 obtain ⟨s17, H17, H⟩ := bind_some H
 have J17 : ∀ (a : Act) (w17 : World), Has a Tryz.f4.ntmps [(0, .slice ao1 a0.length cap1), (4, .pointer (some ⟨g4, 0, none⟩)), (5, .pointer (some ⟨g9, 0, none⟩)), (7, .bool t14), (23, .bool s17)] → (RSl rS_api_Join 38 w17 (M) ao1 cap1 a0) → (∀ j v, (cS_api_Join a1)[j]? = some v → w17.cell? ⟨g4, 0 + j, none⟩ = some v) → (g4 ∉ (M)) → (∀ j v, (cS_api_Flow a2)[j]? = some v → w17.cell? ⟨g9, 0 + j, none⟩ = some v) → (g9 ∉ (M)) → (Chg [] w w17) → (MS (M) w17) → K16 a w17 := by
  intro a w17 ha f1 hE6 hn7 hE11 hn12 hC hM
  refine hK16 _ _ ?_; try clear hK16 K16
  refine cnd ha rfl (fun hc18 => ?_) (fun hc18 => ?_)
  ·have H := ite_t hc18 H
   refine wp_seq_k fun K19 hK19 => ?_
   refine wp_region_lit ?_
   refine seg ha 2 [(6, .bool t14)] (by kernel_rfl) fun a ha => ?_
   refine hK19 _ _ ?_; try clear hK19 K19
   refine wp_ret ?_
   try simp only [Exit.then, Exit.inBlock]
   obtain rfl := Option.some.inj H
   refine rt1 ha rfl rfl ?_
   exact ⟨rfl, hC, hM⟩
  ·have H := ite_f hc18 H
   refine wp_skip ?_
   refine hK15 _ _ ?_; try clear hK15 K15
   refine wp_seq_k fun K20 hK20 => ?_
   refine wp_region_lit ?_
   refine seg ha 1 [(0, .slice ao1 a0.length cap1), (4, .pointer (some ⟨g4, 0, none⟩)), (5, .pointer (some ⟨g9, 0, none⟩)), (7, .bool t14), (25, .slice ao1 a0.length cap1)] (by kernel_rfl) fun a ha => ?_
   refine ldA (cs := (cS_api_Flow a2)) ha rfl (by kernel_rfl) rfl rfl rfl (cells_sub hE11 (all := (cS_api_Flow a2)) [] [] (by kernel_rfl)) fun a ha => ?_
   obtain ⟨t21, H21, H⟩ := bind_some H
   refine cl ha (by rfl) (by kernel_rfl) (by rfl) (by rfl) (by rfl) (joins_Ifaces.walk w17 _ hM a0 ao1 cap1 f1 a2 k _ H21) ?_
   rintro _ w21 ⟨ao22, cap22, rfl, f22, ne_i22, hc21, hMn⟩ a ha
   have o1 : Ok [] (M) w17.heap.size := Ok.nil _ _
   have o2 : Ok (blkL ao22 ++ (M)) (M) w17.heap.size := (Ok.app (fun x h => .inr (ne_i22 x h)) (Ok.refl _ _))
   have f1 := f1.chg hc21 o1 o2
   have q_hn7 : g4 ∉ blkL ao22 ++ (M) := fun h => (o2 g4 h).elim hn7 (fun h => absurd (lt_cell (hE6 0 _ rfl)) (Nat.not_lt.2 h))
   have hE6 : ∀ j v, (cS_api_Join a1)[j]? = some v → w21.cell? ⟨g4, 0 + j, none⟩ = some v := fun j v hv => (cell_keep hc21 o1 hn7 (hE6 j v hv))
   have hn7 := q_hn7
   have q_hn12 : g9 ∉ blkL ao22 ++ (M) := fun h => (o2 g9 h).elim hn12 (fun h => absurd (lt_cell (hE11 0 _ rfl)) (Nat.not_lt.2 h))
   have hE11 : ∀ j v, (cS_api_Flow a2)[j]? = some v → w21.cell? ⟨g9, 0 + j, none⟩ = some v := fun j v hv => (cell_keep hc21 o1 hn12 (hE11 j v hv))
   have hn12 := q_hn12
   have p_i22_M : ∀ x ∈ blkL ao22, x ∉ M := fun x hx hy => absurd (hM x (hy)) (Nat.not_lt.2 (ne_i22 x hx))
   have e_i22 : ∀ x ∈ blkL ao22, w.heap.size ≤ x := fun x hx => Nat.le_trans hC.size (ne_i22 x hx)
   have hM : MS (blkL ao22 ++ (M)) w21 := (MS.app (fun x h => hMn x (ml h)) (hM.chg hc21))
   have hC := hC.trans hc21 (Ok.nil _ _)
   refine seg ha 1 [(0, .slice ao1 a0.length cap1), (4, .pointer (some ⟨g4, 0, none⟩)), (5, .pointer (some ⟨g9, 0, none⟩)), (7, .bool t14), (8, .slice ao22 t21.length cap22)] (by kernel_rfl) fun a ha => ?_
   refine hK20 _ _ ?_; try clear hK20 K20
   refine wp_seq_k fun K23 hK23 => ?_
   have okS : Ok [] (blkL ao22 ++ (M)) w21.heap.size := Ok.nil _ _
   have z_f1 := f1
   have z_f22 := (Own.toRSl (M' := []) f22 (Ok.nil _ _) (fun _ _ h => nomatch h))
   have z_hE6 := hE6
   have z_hn7 := hn7
   have z_hE11 := hE11
   have z_hn12 := hn12
   refine drw (fun w' => Chg [] w21 w') (by kernel_rfl) fun w24 hc25 _ => ?_
   have hS : Chg [] w21 w24 := (Chg.refl [] _).trans hc25 (Ok.nil _ _)
   have o1 : Ok [] (blkL ao22 ++ (M)) w21.heap.size := Ok.nil _ _
   have o2 : Ok (blkL ao22 ++ (M)) (blkL ao22 ++ (M)) w21.heap.size := (Ok.refl _ _)
   have f1 := f1.chg hc25 o1 o2
   have f22 := f22.chg hc25 o1 o2 (fun _ _ h => nomatch h) (fun _ h => ml h)
   have q_hn7 : g4 ∉ blkL ao22 ++ (M) := fun h => (o2 g4 h).elim hn7 (fun h => absurd (lt_cell (hE6 0 _ rfl)) (Nat.not_lt.2 h))
   have hE6 : ∀ j v, (cS_api_Join a1)[j]? = some v → w24.cell? ⟨g4, 0 + j, none⟩ = some v := fun j v hv => (cell_keep hc25 o1 hn7 (hE6 j v hv))
   have hn7 := q_hn7
   have q_hn12 : g9 ∉ blkL ao22 ++ (M) := fun h => (o2 g9 h).elim hn12 (fun h => absurd (lt_cell (hE11 0 _ rfl)) (Nat.not_lt.2 h))
   have hE11 : ∀ j v, (cS_api_Flow a2)[j]? = some v → w24.cell? ⟨g9, 0 + j, none⟩ = some v := fun j v hv => (cell_keep hc25 o1 hn12 (hE11 j v hv))
   have hn12 := q_hn12
   have hM : MS (blkL ao22 ++ (M)) w24 := (hM.chg hc25)
   have hC := hC.trans hc25 (Ok.nil _ _)
   obtain ⟨s26, H26, H⟩ := bind_some H
   have J26 : ∀ (a : Act) (w26 : World) (ao27 : Option Addr) (cap27 : Nat), Has a Tryz.f4.ntmps [(4, .pointer (some ⟨g4, 0, none⟩)), (5, .pointer (some ⟨g9, 0, none⟩)), (7, .bool t14), (8, .slice ao22 t21.length cap22), (9, .slice ao27 s26.length cap27)] → (Own rStr 9 w26 (blkL ao27 ++ (blkL ao22 ++ (M))) ao22 cap22 t21) → (Own rStr 9 w26 (blkL ao27 ++ (blkL ao22 ++ (M))) ao27 cap27 s26) → (∀ j v, (cS_api_Join a1)[j]? = some v → w26.cell? ⟨g4, 0 + j, none⟩ = some v) → (g4 ∉ (blkL ao27 ++ (blkL ao22 ++ (M)))) → (∀ j v, (cS_api_Flow a2)[j]? = some v → w26.cell? ⟨g9, 0 + j, none⟩ = some v) → (g9 ∉ (blkL ao27 ++ (blkL ao22 ++ (M)))) → (∀ x ∈ blkL ao27, w.heap.size ≤ x) → (∀ x ∈ blkL ao27, x ∉ blkL ao22) → (∀ x ∈ blkL ao27, x ∉ M) → (Chg [] w w26) → (MS (blkL ao27 ++ (blkL ao22 ++ (M))) w26) → K23 a w26 := by
    intro a w26 ao27 cap27 ha f22 f27 hE6 hn7 hE11 hn12 e_i27 p_i27_i22 p_i27_M hC hM
    refine hK23 _ _ ?_; try clear hK23 K23
    refine wp_seq_k fun K28 hK28 => ?_
    refine wp_region_lit ?_
    obtain ⟨s29, H29, H⟩ := bind_some H
    have J29 : ∀ (a : Act) (w29 : World), Has a Tryz.f4.ntmps [(4, .pointer (some ⟨g4, 0, none⟩)), (7, .bool t14), (8, .slice ao22 t21.length cap22), (9, .slice ao27 s26.length cap27), (10, .bool s29)] → (Own rStr 9 w29 (blkL ao27 ++ (blkL ao22 ++ (M))) ao22 cap22 t21) → (Own rStr 9 w29 (blkL ao27 ++ (blkL ao22 ++ (M))) ao27 cap27 s26) → (∀ j v, (cS_api_Join a1)[j]? = some v → w29.cell? ⟨g4, 0 + j, none⟩ = some v) → (g4 ∉ (blkL ao27 ++ (blkL ao22 ++ (M)))) → (Chg [] w w29) → (MS (blkL ao27 ++ (blkL ao22 ++ (M))) w29) → K28 a w29 := by
     intro a w29 ha f22 f27 hE6 hn7 hC hM
     refine hK28 _ _ ?_; try clear hK28 K28
     refine wp_seq_k fun K30 hK30 => ?_
     refine wp_region_lit ?_
     refine seg ha 1 [(4, .pointer (some ⟨g4, 0, none⟩)), (7, .bool t14), (8, .slice ao22 t21.length cap22), (9, .slice ao27 s26.length cap27), (10, .bool s29), (11, .bool false)] (by kernel_rfl) fun a ha => ?_
     refine hK30 _ _ ?_; try clear hK30 K30
     refine wp_seq_k fun K31 hK31 => ?_
     refine wp_seq_k fun K32 hK32 => ?_
     refine wp_region_lit ?_
     refine seg ha 1 [(4, .pointer (some ⟨g4, 0, none⟩)), (7, .bool t14), (8, .slice ao22 t21.length cap22), (9, .slice ao27 s26.length cap27), (10, .bool s29), (11, .bool false), (12, .int .i64 (0 : Int))] (by kernel_rfl) fun a ha => ?_
     refine hK32 _ _ ?_; try clear hK32 K32
     refine wp_block ?_
     obtain ⟨s33, H33, H⟩ := bind_some H
     have J33 : ∀ (a : Act) (wx33 : World), Has a Tryz.f4.ntmps [(4, .pointer (some ⟨g4, 0, none⟩)), (7, .bool t14), (8, .slice ao22 t21.length cap22), (9, .slice ao27 s26.length cap27), (10, .bool s29), (11, .bool s33)] → (Own rStr 9 wx33 (blkL ao27 ++ (blkL ao22 ++ (M))) ao22 cap22 t21) → (Own rStr 9 wx33 (blkL ao27 ++ (blkL ao22 ++ (M))) ao27 cap27 s26) → (∀ j v, (cS_api_Join a1)[j]? = some v → wx33.cell? ⟨g4, 0 + j, none⟩ = some v) → (g4 ∉ (blkL ao27 ++ (blkL ao22 ++ (M)))) → (Chg [] w wx33) → (MS (blkL ao27 ++ (blkL ao22 ++ (M))) wx33) → K31 a wx33 := by
      intro a wx33 ha f22 f27 hE6 hn7 hC hM
      refine hK31 _ _ ?_; try clear hK31 K31
      refine wp_seq_k fun K36 hK36 => ?_
      refine wp_region_lit ?_
      refine seg ha 1 [(4, .pointer (some ⟨g4, 0, none⟩)), (7, .bool t14), (8, .slice ao22 t21.length cap22), (9, .slice ao27 s26.length cap27), (10, .bool s29), (11, .bool s33), (13, .int .i64 (0 : Int))] (by kernel_rfl) fun a ha => ?_
      refine hK36 _ _ ?_; try clear hK36 K36
      refine wp_seq_k fun K37 hK37 => ?_
      refine wp_seq_k fun K38 hK38 => ?_
      refine wp_region_lit ?_
      refine seg ha 1 [(4, .pointer (some ⟨g4, 0, none⟩)), (7, .bool t14), (8, .slice ao22 t21.length cap22), (9, .slice ao27 s26.length cap27), (10, .bool s29), (11, .bool s33), (13, .int .i64 (0 : Int)), (14, .int .i64 (0 : Int))] (by kernel_rfl) fun a ha => ?_
      refine hK38 _ _ ?_; try clear hK38 K38
      refine wp_block ?_
      obtain ⟨s39, H39, H⟩ := bind_some H
      have J39 : ∀ s39' (a : Act) (wx39 : World), s39 = .inr s39' → Has a Tryz.f4.ntmps [(4, .pointer (some ⟨g4, 0, none⟩)), (7, .bool t14), (8, .slice ao22 t21.length cap22), (9, .slice ao27 s26.length cap27), (10, .bool s29), (11, .bool s33), (13, .int .i64 s39')] → (Own rStr 9 wx39 (blkL ao27 ++ (blkL ao22 ++ (M))) ao22 cap22 t21) → (Own rStr 9 wx39 (blkL ao27 ++ (blkL ao22 ++ (M))) ao27 cap27 s26) → (∀ j v, (cS_api_Join a1)[j]? = some v → wx39.cell? ⟨g4, 0 + j, none⟩ = some v) → (g4 ∉ (blkL ao27 ++ (blkL ao22 ++ (M)))) → (Chg [] w wx39) → (MS (blkL ao27 ++ (blkL ao22 ++ (M))) wx39) → K37 a wx39 := by
       intro s39' a wx39 hs ha f22 f27 hE6 hn7 hC hM
       subst hs
       refine hK37 _ _ ?_; try clear hK37 K37
       refine wp_seq_k fun K42 hK42 => ?_
       refine wp_seq_k fun K43 hK43 => ?_
       refine wp_region_lit ?_
       refine seg ha 5 [(4, .pointer (some ⟨g4, 0, none⟩)), (7, .bool t14), (8, .slice ao22 t21.length cap22), (9, .slice ao27 s26.length cap27), (13, .int .i64 s39'), (110, .bool (if (!s29) = true then true else s33))] (by kernel_rfl) fun a ha => ?_
       refine hK43 _ _ ?_; try clear hK43 K43
       refine cnd ha rfl (fun hc44 => ?_) (fun hc44 => ?_)
       ·have H := ite_t hc44 H
        refine wp_seq_k fun K45 hK45 => ?_
        refine wp_region_lit ?_
        obtain ⟨s46, H46, H⟩ := bind_some H
        have J46 : ∀ (a : Act) (w46 : World), Has a Tryz.f4.ntmps [(6, .bool s46)] → (Chg [] w w46) → (MS (M) w46) → K45 a w46 := by
         intro a w46 ha hC hM
         refine hK45 _ _ ?_; try clear hK45 K45
         refine wp_ret ?_
         try simp only [Exit.then, Exit.inBlock]
         obtain rfl := Option.some.inj H
         refine rt1 ha rfl rfl ?_
         exact ⟨rfl, hC, hM⟩
        have H := H46
        refine seg ha 2 [(112, .bool t14), (8, .slice ao22 t21.length cap22), (9, .slice ao27 s26.length cap27)] (by kernel_rfl) fun a ha => ?_
        rcases Bool.eq_false_or_eq_true (t14) with hb47 | hb47
        ·have ha := ha.lit hb47
         have H := ite_t hb47 H
         refine sgh ha 2 [2, 2] [(112, .bool true), (113, .slice ao22 t21.length cap22), (114, .slice ao27 s26.length cap27)] (by kernel_rfl) fun a ha => ?_
         have hML : MS (M) wx39 := MS.rest hM (fun _ h => mr (mr (h)))
         have oL : Ok (M) (blkL ao27 ++ (blkL ao22 ++ (M))) wx39.heap.size := (fun _ h => .inl (mr (mr (h))))
         obtain ⟨t48, H48, H⟩ := bind_some H
         refine cl ha (by rfl) (by kernel_rfl) (by rfl) (by rfl) (by rfl) (vineryref20_SameTexts.walk wx39 _ hML t21 ao22 cap22 (Own.toRSl (M' := M) f22 oL (fun x hx hm => p_i22_M x hx hm)) s26 ao27 cap27 (Own.toRSl (M' := M) f27 oL (fun x hx hm => p_i27_M x hx hm)) k _ H48) ?_
         rintro _ w48 ⟨rfl, hc48, hMn⟩ a ha
         have o1 : Ok [] (blkL ao27 ++ (blkL ao22 ++ (M))) wx39.heap.size := Ok.nil _ _
         have o2 : Ok (blkL ao27 ++ (blkL ao22 ++ (M))) (blkL ao27 ++ (blkL ao22 ++ (M))) wx39.heap.size := (Ok.refl _ _)
         have f22 := f22.chg hc48 o1 o2 (fun _ _ h => nomatch h) (fun _ h => mr (ml h))
         have f27 := f27.chg hc48 o1 o2 (fun _ _ h => nomatch h) (fun _ h => ml h)
         have hM : MS (blkL ao27 ++ (blkL ao22 ++ (M))) w48 := (hM.chg hc48)
         have hC := hC.trans hc48 (Ok.nil _ _)
         refine sgh ha 2 [3, 0] [(6, .bool t48)] (by kernel_rfl) fun a ha => ?_
         obtain rfl := Option.some.inj H
         have hM : MS (M) w48 := (fun x h => hM.chg (Chg.refl [] _) x (mr (mr (h))))
         exact J46 _ _ (ha.sel (by kernel_rfl)) hC hM
        ·have ha := ha.lit hb47
         have H := ite_f hb47 H
         refine sgh ha 5 [1, 1, 1, 4, 0] [(6, .bool false)] (by kernel_rfl) fun a ha => ?_
         obtain rfl := Option.some.inj H
         have hM : MS (M) wx39 := (fun x h => hM.chg (Chg.refl [] _) x (mr (mr (h))))
         exact J46 _ _ (ha.sel (by kernel_rfl)) hC hM
       ·have H := ite_f hc44 H
        refine wp_skip ?_
        refine hK42 _ _ ?_; try clear hK42 K42
        refine wp_seq_k fun K49 hK49 => ?_
        refine wp_region_lit ?_
        obtain ⟨s50, H50, H⟩ := bind_some H
        have J50 : ∀ (a : Act) (w50 : World), Has a Tryz.f4.ntmps [(6, .bool s50)] → (Chg [] w w50) → (MS (M) w50) → K49 a w50 := by
         intro a w50 ha hC hM
         refine hK49 _ _ ?_; try clear hK49 K49
         refine wp_ret ?_
         try simp only [Exit.then, Exit.inBlock]
         obtain rfl := Option.some.inj H
         refine rt1 ha rfl rfl ?_
         exact ⟨rfl, hC, hM⟩
        have H := H50
        refine seg ha 2 [(118, .bool t14), (4, .pointer (some ⟨g4, 0, none⟩)), (8, .slice ao22 t21.length cap22), (9, .slice ao27 s26.length cap27), (13, .int .i64 s39')] (by kernel_rfl) fun a ha => ?_
        rcases Bool.eq_false_or_eq_true (t14) with hb51 | hb51
        ·have ha := ha.lit hb51
         have H := ite_t hb51 H
         refine sgh ha 4 [2, 2, 3, 0] [(122, .bool (s39' == (1 : Int))), (4, .pointer (some ⟨g4, 0, none⟩)), (8, .slice ao22 t21.length cap22), (9, .slice ao27 s26.length cap27)] (by kernel_rfl) fun a ha => ?_
         rcases Bool.eq_false_or_eq_true (s39' == (1 : Int)) with hb52 | hb52
         ·have ha := ha.lit hb52
          have H := ite_t hb52 H
          refine sgh ha 8 [2, 2, 2, 2, 2, 2, 3, 0] [(130, .bool ((s26.length : Int) == (IntKind.i64.wrap ((t21.length : Int) + (1 : Int))))), (4, .pointer (some ⟨g4, 0, none⟩))] (by kernel_rfl) fun a ha => ?_
          rcases Bool.eq_false_or_eq_true ((s26.length : Int) == (IntKind.i64.wrap ((t21.length : Int) + (1 : Int)))) with hb53 | hb53
          ·have ha := ha.lit hb53
           have H := ite_t hb53 H
           refine sgh ha 1 [2] [(130, .bool true), (131, .pointer (some ⟨g4, 0 + 19, none⟩))] (by kernel_rfl) fun a ha => ?_
           refine ldA (cs := (cS_api_Addr a1.Group)) ha rfl (by kernel_rfl) rfl rfl rfl (cells_sub hE6 (all := (cS_api_Join a1)) [.string (bstr a1.Vrf), .string (bstr a1.Iface), .int .i64 a1.Source.Size, .int .u8 (ar a1.Source.B 0), .int .u8 (ar a1.Source.B 1), .int .u8 (ar a1.Source.B 2), .int .u8 (ar a1.Source.B 3), .int .u8 (ar a1.Source.B 4), .int .u8 (ar a1.Source.B 5), .int .u8 (ar a1.Source.B 6), .int .u8 (ar a1.Source.B 7), .int .u8 (ar a1.Source.B 8), .int .u8 (ar a1.Source.B 9), .int .u8 (ar a1.Source.B 10), .int .u8 (ar a1.Source.B 11), .int .u8 (ar a1.Source.B 12), .int .u8 (ar a1.Source.B 13), .int .u8 (ar a1.Source.B 14), .int .u8 (ar a1.Source.B 15)] [] (by kernel_rfl)) fun a ha => ?_
           obtain ⟨t54, H54, H⟩ := bind_some H
           refine cl ha (by rfl) (by kernel_rfl) (by rfl) (by rfl) (by rfl) (addr_Multicast.walk wx39 _ hM a1.Group k _ H54) ?_
           rintro _ w54 ⟨rfl, hc54, hMn⟩ a ha
           have hM : MS (blkL ao27 ++ (blkL ao22 ++ (M))) w54 := (hM.chg hc54)
           have hC := hC.trans hc54 (Ok.nil _ _)
           refine sgh ha 2 [3, 0] [(6, .bool t54)] (by kernel_rfl) fun a ha => ?_
           obtain rfl := Option.some.inj H
           have hM : MS (M) w54 := (fun x h => hM.chg (Chg.refl [] _) x (mr (mr (h))))
           exact J50 _ _ (ha.sel (by kernel_rfl)) hC hM
          ·have ha := ha.lit hb53
           have H := ite_f hb53 H
           refine sgh ha 5 [1, 1, 1, 4, 0] [(6, .bool false)] (by kernel_rfl) fun a ha => ?_
           obtain rfl := Option.some.inj H
           have hM : MS (M) wx39 := (fun x h => hM.chg (Chg.refl [] _) x (mr (mr (h))))
           exact J50 _ _ (ha.sel (by kernel_rfl)) hC hM
         ·have ha := ha.lit hb52
          have H := ite_f hb52 H
          refine sgh ha 13 [1, 1, 1, 1, 1, 1, 4, 0, 1, 1, 1, 4, 0] [(6, .bool false)] (by kernel_rfl) fun a ha => ?_
          obtain rfl := Option.some.inj H
          have hM : MS (M) wx39 := (fun x h => hM.chg (Chg.refl [] _) x (mr (mr (h))))
          exact J50 _ _ (ha.sel (by kernel_rfl)) hC hM
        ·have ha := ha.lit hb51
         have H := ite_f hb51 H
         refine sgh ha 17 [1, 1, 4, 0, 1, 1, 1, 1, 1, 1, 4, 0, 1, 1, 1, 4, 0] [(6, .bool false)] (by kernel_rfl) fun a ha => ?_
         obtain rfl := Option.some.inj H
         have hM : MS (M) wx39 := (fun x h => hM.chg (Chg.refl [] _) x (mr (mr (h))))
         exact J50 _ _ (ha.sel (by kernel_rfl)) hC hM
      have Hc39 := H
      have H := H39
      refine wp_loop_ghost (fun kk a w39 => ∃ (x40 : Int) (x41 : Int), vinerylaw20_JoinsAsks.l1 a1 s26 kk x40 x41 = some s39 ∧ Has a Tryz.f4.ntmps [(4, .pointer (some ⟨g4, 0, none⟩)), (7, .bool t14), (8, .slice ao22 t21.length cap22), (9, .slice ao27 s26.length cap27), (10, .bool s29), (11, .bool s33), (13, .int .i64 x40), (14, .int .i64 x41)] ∧ (Own rStr 9 w39 (blkL ao27 ++ (blkL ao22 ++ (M))) ao22 cap22 t21) ∧ (Own rStr 9 w39 (blkL ao27 ++ (blkL ao22 ++ (M))) ao27 cap27 s26) ∧ (∀ j v, (cS_api_Join a1)[j]? = some v → w39.cell? ⟨g4, 0 + j, none⟩ = some v) ∧ (g4 ∉ (blkL ao27 ++ (blkL ao22 ++ (M)))) ∧ (Chg [] w w39) ∧ (MS (blkL ao27 ++ (blkL ao22 ++ (M))) w39)) k ?_ ?_
      ·skip
       exact ⟨(0 : Int), (0 : Int), H, (ha.sel (by kernel_rfl)), f22, f27, hE6, hn7, hC, hM⟩
      ·rintro kk a w39 ⟨x40, x41, H, ha, f22, f27, hE6, hn7, hC, hM⟩
       obtain _ | kk := kk
       ·exact nomatch (show none = some _ from H)
       rw [vinerylaw20_JoinsAsks.l1] at H
       refine wp_seq_k fun K55 hK55 => ?_
       refine wp_seq_k fun K56 hK56 => ?_
       refine wp_region_lit ?_
       refine seg ha 4 [(4, .pointer (some ⟨g4, 0, none⟩)), (7, .bool t14), (8, .slice ao22 t21.length cap22), (9, .slice ao27 s26.length cap27), (10, .bool s29), (11, .bool s33), (13, .int .i64 x40), (14, .int .i64 x41), (80, .bool (decide (x41 < (s26.length : Int))))] (by kernel_rfl) fun a ha => ?_
       refine hK56 _ _ ?_; try clear hK56 K56
       refine cnd ha rfl (fun hc57 => ?_) (fun hc57 => ?_)
       ·have H := ite_t hc57 H
        refine wp_skip ?_
        refine hK55 _ _ ?_; try clear hK55 K55
        refine wp_seq_k fun K58 hK58 => ?_
        refine wp_block ?_
        refine wp_seq_k fun K59 hK59 => ?_
        obtain ⟨s60, H60, H⟩ := bind_some H
        have J60 : ∀ (a : Act) (w60 : World), Has a Tryz.f4.ntmps [(4, .pointer (some ⟨g4, 0, none⟩)), (7, .bool t14), (8, .slice ao22 t21.length cap22), (9, .slice ao27 s26.length cap27), (10, .bool s29), (11, .bool s33), (13, .int .i64 s60), (14, .int .i64 x41)] → (Own rStr 9 w60 (blkL ao27 ++ (blkL ao22 ++ (M))) ao22 cap22 t21) → (Own rStr 9 w60 (blkL ao27 ++ (blkL ao22 ++ (M))) ao27 cap27 s26) → (∀ j v, (cS_api_Join a1)[j]? = some v → w60.cell? ⟨g4, 0 + j, none⟩ = some v) → (g4 ∉ (blkL ao27 ++ (blkL ao22 ++ (M)))) → (Chg [] w w60) → (MS (blkL ao27 ++ (blkL ao22 ++ (M))) w60) → K59 a w60 := by
         intro a w60 ha f22 f27 hE6 hn7 hC hM
         refine hK59 _ _ ?_; try clear hK59 K59
         refine wp_seq_k fun K61 hK61 => ?_
         refine drq0 (fun w' => Chg [] w60 w') (by kernel_rfl) (by kernel_rfl) (fun _ h => h) ?_
         obtain ⟨s62, H62, H⟩ := bind_some H
         have J62 : ∀ (a : Act) (w62 : World), Has a Tryz.f4.ntmps [(4, .pointer (some ⟨g4, 0, none⟩)), (7, .bool t14), (8, .slice ao22 t21.length cap22), (9, .slice ao27 s26.length cap27), (10, .bool s29), (11, .bool s33), (13, .int .i64 s60), (14, .int .i64 x41), (105, .bool s62)] → (Own rStr 9 w62 (blkL ao27 ++ (blkL ao22 ++ (M))) ao22 cap22 t21) → (Own rStr 9 w62 (blkL ao27 ++ (blkL ao22 ++ (M))) ao27 cap27 s26) → (∀ j v, (cS_api_Join a1)[j]? = some v → w62.cell? ⟨g4, 0 + j, none⟩ = some v) → (g4 ∉ (blkL ao27 ++ (blkL ao22 ++ (M)))) → (Chg [] w w62) → (MS (blkL ao27 ++ (blkL ao22 ++ (M))) w62) → K61 a w62 := by
          intro a w62 ha f22 f27 hE6 hn7 hC hM
          refine hK61 _ _ ?_; try clear hK61 K61
          refine cnd ha rfl (fun hc63 => ?_) (fun hc63 => ?_)
          ·have H := ite_t hc63 H
           refine wp_seq_k fun K64 hK64 => ?_
           refine wp_region_lit ?_
           refine seg ha 1 [(6, .bool false)] (by kernel_rfl) fun a ha => ?_
           refine hK64 _ _ ?_; try clear hK64 K64
           refine wp_ret ?_
           try simp only [Exit.then, Exit.inBlock]
           have hM : MS (M) w62 := (fun x h => hM.chg (Chg.refl [] _) x (mr (mr (h))))
           obtain rfl := Option.some.inj H
           have H := (show some _ = some _ from Hc39)
           obtain rfl := Option.some.inj H
           refine rt1 ha rfl rfl ?_
           exact ⟨rfl, hC, hM⟩
          ·have H := ite_f hc63 H
           refine wp_skip ?_
           refine hK58 _ _ ?_; try clear hK58 K58
           refine wp_region_lit ?_
           refine seg ha 3 [(4, .pointer (some ⟨g4, 0, none⟩)), (7, .bool t14), (8, .slice ao22 t21.length cap22), (9, .slice ao27 s26.length cap27), (10, .bool s29), (11, .bool s33), (13, .int .i64 s60), (14, .int .i64 (IntKind.i64.wrap (x41 + (1 : Int))))] (by kernel_rfl) fun a ha => ?_
           exact ⟨kk, Nat.lt_succ_self _, ⟨s60, IntKind.i64.wrap (x41 + (1 : Int)), H, (ha.sel (by kernel_rfl)), f22, f27, hE6, hn7, hC, hM⟩⟩
         have H := H62
         refine qp 0 (.int .i64 x41) ha rfl rfl rfl (by kernel_rfl) fun a ha => ?_
         refine qp 0 (.bool (decide (x41 > (0 : Int)))) ha rfl rfl rfl (by kernel_rfl) fun a ha => ?_
         refine qp 0 (.bool (decide (x41 > (0 : Int)))) ha rfl rfl rfl (by kernel_rfl) fun a ha => ?_
         have ha := ha.sel (env' := [(94, .bool (decide (x41 > (0 : Int)))), (4, .pointer (some ⟨g4, 0, none⟩)), (7, .bool t14), (8, .slice ao22 t21.length cap22), (9, .slice ao27 s26.length cap27), (10, .bool s29), (11, .bool s33), (13, .int .i64 s60), (14, .int .i64 x41)]) (by kernel_rfl)
         rcases Bool.eq_false_or_eq_true (decide (x41 > (0 : Int))) with hb65 | hb65
         ·have ha := ha.lit hb65
          have H := ite_t hb65 H
          refine qp 0 (.slice ao27 s26.length cap27) ha rfl rfl rfl (by kernel_rfl) fun a ha => ?_
          refine qp 0 (.int .i64 x41) ha rfl rfl rfl (by kernel_rfl) fun a ha => ?_
          refine qp 0 (.int .i64 (IntKind.i64.wrap (x41 - (1 : Int)))) ha rfl rfl rfl (by kernel_rfl) fun a ha => ?_
          obtain ⟨⟨hx66, hx66'⟩, H⟩ := ite_some H
          obtain ⟨ge67, oe680, cs69, hx66eq, hn72, hR70, hE71⟩ := RSl.elem (Own.toRSl (M' := []) f27 (Ok.nil _ _) (fun _ _ h => nomatch h)) (Int.toNat (IntKind.i64.wrap (x41 - (1 : Int)))) (by omega)
          rw [rd_get] at hR70
          obtain rfl := hR70
          have hE71 : ∀ j v, ([.string (bstr (rd s26 (IntKind.i64.wrap (x41 - (1 : Int)))))] : List Value)[j]? = some v → w60.cell? ⟨ge67, (oe680 + (Int.toNat (IntKind.i64.wrap (x41 - (1 : Int)))) * rStr.sz) + j, none⟩ = some v := hE71
          refine qv (v := .pointer (some ⟨ge67, (oe680 + (Int.toNat (IntKind.i64.wrap (x41 - (1 : Int)))) * rStr.sz), none⟩)) ha rfl rfl rfl (fun w' hs => ix_run (r := rStr) (T := 9) ha (by kernel_rfl) (by kernel_rfl) (by rfl) (by rfl) hx66eq hx66 hx66') fun a ha => ?_
          refine qv (v := .string (bstr (rd s26 (IntKind.i64.wrap (x41 - (1 : Int)))))) ha rfl rfl rfl (fun w' hs => ld_run ha rfl (by kernel_rfl) (hs.keep (hE71 0 (.string (bstr (rd s26 (IntKind.i64.wrap (x41 - (1 : Int)))))) (by kernel_rfl)))) fun a ha => ?_
          refine qp 0 (.slice ao27 s26.length cap27) ha rfl rfl rfl (by kernel_rfl) fun a ha => ?_
          refine qp 0 (.int .i64 x41) ha rfl rfl rfl (by kernel_rfl) fun a ha => ?_
          obtain ⟨⟨hx73, hx73'⟩, H⟩ := ite_some H
          obtain ⟨ge74, oe750, cs76, hx73eq, hn79, hR77, hE78⟩ := RSl.elem (Own.toRSl (M' := []) f27 (Ok.nil _ _) (fun _ _ h => nomatch h)) (Int.toNat x41) (by omega)
          rw [rd_get] at hR77
          obtain rfl := hR77
          have hE78 : ∀ j v, ([.string (bstr (rd s26 x41))] : List Value)[j]? = some v → w60.cell? ⟨ge74, (oe750 + (Int.toNat x41) * rStr.sz) + j, none⟩ = some v := hE78
          refine qv (v := .pointer (some ⟨ge74, (oe750 + (Int.toNat x41) * rStr.sz), none⟩)) ha rfl rfl rfl (fun w' hs => ix_run (r := rStr) (T := 9) ha (by kernel_rfl) (by kernel_rfl) (by rfl) (by rfl) hx73eq hx73 hx73') fun a ha => ?_
          refine qv (v := .string (bstr (rd s26 x41))) ha rfl rfl rfl (fun w' hs => ld_run ha rfl (by kernel_rfl) (hs.keep (hE78 0 (.string (bstr (rd s26 x41))) (by kernel_rfl)))) fun a ha => ?_
          refine qv (v := .bool (!Op.bytesLess (bstr (rd s26 (IntKind.i64.wrap (x41 - (1 : Int))))).toList (bstr (rd s26 x41)).toList)) ha rfl rfl rfl (fun w' hs => sge_run ha (by rfl) (by rfl) w') fun a ha => ?_
          refine qp 3 (.bool (!Op.bytesLess (bstr (rd s26 (IntKind.i64.wrap (x41 - (1 : Int))))).toList (bstr (rd s26 x41)).toList)) ha rfl rfl rfl (by kernel_rfl) fun a ha => ?_
          refine wpQuiet_nil ?_
          intro w80 hc81
          have o1 : Ok [] (blkL ao27 ++ (blkL ao22 ++ (M))) w60.heap.size := Ok.nil _ _
          have o2 : Ok (blkL ao27 ++ (blkL ao22 ++ (M))) (blkL ao27 ++ (blkL ao22 ++ (M))) w60.heap.size := (Ok.refl _ _)
          have f22 := f22.chg hc81 o1 o2 (fun _ _ h => nomatch h) (fun _ h => mr (ml h))
          have f27 := f27.chg hc81 o1 o2 (fun _ _ h => nomatch h) (fun _ h => ml h)
          have q_hn7 : g4 ∉ blkL ao27 ++ (blkL ao22 ++ (M)) := fun h => (o2 g4 h).elim hn7 (fun h => absurd (lt_cell (hE6 0 _ rfl)) (Nat.not_lt.2 h))
          have hE6 : ∀ j v, (cS_api_Join a1)[j]? = some v → w80.cell? ⟨g4, 0 + j, none⟩ = some v := fun j v hv => (cell_keep hc81 o1 hn7 (hE6 j v hv))
          have hn7 := q_hn7
          have hM : MS (blkL ao27 ++ (blkL ao22 ++ (M))) w80 := (hM.chg hc81)
          have hC := hC.trans hc81 (Ok.nil _ _)
          refine wpl_end ?_
          obtain rfl := Option.some.inj H
          exact J62 _ _ (ha.sel (by kernel_rfl)) f22 f27 hE6 hn7 hC hM
         ·have ha := ha.lit hb65
          have H := ite_f hb65 H
          refine qo ha rfl rfl rfl fun a ha => ?_
          refine qo ha rfl rfl rfl fun a ha => ?_
          refine qo ha rfl rfl rfl fun a ha => ?_
          refine qo ha rfl rfl rfl fun a ha => ?_
          refine qo ha rfl rfl rfl fun a ha => ?_
          refine qo ha rfl rfl rfl fun a ha => ?_
          refine qo ha rfl rfl rfl fun a ha => ?_
          refine qo ha rfl rfl rfl fun a ha => ?_
          refine qo ha rfl rfl rfl fun a ha => ?_
          refine qo ha rfl rfl rfl fun a ha => ?_
          refine qp 4 (.bool false) ha rfl rfl rfl (by kernel_rfl) fun a ha => ?_
          refine wpQuiet_nil ?_
          intro w82 hc83
          have o1 : Ok [] (blkL ao27 ++ (blkL ao22 ++ (M))) w60.heap.size := Ok.nil _ _
          have o2 : Ok (blkL ao27 ++ (blkL ao22 ++ (M))) (blkL ao27 ++ (blkL ao22 ++ (M))) w60.heap.size := (Ok.refl _ _)
          have f22 := f22.chg hc83 o1 o2 (fun _ _ h => nomatch h) (fun _ h => mr (ml h))
          have f27 := f27.chg hc83 o1 o2 (fun _ _ h => nomatch h) (fun _ h => ml h)
          have q_hn7 : g4 ∉ blkL ao27 ++ (blkL ao22 ++ (M)) := fun h => (o2 g4 h).elim hn7 (fun h => absurd (lt_cell (hE6 0 _ rfl)) (Nat.not_lt.2 h))
          have hE6 : ∀ j v, (cS_api_Join a1)[j]? = some v → w82.cell? ⟨g4, 0 + j, none⟩ = some v := fun j v hv => (cell_keep hc83 o1 hn7 (hE6 j v hv))
          have hn7 := q_hn7
          have hM : MS (blkL ao27 ++ (blkL ao22 ++ (M))) w82 := (hM.chg hc83)
          have hC := hC.trans hc83 (Ok.nil _ _)
          refine wpl_end ?_
          obtain rfl := Option.some.inj H
          exact J62 _ _ (ha.sel (by kernel_rfl)) f22 f27 hE6 hn7 hC hM
        have H := H60
        refine wp_seq_k fun K84 hK84 => ?_
        refine drq0 (fun w' => Chg [] w39 w') (by kernel_rfl) (by kernel_rfl) (fun _ h => h) ?_
        refine qp 0 (.slice ao27 s26.length cap27) ha rfl rfl rfl (by kernel_rfl) fun a ha => ?_
        refine qp 0 (.int .i64 x41) ha rfl rfl rfl (by kernel_rfl) fun a ha => ?_
        obtain ⟨⟨hx85, hx85'⟩, H⟩ := ite_some H
        obtain ⟨ge86, oe870, cs88, hx85eq, hn91, hR89, hE90⟩ := RSl.elem (Own.toRSl (M' := []) f27 (Ok.nil _ _) (fun _ _ h => nomatch h)) (Int.toNat x41) (by omega)
        rw [rd_get] at hR89
        obtain rfl := hR89
        have hE90 : ∀ j v, ([.string (bstr (rd s26 x41))] : List Value)[j]? = some v → w39.cell? ⟨ge86, (oe870 + (Int.toNat x41) * rStr.sz) + j, none⟩ = some v := hE90
        refine qv (v := .pointer (some ⟨ge86, (oe870 + (Int.toNat x41) * rStr.sz), none⟩)) ha rfl rfl rfl (fun w' hs => ix_run (r := rStr) (T := 9) ha (by kernel_rfl) (by kernel_rfl) (by rfl) (by rfl) hx85eq hx85 hx85') fun a ha => ?_
        refine qv (v := .string (bstr (rd s26 x41))) ha rfl rfl rfl (fun w' hs => ld_run ha rfl (by kernel_rfl) (hs.keep (hE90 0 (.string (bstr (rd s26 x41))) (by kernel_rfl)))) fun a ha => ?_
        refine qp 0 (.pointer (some ⟨g4, 0 + 1, none⟩)) ha rfl rfl rfl (by kernel_rfl) fun a ha => ?_
        refine qv (v := .string (bstr a1.Iface)) ha rfl rfl rfl (fun w' hs => ld_run ha rfl (by kernel_rfl) (hs.keep (hE6 1 (.string (bstr a1.Iface)) (by kernel_rfl)))) fun a ha => ?_
        refine qp 0 (.bool ((bstr (rd s26 x41)).toList == (bstr a1.Iface).toList)) ha rfl rfl rfl (by kernel_rfl) fun a ha => ?_
        refine wpQuiet_nil ?_
        intro w92 hc93
        have o1 : Ok [] (blkL ao27 ++ (blkL ao22 ++ (M))) w39.heap.size := Ok.nil _ _
        have o2 : Ok (blkL ao27 ++ (blkL ao22 ++ (M))) (blkL ao27 ++ (blkL ao22 ++ (M))) w39.heap.size := (Ok.refl _ _)
        have f22 := f22.chg hc93 o1 o2 (fun _ _ h => nomatch h) (fun _ h => mr (ml h))
        have f27 := f27.chg hc93 o1 o2 (fun _ _ h => nomatch h) (fun _ h => ml h)
        have q_hn7 : g4 ∉ blkL ao27 ++ (blkL ao22 ++ (M)) := fun h => (o2 g4 h).elim hn7 (fun h => absurd (lt_cell (hE6 0 _ rfl)) (Nat.not_lt.2 h))
        have hE6 : ∀ j v, (cS_api_Join a1)[j]? = some v → w92.cell? ⟨g4, 0 + j, none⟩ = some v := fun j v hv => (cell_keep hc93 o1 hn7 (hE6 j v hv))
        have hn7 := q_hn7
        have hM : MS (blkL ao27 ++ (blkL ao22 ++ (M))) w92 := (hM.chg hc93)
        have hC := hC.trans hc93 (Ok.nil _ _)
        refine wpl_end ?_
        refine hK84 _ _ ?_; try clear hK84 K84
        refine cnd ha rfl (fun hc94 => ?_) (fun hc94 => ?_)
        ·have H := ite_t hc94 H
         refine wp_region_lit ?_
         refine seg ha 3 [(4, .pointer (some ⟨g4, 0, none⟩)), (7, .bool t14), (8, .slice ao22 t21.length cap22), (9, .slice ao27 s26.length cap27), (10, .bool s29), (11, .bool s33), (13, .int .i64 (IntKind.i64.wrap (x40 + (1 : Int)))), (14, .int .i64 x41)] (by kernel_rfl) fun a ha => ?_
         obtain rfl := Option.some.inj H
         exact J60 _ _ (ha.sel (by kernel_rfl)) f22 f27 hE6 hn7 hC hM
        ·have H := ite_f hc94 H
         refine wp_skip ?_
         obtain rfl := Option.some.inj H
         exact J60 _ _ (ha.sel (by kernel_rfl)) f22 f27 hE6 hn7 hC hM
       ·have H := ite_f hc57 H
        refine wp_exit ?_
        simp only [Exit.then, Exit.inBlock, ↓reduceIte, Nat.reduceEqDiff]
        obtain rfl := Option.some.inj H
        exact J39 _ _ _ rfl (ha.sel (by kernel_rfl)) f22 f27 hE6 hn7 hC hM
     have Hc33 := H
     have H := H33
     refine wp_loop_ghost (fun kk a w33 => ∃ (x34 : Bool) (x35 : Int), vinerylaw20_JoinsAsks.l0 a1 t21 kk x34 x35 = some s33 ∧ Has a Tryz.f4.ntmps [(4, .pointer (some ⟨g4, 0, none⟩)), (7, .bool t14), (8, .slice ao22 t21.length cap22), (9, .slice ao27 s26.length cap27), (10, .bool s29), (11, .bool x34), (12, .int .i64 x35)] ∧ (Own rStr 9 w33 (blkL ao27 ++ (blkL ao22 ++ (M))) ao22 cap22 t21) ∧ (Own rStr 9 w33 (blkL ao27 ++ (blkL ao22 ++ (M))) ao27 cap27 s26) ∧ (∀ j v, (cS_api_Join a1)[j]? = some v → w33.cell? ⟨g4, 0 + j, none⟩ = some v) ∧ (g4 ∉ (blkL ao27 ++ (blkL ao22 ++ (M)))) ∧ (Chg [] w w33) ∧ (MS (blkL ao27 ++ (blkL ao22 ++ (M))) w33)) k ?_ ?_
     ·skip
      exact ⟨false, (0 : Int), H, (ha.sel (by kernel_rfl)), f22, f27, hE6, hn7, hC, hM⟩
     ·rintro kk a w33 ⟨x34, x35, H, ha, f22, f27, hE6, hn7, hC, hM⟩
      obtain _ | kk := kk
      ·exact nomatch (show none = some _ from H)
      rw [vinerylaw20_JoinsAsks.l0] at H
      refine wp_seq_k fun K95 hK95 => ?_
      refine wp_seq_k fun K96 hK96 => ?_
      refine wp_region_lit ?_
      refine seg ha 4 [(4, .pointer (some ⟨g4, 0, none⟩)), (7, .bool t14), (8, .slice ao22 t21.length cap22), (9, .slice ao27 s26.length cap27), (10, .bool s29), (11, .bool x34), (12, .int .i64 x35), (64, .bool (decide (x35 < (t21.length : Int))))] (by kernel_rfl) fun a ha => ?_
      refine hK96 _ _ ?_; try clear hK96 K96
      refine cnd ha rfl (fun hc97 => ?_) (fun hc97 => ?_)
      ·have H := ite_t hc97 H
       refine wp_skip ?_
       refine hK95 _ _ ?_; try clear hK95 K95
       refine wp_seq_k fun K98 hK98 => ?_
       refine wp_block ?_
       refine drq0 (fun w' => Chg [] w33 w') (by kernel_rfl) (by kernel_rfl) (fun _ h => h) ?_
       obtain ⟨s99, H99, H⟩ := bind_some H
       have J99 : ∀ (a : Act) (w99 : World), Has a Tryz.f4.ntmps [(4, .pointer (some ⟨g4, 0, none⟩)), (7, .bool t14), (8, .slice ao22 t21.length cap22), (9, .slice ao27 s26.length cap27), (10, .bool s29), (11, .bool s99), (12, .int .i64 x35)] → (Own rStr 9 w99 (blkL ao27 ++ (blkL ao22 ++ (M))) ao22 cap22 t21) → (Own rStr 9 w99 (blkL ao27 ++ (blkL ao22 ++ (M))) ao27 cap27 s26) → (∀ j v, (cS_api_Join a1)[j]? = some v → w99.cell? ⟨g4, 0 + j, none⟩ = some v) → (g4 ∉ (blkL ao27 ++ (blkL ao22 ++ (M)))) → (Chg [] w w99) → (MS (blkL ao27 ++ (blkL ao22 ++ (M))) w99) → K98 a w99 := by
        intro a w99 ha f22 f27 hE6 hn7 hC hM
        refine hK98 _ _ ?_; try clear hK98 K98
        refine wp_region_lit ?_
        refine seg ha 3 [(4, .pointer (some ⟨g4, 0, none⟩)), (7, .bool t14), (8, .slice ao22 t21.length cap22), (9, .slice ao27 s26.length cap27), (10, .bool s29), (11, .bool s99), (12, .int .i64 (IntKind.i64.wrap (x35 + (1 : Int))))] (by kernel_rfl) fun a ha => ?_
        exact ⟨kk, Nat.lt_succ_self _, ⟨s99, IntKind.i64.wrap (x35 + (1 : Int)), H, (ha.sel (by kernel_rfl)), f22, f27, hE6, hn7, hC, hM⟩⟩
       have H := H99
       refine qp 0 (.bool x34) ha rfl rfl rfl (by kernel_rfl) fun a ha => ?_
       refine qp 0 (.bool x34) ha rfl rfl rfl (by kernel_rfl) fun a ha => ?_
       have ha := ha.sel (env' := [(68, .bool x34), (4, .pointer (some ⟨g4, 0, none⟩)), (7, .bool t14), (8, .slice ao22 t21.length cap22), (9, .slice ao27 s26.length cap27), (10, .bool s29), (11, .bool x34), (12, .int .i64 x35)]) (by kernel_rfl)
       rcases Bool.eq_false_or_eq_true (x34) with hb100 | hb100
       ·have ha := ha.lit hb100
        have H := ite_t hb100 H
        refine qo ha rfl rfl rfl fun a ha => ?_
        refine qo ha rfl rfl rfl fun a ha => ?_
        refine qo ha rfl rfl rfl fun a ha => ?_
        refine qo ha rfl rfl rfl fun a ha => ?_
        refine qo ha rfl rfl rfl fun a ha => ?_
        refine qo ha rfl rfl rfl fun a ha => ?_
        refine qo ha rfl rfl rfl fun a ha => ?_
        refine qp 3 (.bool true) ha rfl rfl rfl (by kernel_rfl) fun a ha => ?_
        refine qp 0 (.bool true) ha rfl rfl rfl (by kernel_rfl) fun a ha => ?_
        refine wpQuiet_nil ?_
        intro w101 hc102
        have o1 : Ok [] (blkL ao27 ++ (blkL ao22 ++ (M))) w33.heap.size := Ok.nil _ _
        have o2 : Ok (blkL ao27 ++ (blkL ao22 ++ (M))) (blkL ao27 ++ (blkL ao22 ++ (M))) w33.heap.size := (Ok.refl _ _)
        have f22 := f22.chg hc102 o1 o2 (fun _ _ h => nomatch h) (fun _ h => mr (ml h))
        have f27 := f27.chg hc102 o1 o2 (fun _ _ h => nomatch h) (fun _ h => ml h)
        have q_hn7 : g4 ∉ blkL ao27 ++ (blkL ao22 ++ (M)) := fun h => (o2 g4 h).elim hn7 (fun h => absurd (lt_cell (hE6 0 _ rfl)) (Nat.not_lt.2 h))
        have hE6 : ∀ j v, (cS_api_Join a1)[j]? = some v → w101.cell? ⟨g4, 0 + j, none⟩ = some v := fun j v hv => (cell_keep hc102 o1 hn7 (hE6 j v hv))
        have hn7 := q_hn7
        have hM : MS (blkL ao27 ++ (blkL ao22 ++ (M))) w101 := (hM.chg hc102)
        have hC := hC.trans hc102 (Ok.nil _ _)
        refine wpl_end ?_
        obtain rfl := Option.some.inj H
        exact J99 _ _ (ha.sel (by kernel_rfl)) f22 f27 hE6 hn7 hC hM
       ·have ha := ha.lit hb100
        have H := ite_f hb100 H
        refine qp 0 (.slice ao22 t21.length cap22) ha rfl rfl rfl (by kernel_rfl) fun a ha => ?_
        refine qp 0 (.int .i64 x35) ha rfl rfl rfl (by kernel_rfl) fun a ha => ?_
        obtain ⟨⟨hx103, hx103'⟩, H⟩ := ite_some H
        obtain ⟨ge104, oe1050, cs106, hx103eq, hn109, hR107, hE108⟩ := RSl.elem (Own.toRSl (M' := []) f22 (Ok.nil _ _) (fun _ _ h => nomatch h)) (Int.toNat x35) (by omega)
        rw [rd_get] at hR107
        obtain rfl := hR107
        have hE108 : ∀ j v, ([.string (bstr (rd t21 x35))] : List Value)[j]? = some v → w33.cell? ⟨ge104, (oe1050 + (Int.toNat x35) * rStr.sz) + j, none⟩ = some v := hE108
        refine qv (v := .pointer (some ⟨ge104, (oe1050 + (Int.toNat x35) * rStr.sz), none⟩)) ha rfl rfl rfl (fun w' hs => ix_run (r := rStr) (T := 9) ha (by kernel_rfl) (by kernel_rfl) (by rfl) (by rfl) hx103eq hx103 hx103') fun a ha => ?_
        refine qv (v := .string (bstr (rd t21 x35))) ha rfl rfl rfl (fun w' hs => ld_run ha rfl (by kernel_rfl) (hs.keep (hE108 0 (.string (bstr (rd t21 x35))) (by kernel_rfl)))) fun a ha => ?_
        refine qp 0 (.pointer (some ⟨g4, 0 + 1, none⟩)) ha rfl rfl rfl (by kernel_rfl) fun a ha => ?_
        refine qv (v := .string (bstr a1.Iface)) ha rfl rfl rfl (fun w' hs => ld_run ha rfl (by kernel_rfl) (hs.keep (hE6 1 (.string (bstr a1.Iface)) (by kernel_rfl)))) fun a ha => ?_
        refine qp 0 (.bool ((bstr (rd t21 x35)).toList == (bstr a1.Iface).toList)) ha rfl rfl rfl (by kernel_rfl) fun a ha => ?_
        refine qp 4 (.bool ((bstr (rd t21 x35)).toList == (bstr a1.Iface).toList)) ha rfl rfl rfl (by kernel_rfl) fun a ha => ?_
        refine qp 0 (.bool ((bstr (rd t21 x35)).toList == (bstr a1.Iface).toList)) ha rfl rfl rfl (by kernel_rfl) fun a ha => ?_
        refine wpQuiet_nil ?_
        intro w110 hc111
        have o1 : Ok [] (blkL ao27 ++ (blkL ao22 ++ (M))) w33.heap.size := Ok.nil _ _
        have o2 : Ok (blkL ao27 ++ (blkL ao22 ++ (M))) (blkL ao27 ++ (blkL ao22 ++ (M))) w33.heap.size := (Ok.refl _ _)
        have f22 := f22.chg hc111 o1 o2 (fun _ _ h => nomatch h) (fun _ h => mr (ml h))
        have f27 := f27.chg hc111 o1 o2 (fun _ _ h => nomatch h) (fun _ h => ml h)
        have q_hn7 : g4 ∉ blkL ao27 ++ (blkL ao22 ++ (M)) := fun h => (o2 g4 h).elim hn7 (fun h => absurd (lt_cell (hE6 0 _ rfl)) (Nat.not_lt.2 h))
        have hE6 : ∀ j v, (cS_api_Join a1)[j]? = some v → w110.cell? ⟨g4, 0 + j, none⟩ = some v := fun j v hv => (cell_keep hc111 o1 hn7 (hE6 j v hv))
        have hn7 := q_hn7
        have hM : MS (blkL ao27 ++ (blkL ao22 ++ (M))) w110 := (hM.chg hc111)
        have hC := hC.trans hc111 (Ok.nil _ _)
        refine wpl_end ?_
        obtain rfl := Option.some.inj H
        exact J99 _ _ (ha.sel (by kernel_rfl)) f22 f27 hE6 hn7 hC hM
      ·have H := ite_f hc97 H
       refine wp_exit ?_
       simp only [Exit.then, Exit.inBlock, ↓reduceIte, Nat.reduceEqDiff]
       obtain rfl := Option.some.inj H
       exact J33 _ _ (ha.sel (by kernel_rfl)) f22 f27 hE6 hn7 hC hM
    have H := H29
    refine seg ha 1 [(4, .pointer (some ⟨g4, 0, none⟩)), (5, .pointer (some ⟨g9, 0, none⟩)), (7, .bool t14), (8, .slice ao22 t21.length cap22), (9, .slice ao27 s26.length cap27), (36, .pointer (some ⟨g4, 0, none⟩))] (by kernel_rfl) fun a ha => ?_
    refine ld ha rfl (by kernel_rfl) rfl rfl rfl (hE6 0 (.string (bstr a1.Vrf)) (by kernel_rfl)) fun a ha => ?_
    refine seg ha 1 [(4, .pointer (some ⟨g4, 0, none⟩)), (5, .pointer (some ⟨g9, 0, none⟩)), (7, .bool t14), (8, .slice ao22 t21.length cap22), (9, .slice ao27 s26.length cap27), (37, .string (bstr a1.Vrf)), (38, .pointer (some ⟨g9, 0, none⟩))] (by kernel_rfl) fun a ha => ?_
    refine ld ha rfl (by kernel_rfl) rfl rfl rfl (hE11 0 (.string (bstr a2.Vrf)) (by kernel_rfl)) fun a ha => ?_
    refine seg ha 2 [(41, .bool ((bstr a1.Vrf).toList == (bstr a2.Vrf).toList)), (4, .pointer (some ⟨g4, 0, none⟩)), (5, .pointer (some ⟨g9, 0, none⟩)), (7, .bool t14), (8, .slice ao22 t21.length cap22), (9, .slice ao27 s26.length cap27)] (by kernel_rfl) fun a ha => ?_
    rcases Bool.eq_false_or_eq_true ((bstr a1.Vrf).toList == (bstr a2.Vrf).toList) with hb112 | hb112
    ·have ha := ha.lit hb112
     have H := ite_t hb112 H
     refine sgh ha 1 [2] [(4, .pointer (some ⟨g4, 0, none⟩)), (5, .pointer (some ⟨g9, 0, none⟩)), (7, .bool t14), (8, .slice ao22 t21.length cap22), (9, .slice ao27 s26.length cap27), (41, .bool true), (42, .pointer (some ⟨g4, 0 + 19, none⟩))] (by kernel_rfl) fun a ha => ?_
     refine ldA (cs := (cS_api_Addr a1.Group)) ha rfl (by kernel_rfl) rfl rfl rfl (cells_sub hE6 (all := (cS_api_Join a1)) [.string (bstr a1.Vrf), .string (bstr a1.Iface), .int .i64 a1.Source.Size, .int .u8 (ar a1.Source.B 0), .int .u8 (ar a1.Source.B 1), .int .u8 (ar a1.Source.B 2), .int .u8 (ar a1.Source.B 3), .int .u8 (ar a1.Source.B 4), .int .u8 (ar a1.Source.B 5), .int .u8 (ar a1.Source.B 6), .int .u8 (ar a1.Source.B 7), .int .u8 (ar a1.Source.B 8), .int .u8 (ar a1.Source.B 9), .int .u8 (ar a1.Source.B 10), .int .u8 (ar a1.Source.B 11), .int .u8 (ar a1.Source.B 12), .int .u8 (ar a1.Source.B 13), .int .u8 (ar a1.Source.B 14), .int .u8 (ar a1.Source.B 15)] [] (by kernel_rfl)) fun a ha => ?_
     refine sgh ha 1 [2] [(4, .pointer (some ⟨g4, 0, none⟩)), (5, .pointer (some ⟨g9, 0, none⟩)), (7, .bool t14), (8, .slice ao22 t21.length cap22), (9, .slice ao27 s26.length cap27), (41, .bool true), (43, .agg (cS_api_Addr a1.Group).toArray), (44, .pointer (some ⟨g9, 0 + 18, none⟩))] (by kernel_rfl) fun a ha => ?_
     refine ldA (cs := (cS_api_Addr a2.Group)) ha rfl (by kernel_rfl) rfl rfl rfl (cells_sub hE11 (all := (cS_api_Flow a2)) [.string (bstr a2.Vrf), .int .i64 a2.Source.Size, .int .u8 (ar a2.Source.B 0), .int .u8 (ar a2.Source.B 1), .int .u8 (ar a2.Source.B 2), .int .u8 (ar a2.Source.B 3), .int .u8 (ar a2.Source.B 4), .int .u8 (ar a2.Source.B 5), .int .u8 (ar a2.Source.B 6), .int .u8 (ar a2.Source.B 7), .int .u8 (ar a2.Source.B 8), .int .u8 (ar a2.Source.B 9), .int .u8 (ar a2.Source.B 10), .int .u8 (ar a2.Source.B 11), .int .u8 (ar a2.Source.B 12), .int .u8 (ar a2.Source.B 13), .int .u8 (ar a2.Source.B 14), .int .u8 (ar a2.Source.B 15)] [] (by kernel_rfl)) fun a ha => ?_
     refine hop (v := .bool ((a1.Group.Size == a2.Group.Size) && ((eqA 16 a1.Group.B a2.Group.B) && true))) (w' := w26) ha rfl rfl rfl (eqs_run (r := ((a1.Group.Size == a2.Group.Size) && ((eqA 16 a1.Group.B a2.Group.B) && true))) (m := 9) ha rfl rfl (by kernel_rfl) rfl (by kernel_rfl) _) fun a ha => ?_
     refine sgh ha 2 [3, 0] [(48, .bool ((a1.Group.Size == a2.Group.Size) && ((eqA 16 a1.Group.B a2.Group.B) && true))), (4, .pointer (some ⟨g4, 0, none⟩)), (5, .pointer (some ⟨g9, 0, none⟩)), (7, .bool t14), (8, .slice ao22 t21.length cap22), (9, .slice ao27 s26.length cap27)] (by kernel_rfl) fun a ha => ?_
     rcases Bool.eq_false_or_eq_true (((a1.Group.Size == a2.Group.Size) && ((eqA 16 a1.Group.B a2.Group.B) && true))) with hb113 | hb113
     ·have ha := ha.lit hb113
      have H := ite_t hb113 H
      refine sgh ha 2 [2, 2] [(4, .pointer (some ⟨g4, 0, none⟩)), (5, .pointer (some ⟨g9, 0, none⟩)), (7, .bool t14), (8, .slice ao22 t21.length cap22), (9, .slice ao27 s26.length cap27), (48, .bool true), (50, .pointer (some ⟨g4, 0 + 2, none⟩))] (by kernel_rfl) fun a ha => ?_
      refine ld ha rfl (by kernel_rfl) rfl rfl rfl (hE6 2 (.int .i64 a1.Source.Size) (by kernel_rfl)) fun a ha => ?_
      refine sgh ha 2 [2, 2] [(53, .bool (a1.Source.Size == (0 : Int))), (4, .pointer (some ⟨g4, 0, none⟩)), (5, .pointer (some ⟨g9, 0, none⟩)), (7, .bool t14), (8, .slice ao22 t21.length cap22), (9, .slice ao27 s26.length cap27), (48, .bool true)] (by kernel_rfl) fun a ha => ?_
      rcases Bool.eq_false_or_eq_true (a1.Source.Size == (0 : Int)) with hb114 | hb114
      ·have ha := ha.lit hb114
       have H := ite_t hb114 H
       refine sgh ha 8 [1, 1, 1, 1, 1, 5, 3, 0] [(4, .pointer (some ⟨g4, 0, none⟩)), (7, .bool t14), (8, .slice ao22 t21.length cap22), (9, .slice ao27 s26.length cap27), (10, .bool true)] (by kernel_rfl) fun a ha => ?_
       obtain rfl := Option.some.inj H
       exact J29 _ _ (ha.sel (by kernel_rfl)) f22 f27 hE6 hn7 hC hM
      ·have ha := ha.lit hb114
       have H := ite_f hb114 H
       refine sgh ha 1 [2] [(4, .pointer (some ⟨g4, 0, none⟩)), (5, .pointer (some ⟨g9, 0, none⟩)), (7, .bool t14), (8, .slice ao22 t21.length cap22), (9, .slice ao27 s26.length cap27), (48, .bool true), (53, .bool false), (54, .pointer (some ⟨g4, 0 + 2, none⟩))] (by kernel_rfl) fun a ha => ?_
       refine ldA (cs := (cS_api_Addr a1.Source)) ha rfl (by kernel_rfl) rfl rfl rfl (cells_sub hE6 (all := (cS_api_Join a1)) [.string (bstr a1.Vrf), .string (bstr a1.Iface)] [.int .i64 a1.Group.Size, .int .u8 (ar a1.Group.B 0), .int .u8 (ar a1.Group.B 1), .int .u8 (ar a1.Group.B 2), .int .u8 (ar a1.Group.B 3), .int .u8 (ar a1.Group.B 4), .int .u8 (ar a1.Group.B 5), .int .u8 (ar a1.Group.B 6), .int .u8 (ar a1.Group.B 7), .int .u8 (ar a1.Group.B 8), .int .u8 (ar a1.Group.B 9), .int .u8 (ar a1.Group.B 10), .int .u8 (ar a1.Group.B 11), .int .u8 (ar a1.Group.B 12), .int .u8 (ar a1.Group.B 13), .int .u8 (ar a1.Group.B 14), .int .u8 (ar a1.Group.B 15)] (by kernel_rfl)) fun a ha => ?_
       refine sgh ha 1 [2] [(4, .pointer (some ⟨g4, 0, none⟩)), (7, .bool t14), (8, .slice ao22 t21.length cap22), (9, .slice ao27 s26.length cap27), (48, .bool true), (53, .bool false), (55, .agg (cS_api_Addr a1.Source).toArray), (56, .pointer (some ⟨g9, 0 + 1, none⟩))] (by kernel_rfl) fun a ha => ?_
       refine ldA (cs := (cS_api_Addr a2.Source)) ha rfl (by kernel_rfl) rfl rfl rfl (cells_sub hE11 (all := (cS_api_Flow a2)) [.string (bstr a2.Vrf)] [.int .i64 a2.Group.Size, .int .u8 (ar a2.Group.B 0), .int .u8 (ar a2.Group.B 1), .int .u8 (ar a2.Group.B 2), .int .u8 (ar a2.Group.B 3), .int .u8 (ar a2.Group.B 4), .int .u8 (ar a2.Group.B 5), .int .u8 (ar a2.Group.B 6), .int .u8 (ar a2.Group.B 7), .int .u8 (ar a2.Group.B 8), .int .u8 (ar a2.Group.B 9), .int .u8 (ar a2.Group.B 10), .int .u8 (ar a2.Group.B 11), .int .u8 (ar a2.Group.B 12), .int .u8 (ar a2.Group.B 13), .int .u8 (ar a2.Group.B 14), .int .u8 (ar a2.Group.B 15)] (by kernel_rfl)) fun a ha => ?_
       refine hop (v := .bool ((a1.Source.Size == a2.Source.Size) && ((eqA 16 a1.Source.B a2.Source.B) && true))) (w' := w26) ha rfl rfl rfl (eqs_run (r := ((a1.Source.Size == a2.Source.Size) && ((eqA 16 a1.Source.B a2.Source.B) && true))) (m := 9) ha rfl rfl (by kernel_rfl) rfl (by kernel_rfl) _) fun a ha => ?_
       refine sgh ha 3 [6, 3, 0] [(4, .pointer (some ⟨g4, 0, none⟩)), (7, .bool t14), (8, .slice ao22 t21.length cap22), (9, .slice ao27 s26.length cap27), (10, .bool ((a1.Source.Size == a2.Source.Size) && ((eqA 16 a1.Source.B a2.Source.B) && true)))] (by kernel_rfl) fun a ha => ?_
       obtain rfl := Option.some.inj H
       exact J29 _ _ (ha.sel (by kernel_rfl)) f22 f27 hE6 hn7 hC hM
     ·have ha := ha.lit hb113
      have H := ite_f hb113 H
      refine sgh ha 13 [1, 1, 1, 1, 1, 1, 1, 1, 1, 1, 1, 4, 0] [(4, .pointer (some ⟨g4, 0, none⟩)), (7, .bool t14), (8, .slice ao22 t21.length cap22), (9, .slice ao27 s26.length cap27), (10, .bool false)] (by kernel_rfl) fun a ha => ?_
      obtain rfl := Option.some.inj H
      exact J29 _ _ (ha.sel (by kernel_rfl)) f22 f27 hE6 hn7 hC hM
    ·have ha := ha.lit hb112
     have H := ite_f hb112 H
     refine sgh ha 20 [1, 1, 1, 1, 1, 4, 0, 1, 1, 1, 1, 1, 1, 1, 1, 1, 1, 1, 4, 0] [(4, .pointer (some ⟨g4, 0, none⟩)), (7, .bool t14), (8, .slice ao22 t21.length cap22), (9, .slice ao27 s26.length cap27), (10, .bool false)] (by kernel_rfl) fun a ha => ?_
     obtain rfl := Option.some.inj H
     exact J29 _ _ (ha.sel (by kernel_rfl)) f22 f27 hE6 hn7 hC hM
   have H := H26
   refine tkpz 1 0 (.slice ao1 a0.length cap1) ha (s := hS) (q := fun a ha => ?_)
   refine tkz 3 ha (v := .agg (cS_api_Join a1).toArray) (y := fun w' hs => ldA_run (cs := (cS_api_Join a1)) ha rfl (by kernel_rfl) (cells_sub (fun j v hv => cell_keep hs okS z_hn7 (z_hE6 j v hv)) (all := (cS_api_Join a1)) [] [] (by kernel_rfl))) (s := hS) (q := fun a ha => ?_)
   refine tkz 6 ha (v := .agg (cS_api_Flow a2).toArray) (y := fun w' hs => ldA_run (cs := (cS_api_Flow a2)) ha rfl (by kernel_rfl) (cells_sub (fun j v hv => cell_keep hs okS z_hn12 (z_hE11 j v hv)) (all := (cS_api_Flow a2)) [] [] (by kernel_rfl))) (s := hS) (q := fun a ha => ?_)
   refine acs [0, 4] (by kernel_rfl) (by simp) fun i hi => ?_
   simp only [List.mem_cons, List.not_mem_nil, or_false] at hi
   rcases hi with rfl | rfl
   ·refine ⟨_, rfl, fun K115 hK115 => ?_⟩
    refine bsl (vals := ([] : List Value)) (T := 38) ha rfl ([] : List Value) (fun w => by kernel_rfl) rfl rfl rfl fun a w116 g117 hN118 ha => ?_
    have o1 : Ok [] (blkL ao22 ++ (M)) w24.heap.size := Ok.nil _ _
    have o2 : Ok ([g117] ++ (blkL ao22 ++ (M))) (blkL ao22 ++ (M)) w24.heap.size := (Ok.app (hN118.ok _) (Ok.refl _ _))
    have f1 := f1.chg hN118.chg o1 o2
    have f22 := f22.chg hN118.chg o1 o2 (fun _ _ h => nomatch h) (fun _ h => mr (ml h))
    have q_hn7 : g4 ∉ [g117] ++ (blkL ao22 ++ (M)) := fun h => (o2 g4 h).elim hn7 (fun h => absurd (lt_cell (hE6 0 _ rfl)) (Nat.not_lt.2 h))
    have hE6 : ∀ j v, (cS_api_Join a1)[j]? = some v → w116.cell? ⟨g4, 0 + j, none⟩ = some v := fun j v hv => (cell_keep hN118.chg o1 hn7 (hE6 j v hv))
    have hn7 := q_hn7
    have q_hn12 : g9 ∉ [g117] ++ (blkL ao22 ++ (M)) := fun h => (o2 g9 h).elim hn12 (fun h => absurd (lt_cell (hE11 0 _ rfl)) (Nat.not_lt.2 h))
    have hE11 : ∀ j v, (cS_api_Flow a2)[j]? = some v → w116.cell? ⟨g9, 0 + j, none⟩ = some v := fun j v hv => (cell_keep hN118.chg o1 hn12 (hE11 j v hv))
    have hn12 := q_hn12
    have p_iD000119_i22 : ∀ x ∈ [g117], x ∉ (blkL ao22) := fun x hx hy => absurd (hM x (ml hy)) (Nat.not_lt.2 ((hN118.ge1) x hx))
    have p_iD000119_M : ∀ x ∈ [g117], x ∉ M := fun x hx hy => absurd (hM x (mr (hy))) (Nat.not_lt.2 ((hN118.ge1) x hx))
    have e_iD000119 : ∀ x ∈ [g117], w.heap.size ≤ x := fun x hx => Nat.le_trans hC.size ((hN118.ge1) x hx)
    have hM : MS ([g117] ++ (blkL ao22 ++ (M))) w116 := (MS.app hN118.ms (hM.chg hN118.chg))
    have hC := hC.trans hN118.chg (Ok.nil _ _)
    have d_iD000119 : Ok ([g117]) [] w21.heap.size := fun x hx => .inr (Nat.le_trans hS.size ((hN118.ge1) x hx))
    have hS := hS.trans hN118.chg (Ok.nil _ _)
    have f120 : Own rS_api_Join 38 w116 ([g117] ++ (blkL ao22 ++ (M))) (some ⟨g117, 0, none⟩) 0 ([] : List S_api_Join) := hN118.own rfl (Nat.le_of_ble_eq_true rfl)
    refine ae hK115 hS ?_; clear hK115 K115
    refine acs [2, 4] (by kernel_rfl) (by simp) fun i hi => ?_
    simp only [List.mem_cons, List.not_mem_nil, or_false] at hi
    rcases hi with rfl | rfl
    ·refine ⟨_, rfl, fun K121 hK121 => ?_⟩
     obtain ⟨hx122, H⟩ := ite_some H
     refine app (r := rS_api_Join) (xs := ([] : List S_api_Join)) (ys := a0) ha (ElemT.mk' (bytes := 80) (by kernel_rfl)) rfl rfl rfl rfl rfl f120 f1.src hx122 (by decide) fun a w123 ao124 cap124 hO124 hc124 hk124 hl124 ha => ?_
     have o1 : Ok [g117] ([g117] ++ (blkL ao22 ++ (M))) w116.heap.size := (fun _ h => .inl (ml h))
     have o2 : Ok (blkL ao124 ++ (blkL ao22 ++ (M))) ([g117] ++ (blkL ao22 ++ (M))) w116.heap.size := (Ok.app (Ok.to hk124 (fun _ h => ml h)) (fun _ h => .inl (mr (h))))
     have f1 := f1.chg hc124 o1 o2
     have f22 := f22.chg hc124 o1 o2 (fun x (hx : x ∈ blkL ao22) (hy : x ∈ [g117]) => p_iD000119_i22 x hy hx) (fun _ h => mr (ml h))
     have q_hn7 : g4 ∉ blkL ao124 ++ (blkL ao22 ++ (M)) := fun h => (o2 g4 h).elim hn7 (fun h => absurd (lt_cell (hE6 0 _ rfl)) (Nat.not_lt.2 h))
     have hE6 : ∀ j v, (cS_api_Join a1)[j]? = some v → w123.cell? ⟨g4, 0 + j, none⟩ = some v := fun j v hv => (cell_keep hc124 o1 hn7 (hE6 j v hv))
     have hn7 := q_hn7
     have q_hn12 : g9 ∉ blkL ao124 ++ (blkL ao22 ++ (M)) := fun h => (o2 g9 h).elim hn12 (fun h => absurd (lt_cell (hE11 0 _ rfl)) (Nat.not_lt.2 h))
     have hE11 : ∀ j v, (cS_api_Flow a2)[j]? = some v → w123.cell? ⟨g9, 0 + j, none⟩ = some v := fun j v hv => (cell_keep hc124 o1 hn12 (hE11 j v hv))
     have hn12 := q_hn12
     have p_iD000124_i22 : ∀ x ∈ blkL ao124, x ∉ (blkL ao22) := fun x hx hy => (hk124 x hx).elim (fun h => p_iD000119_i22 x h hy) (fun h => absurd (hM x (mr (ml hy))) (Nat.not_lt.2 h))
     have p_iD000124_M : ∀ x ∈ blkL ao124, x ∉ M := fun x hx hy => (hk124 x hx).elim (fun h => p_iD000119_M x h hy) (fun h => absurd (hM x (mr (mr (hy)))) (Nat.not_lt.2 h))
     have e_iD000124 : ∀ x ∈ blkL ao124, w.heap.size ≤ x := fun x hx => (hk124 x hx).elim (e_iD000119 x) (Nat.le_trans hC.size)
     have hM : MS (blkL ao124 ++ (blkL ao22 ++ (M))) w123 := (MS.app hl124 (fun x h => hM.chg hc124 x (mr (h))))
     have hC := hC.trans hc124 (fun x h => .inr (e_iD000119 x h))
     have d_iD000124 : Ok (blkL ao124) [] w21.heap.size := fun x hx => (hk124 x hx).elim (fun h => d_iD000119 x h) (fun h => .inr (Nat.le_trans hS.size h))
     have hS := hS.trans hc124 d_iD000119
     have f124 := hO124.chg (M' := blkL ao124 ++ (blkL ao22 ++ (M))) (Chg.refl [] _) (Ok.nil _ _) (Ok.app (fun _ h => .inl (ml h)) (Ok.to (fun _ h => .inl (mr (h))) (fun _ h => mr h))) (fun _ _ h => nomatch h) (fun _ h => ml h)
     refine ae hK121 hS ?_; clear hK121 K121
     refine ac 4 (by kernel_rfl) (by rfl) fun K125 hK125 => ?_
     refine bslA (vals := ([.agg (cS_api_Join a1).toArray] : List Value)) (T := 38) (z := .agg (cS_api_Join (⟨([] : List UInt8), ([] : List UInt8), (⟨(0 : Int), (List.replicate 16 (0 : Int))⟩ : S_api_Addr), (⟨(0 : Int), (List.replicate 16 (0 : Int))⟩ : S_api_Addr)⟩ : S_api_Join)).toArray) ha rfl (by kernel_rfl) rfl (by kernel_rfl) (s := 36) (by kernel_rfl) rfl rfl (fun w => by kernel_rfl) (by kernel_rfl) rfl rfl rfl fun a w126 g127 hN128 ha => ?_
     have hN128 := (show New _ _ _ (.cells (((cS_api_Join a1) ++ ([] : List Value))).toArray 38 (0, 0)) from hN128)
     have o1 : Ok [] (blkL ao124 ++ (blkL ao22 ++ (M))) w123.heap.size := Ok.nil _ _
     have o2 : Ok ([g127] ++ (blkL ao124 ++ (blkL ao22 ++ (M)))) (blkL ao124 ++ (blkL ao22 ++ (M))) w123.heap.size := (Ok.app (hN128.ok _) (Ok.refl _ _))
     have f1 := f1.chg hN128.chg o1 o2
     have f22 := f22.chg hN128.chg o1 o2 (fun _ _ h => nomatch h) (fun _ h => mr (mr (ml h)))
     have f124 := f124.chg hN128.chg o1 o2 (fun _ _ h => nomatch h) (fun _ h => mr (ml h))
     have q_hn7 : g4 ∉ [g127] ++ (blkL ao124 ++ (blkL ao22 ++ (M))) := fun h => (o2 g4 h).elim hn7 (fun h => absurd (lt_cell (hE6 0 _ rfl)) (Nat.not_lt.2 h))
     have hE6 : ∀ j v, (cS_api_Join a1)[j]? = some v → w126.cell? ⟨g4, 0 + j, none⟩ = some v := fun j v hv => (cell_keep hN128.chg o1 hn7 (hE6 j v hv))
     have hn7 := q_hn7
     have q_hn12 : g9 ∉ [g127] ++ (blkL ao124 ++ (blkL ao22 ++ (M))) := fun h => (o2 g9 h).elim hn12 (fun h => absurd (lt_cell (hE11 0 _ rfl)) (Nat.not_lt.2 h))
     have hE11 : ∀ j v, (cS_api_Flow a2)[j]? = some v → w126.cell? ⟨g9, 0 + j, none⟩ = some v := fun j v hv => (cell_keep hN128.chg o1 hn12 (hE11 j v hv))
     have hn12 := q_hn12
     have p_iD000129_iD000124 : ∀ x ∈ [g127], x ∉ (blkL ao124) := fun x hx hy => absurd (hM x (ml hy)) (Nat.not_lt.2 ((hN128.ge1) x hx))
     have p_iD000129_i22 : ∀ x ∈ [g127], x ∉ (blkL ao22) := fun x hx hy => absurd (hM x (mr (ml hy))) (Nat.not_lt.2 ((hN128.ge1) x hx))
     have p_iD000129_M : ∀ x ∈ [g127], x ∉ M := fun x hx hy => absurd (hM x (mr (mr (hy)))) (Nat.not_lt.2 ((hN128.ge1) x hx))
     have e_iD000129 : ∀ x ∈ [g127], w.heap.size ≤ x := fun x hx => Nat.le_trans hC.size ((hN128.ge1) x hx)
     have hM : MS ([g127] ++ (blkL ao124 ++ (blkL ao22 ++ (M)))) w126 := (MS.app hN128.ms (hM.chg hN128.chg))
     have hC := hC.trans hN128.chg (Ok.nil _ _)
     have d_iD000129 : Ok ([g127]) [] w21.heap.size := fun x hx => .inr (Nat.le_trans hS.size ((hN128.ge1) x hx))
     have hS := hS.trans hN128.chg (Ok.nil _ _)
     have f130 : Own rS_api_Join 38 w126 ([g127] ++ (blkL ao124 ++ (blkL ao22 ++ (M)))) (some ⟨g127, 0, none⟩) 1 ([a1] : List S_api_Join) := hN128.own ⟨(cS_api_Join a1), _, rfl, (rS_api_Join.mk a1), rfl⟩ (Nat.le_of_ble_eq_true rfl)
     refine ae hK125 hS ?_; clear hK125 K125
     refine ac 5 (by kernel_rfl) (by rfl) fun K131 hK131 => ?_
     obtain ⟨hx132, H⟩ := ite_some H
     refine app (r := rS_api_Join) (xs := (([] : List S_api_Join) ++ a0)) (ys := ([a1] : List S_api_Join)) ha (ElemT.mk' (bytes := 80) (by kernel_rfl)) rfl rfl rfl rfl rfl f124 f130.src hx132 (by decide) fun a w133 ao134 cap134 hO134 hc134 hk134 hl134 ha => ?_
     have o1 : Ok (blkL ao124) ([g127] ++ (blkL ao124 ++ (blkL ao22 ++ (M)))) w126.heap.size := (fun _ h => .inl (mr (ml h)))
     have o2 : Ok (blkL ao134 ++ ([g127] ++ (blkL ao22 ++ (M)))) ([g127] ++ (blkL ao124 ++ (blkL ao22 ++ (M)))) w126.heap.size := (Ok.app (Ok.to hk134 (fun _ h => mr (ml h))) (Ok.app (fun _ h => .inl (ml h)) (fun _ h => .inl (mr (mr (h))))))
     have f1 := f1.chg hc134 o1 o2
     have f22 := f22.chg hc134 o1 o2 (fun x (hx : x ∈ blkL ao22) (hy : x ∈ blkL ao124) => p_iD000124_i22 x hy hx) (fun _ h => mr (mr (ml h)))
     have f130 := f130.chg hc134 o1 o2 p_iD000129_iD000124 (fun _ h => mr (ml h))
     have q_hn7 : g4 ∉ blkL ao134 ++ ([g127] ++ (blkL ao22 ++ (M))) := fun h => (o2 g4 h).elim hn7 (fun h => absurd (lt_cell (hE6 0 _ rfl)) (Nat.not_lt.2 h))
     have hE6 : ∀ j v, (cS_api_Join a1)[j]? = some v → w133.cell? ⟨g4, 0 + j, none⟩ = some v := fun j v hv => (cell_keep hc134 o1 hn7 (hE6 j v hv))
     have hn7 := q_hn7
     have q_hn12 : g9 ∉ blkL ao134 ++ ([g127] ++ (blkL ao22 ++ (M))) := fun h => (o2 g9 h).elim hn12 (fun h => absurd (lt_cell (hE11 0 _ rfl)) (Nat.not_lt.2 h))
     have hE11 : ∀ j v, (cS_api_Flow a2)[j]? = some v → w133.cell? ⟨g9, 0 + j, none⟩ = some v := fun j v hv => (cell_keep hc134 o1 hn12 (hE11 j v hv))
     have hn12 := q_hn12
     have p_iD000134_iD000129 : ∀ x ∈ blkL ao134, x ∉ ([g127]) := fun x hx hy => (hk134 x hx).elim (fun h => (fun x hx hy => p_iD000129_iD000124 x hy hx) x h hy) (fun h => absurd (hM x (ml hy)) (Nat.not_lt.2 h))
     have p_iD000134_i22 : ∀ x ∈ blkL ao134, x ∉ (blkL ao22) := fun x hx hy => (hk134 x hx).elim (fun h => p_iD000124_i22 x h hy) (fun h => absurd (hM x (mr (mr (ml hy)))) (Nat.not_lt.2 h))
     have p_iD000134_M : ∀ x ∈ blkL ao134, x ∉ M := fun x hx hy => (hk134 x hx).elim (fun h => p_iD000124_M x h hy) (fun h => absurd (hM x (mr (mr (mr (hy))))) (Nat.not_lt.2 h))
     have e_iD000134 : ∀ x ∈ blkL ao134, w.heap.size ≤ x := fun x hx => (hk134 x hx).elim (e_iD000124 x) (Nat.le_trans hC.size)
     have hM : MS (blkL ao134 ++ ([g127] ++ (blkL ao22 ++ (M)))) w133 := (MS.app hl134 (MS.app (fun x h => hM.chg hc134 x (ml h)) (fun x h => hM.chg hc134 x (mr (mr (h))))))
     have hC := hC.trans hc134 (fun x h => .inr (e_iD000124 x h))
     have d_iD000134 : Ok (blkL ao134) [] w21.heap.size := fun x hx => (hk134 x hx).elim (fun h => d_iD000124 x h) (fun h => .inr (Nat.le_trans hS.size h))
     have hS := hS.trans hc134 d_iD000124
     have f134 := hO134.chg (M' := blkL ao134 ++ ([g127] ++ (blkL ao22 ++ (M)))) (Chg.refl [] _) (Ok.nil _ _) (Ok.app (fun _ h => .inl (ml h)) (Ok.to (Ok.app (fun _ h => .inl (ml h)) (fun _ h => .inl (mr (mr (h))))) (fun _ h => mr h))) (fun _ _ h => nomatch h) (fun _ h => ml h)
     refine ae hK131 hS ?_; clear hK131 K131
     refine ac 7 (by kernel_rfl) (by rfl) fun K135 hK135 => ?_
     have fz := f134.toRSl (M' := [g127] ++ (blkL ao22 ++ (M))) (fun _ h => .inl (mr (h))) (fun x hx hm => (List.mem_append.1 hm).elim (fun h => p_iD000134_iD000129 x hx h) (fun h => (List.mem_append.1 h).elim (fun h => p_iD000134_i22 x hx h) (fun h => p_iD000134_M x hx h)))
     have o1 : Ok [] (blkL ao134 ++ ([g127] ++ (blkL ao22 ++ (M)))) w133.heap.size := Ok.nil _ _
     have o2 : Ok ([g127] ++ (blkL ao22 ++ (M))) (blkL ao134 ++ ([g127] ++ (blkL ao22 ++ (M)))) w133.heap.size := (fun _ h => .inl (mr (h)))
     have f1 := f1.chg (Chg.refl [] _) o1 o2
     have f22 := f22.chg (Chg.refl [] _) o1 o2 (fun _ _ h => nomatch h) (fun _ h => mr (ml h))
     have f130 := f130.chg (Chg.refl [] _) o1 o2 (fun _ _ h => nomatch h) (fun _ h => ml h)
     have q_hn7 : g4 ∉ [g127] ++ (blkL ao22 ++ (M)) := fun h => (o2 g4 h).elim hn7 (fun h => absurd (lt_cell (hE6 0 _ rfl)) (Nat.not_lt.2 h))
     have hn7 := q_hn7
     have q_hn12 : g9 ∉ [g127] ++ (blkL ao22 ++ (M)) := fun h => (o2 g9 h).elim hn12 (fun h => absurd (lt_cell (hE11 0 _ rfl)) (Nat.not_lt.2 h))
     have hn12 := q_hn12
     have hM : MS ([g127] ++ (blkL ao22 ++ (M))) w133 := (fun x h => hM.chg (Chg.refl [] _) x (mr (h)))
     have f134 := fz
     obtain ⟨t136, H136, H⟩ := bind_some H
     refine cl ha (by rfl) (by kernel_rfl) (by rfl) (by rfl) (by rfl) (joins_Ifaces.walk w133 _ hM ((([] : List S_api_Join) ++ a0) ++ ([a1] : List S_api_Join)) ao134 cap134 f134 a2 k _ H136) ?_
     rintro _ w136 ⟨ao137, cap137, rfl, f137, ne_iD000137, hc136, hMn⟩ a ha
     have o1 : Ok [] ([g127] ++ (blkL ao22 ++ (M))) w133.heap.size := Ok.nil _ _
     have o2 : Ok (blkL ao137 ++ ([g127] ++ (blkL ao22 ++ (M)))) ([g127] ++ (blkL ao22 ++ (M))) w133.heap.size := (Ok.app (fun x h => .inr (ne_iD000137 x h)) (Ok.refl _ _))
     have f1 := f1.chg hc136 o1 o2
     have f22 := f22.chg hc136 o1 o2 (fun _ _ h => nomatch h) (fun _ h => mr (mr (ml h)))
     have f130 := f130.chg hc136 o1 o2 (fun _ _ h => nomatch h) (fun _ h => mr (ml h))
     have f134 := f134.chg hc136 o1 o2
     have q_hn7 : g4 ∉ blkL ao137 ++ ([g127] ++ (blkL ao22 ++ (M))) := fun h => (o2 g4 h).elim hn7 (fun h => absurd (lt_cell (hE6 0 _ rfl)) (Nat.not_lt.2 h))
     have hE6 : ∀ j v, (cS_api_Join a1)[j]? = some v → w136.cell? ⟨g4, 0 + j, none⟩ = some v := fun j v hv => (cell_keep hc136 o1 hn7 (hE6 j v hv))
     have hn7 := q_hn7
     have q_hn12 : g9 ∉ blkL ao137 ++ ([g127] ++ (blkL ao22 ++ (M))) := fun h => (o2 g9 h).elim hn12 (fun h => absurd (lt_cell (hE11 0 _ rfl)) (Nat.not_lt.2 h))
     have hE11 : ∀ j v, (cS_api_Flow a2)[j]? = some v → w136.cell? ⟨g9, 0 + j, none⟩ = some v := fun j v hv => (cell_keep hc136 o1 hn12 (hE11 j v hv))
     have hn12 := q_hn12
     have p_iD000137_iD000129 : ∀ x ∈ blkL ao137, x ∉ ([g127]) := fun x hx hy => absurd (hM x (ml hy)) (Nat.not_lt.2 (ne_iD000137 x hx))
     have p_iD000137_i22 : ∀ x ∈ blkL ao137, x ∉ (blkL ao22) := fun x hx hy => absurd (hM x (mr (ml hy))) (Nat.not_lt.2 (ne_iD000137 x hx))
     have p_iD000137_M : ∀ x ∈ blkL ao137, x ∉ M := fun x hx hy => absurd (hM x (mr (mr (hy)))) (Nat.not_lt.2 (ne_iD000137 x hx))
     have e_iD000137 : ∀ x ∈ blkL ao137, w.heap.size ≤ x := fun x hx => Nat.le_trans hC.size (ne_iD000137 x hx)
     have hM : MS (blkL ao137 ++ ([g127] ++ (blkL ao22 ++ (M)))) w136 := (MS.app (fun x h => hMn x (ml h)) (hM.chg hc136))
     have hC := hC.trans hc136 (Ok.nil _ _)
     have d_iD000137 : Ok (blkL ao137) [] w21.heap.size := fun x hx => .inr (Nat.le_trans hS.size (ne_iD000137 x hx))
     have hS := hS.trans hc136 (Ok.nil _ _)
     refine ae hK135 hS ?_; clear hK135 K135
     refine tkpz 8 0 (.slice ao137 t136.length cap137) ha (s := hS) (q := fun a ha => ?_)
     refine dn (by kernel_rfl) ?_
     obtain rfl := Option.some.inj H
     have o1 : Ok [] (blkL ao137 ++ ([g127] ++ (blkL ao22 ++ (M)))) w136.heap.size := Ok.nil _ _
     have o2 : Ok (blkL ao137 ++ (blkL ao22 ++ (M))) (blkL ao137 ++ ([g127] ++ (blkL ao22 ++ (M)))) w136.heap.size := (Ok.app (fun _ h => .inl (ml h)) (fun _ h => .inl (mr (mr (h)))))
     have f22 := f22.chg (Chg.refl [] _) o1 o2 (fun _ _ h => nomatch h) (fun _ h => mr (ml h))
     have f137 := f137.chg (Chg.refl [] _) o1 o2 (fun _ _ h => nomatch h) (fun _ h => ml h)
     have q_hn7 : g4 ∉ blkL ao137 ++ (blkL ao22 ++ (M)) := fun h => (o2 g4 h).elim hn7 (fun h => absurd (lt_cell (hE6 0 _ rfl)) (Nat.not_lt.2 h))
     have hn7 := q_hn7
     have q_hn12 : g9 ∉ blkL ao137 ++ (blkL ao22 ++ (M)) := fun h => (o2 g9 h).elim hn12 (fun h => absurd (lt_cell (hE11 0 _ rfl)) (Nat.not_lt.2 h))
     have hn12 := q_hn12
     have hM : MS (blkL ao137 ++ (blkL ao22 ++ (M))) w136 := (MS.app (fun x h => hM.chg (Chg.refl [] _) x (ml h)) (fun x h => hM.chg (Chg.refl [] _) x (mr (mr (h)))))
     exact J26 _ _ ao137 cap137 (ha.sel (by kernel_rfl)) f22 f137 hE6 hn7 hE11 hn12 e_iD000137 p_iD000137_i22 p_iD000137_M hC hM
    ·refine ⟨_, rfl, fun K138 hK138 => ?_⟩
     refine bslA (vals := ([.agg (cS_api_Join a1).toArray] : List Value)) (T := 38) (z := .agg (cS_api_Join (⟨([] : List UInt8), ([] : List UInt8), (⟨(0 : Int), (List.replicate 16 (0 : Int))⟩ : S_api_Addr), (⟨(0 : Int), (List.replicate 16 (0 : Int))⟩ : S_api_Addr)⟩ : S_api_Join)).toArray) ha rfl (by kernel_rfl) rfl (by kernel_rfl) (s := 36) (by kernel_rfl) rfl rfl (fun w => by kernel_rfl) (by kernel_rfl) rfl rfl rfl fun a w139 g140 hN141 ha => ?_
     have hN141 := (show New _ _ _ (.cells (((cS_api_Join a1) ++ ([] : List Value))).toArray 38 (0, 0)) from hN141)
     have o1 : Ok [] ([g117] ++ (blkL ao22 ++ (M))) w116.heap.size := Ok.nil _ _
     have o2 : Ok ([g140] ++ ([g117] ++ (blkL ao22 ++ (M)))) ([g117] ++ (blkL ao22 ++ (M))) w116.heap.size := (Ok.app (hN141.ok _) (Ok.refl _ _))
     have f1 := f1.chg hN141.chg o1 o2
     have f22 := f22.chg hN141.chg o1 o2 (fun _ _ h => nomatch h) (fun _ h => mr (mr (ml h)))
     have f120 := f120.chg hN141.chg o1 o2 (fun _ _ h => nomatch h) (fun _ h => mr (ml h))
     have q_hn7 : g4 ∉ [g140] ++ ([g117] ++ (blkL ao22 ++ (M))) := fun h => (o2 g4 h).elim hn7 (fun h => absurd (lt_cell (hE6 0 _ rfl)) (Nat.not_lt.2 h))
     have hE6 : ∀ j v, (cS_api_Join a1)[j]? = some v → w139.cell? ⟨g4, 0 + j, none⟩ = some v := fun j v hv => (cell_keep hN141.chg o1 hn7 (hE6 j v hv))
     have hn7 := q_hn7
     have q_hn12 : g9 ∉ [g140] ++ ([g117] ++ (blkL ao22 ++ (M))) := fun h => (o2 g9 h).elim hn12 (fun h => absurd (lt_cell (hE11 0 _ rfl)) (Nat.not_lt.2 h))
     have hE11 : ∀ j v, (cS_api_Flow a2)[j]? = some v → w139.cell? ⟨g9, 0 + j, none⟩ = some v := fun j v hv => (cell_keep hN141.chg o1 hn12 (hE11 j v hv))
     have hn12 := q_hn12
     have p_iD000142_iD000119 : ∀ x ∈ [g140], x ∉ ([g117]) := fun x hx hy => absurd (hM x (ml hy)) (Nat.not_lt.2 ((hN141.ge1) x hx))
     have p_iD000142_i22 : ∀ x ∈ [g140], x ∉ (blkL ao22) := fun x hx hy => absurd (hM x (mr (ml hy))) (Nat.not_lt.2 ((hN141.ge1) x hx))
     have p_iD000142_M : ∀ x ∈ [g140], x ∉ M := fun x hx hy => absurd (hM x (mr (mr (hy)))) (Nat.not_lt.2 ((hN141.ge1) x hx))
     have e_iD000142 : ∀ x ∈ [g140], w.heap.size ≤ x := fun x hx => Nat.le_trans hC.size ((hN141.ge1) x hx)
     have hM : MS ([g140] ++ ([g117] ++ (blkL ao22 ++ (M)))) w139 := (MS.app hN141.ms (hM.chg hN141.chg))
     have hC := hC.trans hN141.chg (Ok.nil _ _)
     have d_iD000142 : Ok ([g140]) [] w21.heap.size := fun x hx => .inr (Nat.le_trans hS.size ((hN141.ge1) x hx))
     have hS := hS.trans hN141.chg (Ok.nil _ _)
     have f143 : Own rS_api_Join 38 w139 ([g140] ++ ([g117] ++ (blkL ao22 ++ (M)))) (some ⟨g140, 0, none⟩) 1 ([a1] : List S_api_Join) := hN141.own ⟨(cS_api_Join a1), _, rfl, (rS_api_Join.mk a1), rfl⟩ (Nat.le_of_ble_eq_true rfl)
     refine ae hK138 hS ?_; clear hK138 K138
     refine ac 2 (by kernel_rfl) (by rfl) fun K144 hK144 => ?_
     obtain ⟨hx145, H⟩ := ite_some H
     refine app (r := rS_api_Join) (xs := ([] : List S_api_Join)) (ys := a0) ha (ElemT.mk' (bytes := 80) (by kernel_rfl)) rfl rfl rfl rfl rfl f120 f1.src hx145 (by decide) fun a w146 ao147 cap147 hO147 hc147 hk147 hl147 ha => ?_
     have o1 : Ok [g117] ([g140] ++ ([g117] ++ (blkL ao22 ++ (M)))) w139.heap.size := (fun _ h => .inl (mr (ml h)))
     have o2 : Ok (blkL ao147 ++ ([g140] ++ (blkL ao22 ++ (M)))) ([g140] ++ ([g117] ++ (blkL ao22 ++ (M)))) w139.heap.size := (Ok.app (Ok.to hk147 (fun _ h => mr (ml h))) (Ok.app (fun _ h => .inl (ml h)) (fun _ h => .inl (mr (mr (h))))))
     have f1 := f1.chg hc147 o1 o2
     have f22 := f22.chg hc147 o1 o2 (fun x (hx : x ∈ blkL ao22) (hy : x ∈ [g117]) => p_iD000119_i22 x hy hx) (fun _ h => mr (mr (ml h)))
     have f143 := f143.chg hc147 o1 o2 p_iD000142_iD000119 (fun _ h => mr (ml h))
     have q_hn7 : g4 ∉ blkL ao147 ++ ([g140] ++ (blkL ao22 ++ (M))) := fun h => (o2 g4 h).elim hn7 (fun h => absurd (lt_cell (hE6 0 _ rfl)) (Nat.not_lt.2 h))
     have hE6 : ∀ j v, (cS_api_Join a1)[j]? = some v → w146.cell? ⟨g4, 0 + j, none⟩ = some v := fun j v hv => (cell_keep hc147 o1 hn7 (hE6 j v hv))
     have hn7 := q_hn7
     have q_hn12 : g9 ∉ blkL ao147 ++ ([g140] ++ (blkL ao22 ++ (M))) := fun h => (o2 g9 h).elim hn12 (fun h => absurd (lt_cell (hE11 0 _ rfl)) (Nat.not_lt.2 h))
     have hE11 : ∀ j v, (cS_api_Flow a2)[j]? = some v → w146.cell? ⟨g9, 0 + j, none⟩ = some v := fun j v hv => (cell_keep hc147 o1 hn12 (hE11 j v hv))
     have hn12 := q_hn12
     have p_iD000147_iD000142 : ∀ x ∈ blkL ao147, x ∉ ([g140]) := fun x hx hy => (hk147 x hx).elim (fun h => (fun x hx hy => p_iD000142_iD000119 x hy hx) x h hy) (fun h => absurd (hM x (ml hy)) (Nat.not_lt.2 h))
     have p_iD000147_i22 : ∀ x ∈ blkL ao147, x ∉ (blkL ao22) := fun x hx hy => (hk147 x hx).elim (fun h => p_iD000119_i22 x h hy) (fun h => absurd (hM x (mr (mr (ml hy)))) (Nat.not_lt.2 h))
     have p_iD000147_M : ∀ x ∈ blkL ao147, x ∉ M := fun x hx hy => (hk147 x hx).elim (fun h => p_iD000119_M x h hy) (fun h => absurd (hM x (mr (mr (mr (hy))))) (Nat.not_lt.2 h))
     have e_iD000147 : ∀ x ∈ blkL ao147, w.heap.size ≤ x := fun x hx => (hk147 x hx).elim (e_iD000119 x) (Nat.le_trans hC.size)
     have hM : MS (blkL ao147 ++ ([g140] ++ (blkL ao22 ++ (M)))) w146 := (MS.app hl147 (MS.app (fun x h => hM.chg hc147 x (ml h)) (fun x h => hM.chg hc147 x (mr (mr (h))))))
     have hC := hC.trans hc147 (fun x h => .inr (e_iD000119 x h))
     have d_iD000147 : Ok (blkL ao147) [] w21.heap.size := fun x hx => (hk147 x hx).elim (fun h => d_iD000119 x h) (fun h => .inr (Nat.le_trans hS.size h))
     have hS := hS.trans hc147 d_iD000119
     have f147 := hO147.chg (M' := blkL ao147 ++ ([g140] ++ (blkL ao22 ++ (M)))) (Chg.refl [] _) (Ok.nil _ _) (Ok.app (fun _ h => .inl (ml h)) (Ok.to (Ok.app (fun _ h => .inl (ml h)) (fun _ h => .inl (mr (mr (h))))) (fun _ h => mr h))) (fun _ _ h => nomatch h) (fun _ h => ml h)
     refine ae hK144 hS ?_; clear hK144 K144
     refine ac 5 (by kernel_rfl) (by rfl) fun K148 hK148 => ?_
     obtain ⟨hx149, H⟩ := ite_some H
     refine app (r := rS_api_Join) (xs := (([] : List S_api_Join) ++ a0)) (ys := ([a1] : List S_api_Join)) ha (ElemT.mk' (bytes := 80) (by kernel_rfl)) rfl rfl rfl rfl rfl f147 f143.src hx149 (by decide) fun a w150 ao151 cap151 hO151 hc151 hk151 hl151 ha => ?_
     have o1 : Ok (blkL ao147) (blkL ao147 ++ ([g140] ++ (blkL ao22 ++ (M)))) w146.heap.size := (fun _ h => .inl (ml h))
     have o2 : Ok (blkL ao151 ++ ([g140] ++ (blkL ao22 ++ (M)))) (blkL ao147 ++ ([g140] ++ (blkL ao22 ++ (M)))) w146.heap.size := (Ok.app (Ok.to hk151 (fun _ h => ml h)) (fun _ h => .inl (mr (h))))
     have f1 := f1.chg hc151 o1 o2
     have f22 := f22.chg hc151 o1 o2 (fun x (hx : x ∈ blkL ao22) (hy : x ∈ blkL ao147) => p_iD000147_i22 x hy hx) (fun _ h => mr (mr (ml h)))
     have f143 := f143.chg hc151 o1 o2 (fun x (hx : x ∈ [g140]) (hy : x ∈ blkL ao147) => p_iD000147_iD000142 x hy hx) (fun _ h => mr (ml h))
     have q_hn7 : g4 ∉ blkL ao151 ++ ([g140] ++ (blkL ao22 ++ (M))) := fun h => (o2 g4 h).elim hn7 (fun h => absurd (lt_cell (hE6 0 _ rfl)) (Nat.not_lt.2 h))
     have hE6 : ∀ j v, (cS_api_Join a1)[j]? = some v → w150.cell? ⟨g4, 0 + j, none⟩ = some v := fun j v hv => (cell_keep hc151 o1 hn7 (hE6 j v hv))
     have hn7 := q_hn7
     have q_hn12 : g9 ∉ blkL ao151 ++ ([g140] ++ (blkL ao22 ++ (M))) := fun h => (o2 g9 h).elim hn12 (fun h => absurd (lt_cell (hE11 0 _ rfl)) (Nat.not_lt.2 h))
     have hE11 : ∀ j v, (cS_api_Flow a2)[j]? = some v → w150.cell? ⟨g9, 0 + j, none⟩ = some v := fun j v hv => (cell_keep hc151 o1 hn12 (hE11 j v hv))
     have hn12 := q_hn12
     have p_iD000151_iD000142 : ∀ x ∈ blkL ao151, x ∉ ([g140]) := fun x hx hy => (hk151 x hx).elim (fun h => p_iD000147_iD000142 x h hy) (fun h => absurd (hM x (mr (ml hy))) (Nat.not_lt.2 h))
     have p_iD000151_i22 : ∀ x ∈ blkL ao151, x ∉ (blkL ao22) := fun x hx hy => (hk151 x hx).elim (fun h => p_iD000147_i22 x h hy) (fun h => absurd (hM x (mr (mr (ml hy)))) (Nat.not_lt.2 h))
     have p_iD000151_M : ∀ x ∈ blkL ao151, x ∉ M := fun x hx hy => (hk151 x hx).elim (fun h => p_iD000147_M x h hy) (fun h => absurd (hM x (mr (mr (mr (hy))))) (Nat.not_lt.2 h))
     have e_iD000151 : ∀ x ∈ blkL ao151, w.heap.size ≤ x := fun x hx => (hk151 x hx).elim (e_iD000147 x) (Nat.le_trans hC.size)
     have hM : MS (blkL ao151 ++ ([g140] ++ (blkL ao22 ++ (M)))) w150 := (MS.app hl151 (fun x h => hM.chg hc151 x (mr (h))))
     have hC := hC.trans hc151 (fun x h => .inr (e_iD000147 x h))
     have d_iD000151 : Ok (blkL ao151) [] w21.heap.size := fun x hx => (hk151 x hx).elim (fun h => d_iD000147 x h) (fun h => .inr (Nat.le_trans hS.size h))
     have hS := hS.trans hc151 d_iD000147
     have f151 := hO151.chg (M' := blkL ao151 ++ ([g140] ++ (blkL ao22 ++ (M)))) (Chg.refl [] _) (Ok.nil _ _) (Ok.app (fun _ h => .inl (ml h)) (Ok.to (fun _ h => .inl (mr (h))) (fun _ h => mr h))) (fun _ _ h => nomatch h) (fun _ h => ml h)
     refine ae hK148 hS ?_; clear hK148 K148
     refine ac 7 (by kernel_rfl) (by rfl) fun K152 hK152 => ?_
     have fz := f151.toRSl (M' := [g140] ++ (blkL ao22 ++ (M))) (fun _ h => .inl (mr (h))) (fun x hx hm => (List.mem_append.1 hm).elim (fun h => p_iD000151_iD000142 x hx h) (fun h => (List.mem_append.1 h).elim (fun h => p_iD000151_i22 x hx h) (fun h => p_iD000151_M x hx h)))
     have o1 : Ok [] (blkL ao151 ++ ([g140] ++ (blkL ao22 ++ (M)))) w150.heap.size := Ok.nil _ _
     have o2 : Ok ([g140] ++ (blkL ao22 ++ (M))) (blkL ao151 ++ ([g140] ++ (blkL ao22 ++ (M)))) w150.heap.size := (fun _ h => .inl (mr (h)))
     have f1 := f1.chg (Chg.refl [] _) o1 o2
     have f22 := f22.chg (Chg.refl [] _) o1 o2 (fun _ _ h => nomatch h) (fun _ h => mr (ml h))
     have f143 := f143.chg (Chg.refl [] _) o1 o2 (fun _ _ h => nomatch h) (fun _ h => ml h)
     have q_hn7 : g4 ∉ [g140] ++ (blkL ao22 ++ (M)) := fun h => (o2 g4 h).elim hn7 (fun h => absurd (lt_cell (hE6 0 _ rfl)) (Nat.not_lt.2 h))
     have hn7 := q_hn7
     have q_hn12 : g9 ∉ [g140] ++ (blkL ao22 ++ (M)) := fun h => (o2 g9 h).elim hn12 (fun h => absurd (lt_cell (hE11 0 _ rfl)) (Nat.not_lt.2 h))
     have hn12 := q_hn12
     have hM : MS ([g140] ++ (blkL ao22 ++ (M))) w150 := (fun x h => hM.chg (Chg.refl [] _) x (mr (h)))
     have f151 := fz
     obtain ⟨t153, H153, H⟩ := bind_some H
     refine cl ha (by rfl) (by kernel_rfl) (by rfl) (by rfl) (by rfl) (joins_Ifaces.walk w150 _ hM ((([] : List S_api_Join) ++ a0) ++ ([a1] : List S_api_Join)) ao151 cap151 f151 a2 k _ H153) ?_
     rintro _ w153 ⟨ao154, cap154, rfl, f154, ne_iD000154, hc153, hMn⟩ a ha
     have o1 : Ok [] ([g140] ++ (blkL ao22 ++ (M))) w150.heap.size := Ok.nil _ _
     have o2 : Ok (blkL ao154 ++ ([g140] ++ (blkL ao22 ++ (M)))) ([g140] ++ (blkL ao22 ++ (M))) w150.heap.size := (Ok.app (fun x h => .inr (ne_iD000154 x h)) (Ok.refl _ _))
     have f1 := f1.chg hc153 o1 o2
     have f22 := f22.chg hc153 o1 o2 (fun _ _ h => nomatch h) (fun _ h => mr (mr (ml h)))
     have f143 := f143.chg hc153 o1 o2 (fun _ _ h => nomatch h) (fun _ h => mr (ml h))
     have f151 := f151.chg hc153 o1 o2
     have q_hn7 : g4 ∉ blkL ao154 ++ ([g140] ++ (blkL ao22 ++ (M))) := fun h => (o2 g4 h).elim hn7 (fun h => absurd (lt_cell (hE6 0 _ rfl)) (Nat.not_lt.2 h))
     have hE6 : ∀ j v, (cS_api_Join a1)[j]? = some v → w153.cell? ⟨g4, 0 + j, none⟩ = some v := fun j v hv => (cell_keep hc153 o1 hn7 (hE6 j v hv))
     have hn7 := q_hn7
     have q_hn12 : g9 ∉ blkL ao154 ++ ([g140] ++ (blkL ao22 ++ (M))) := fun h => (o2 g9 h).elim hn12 (fun h => absurd (lt_cell (hE11 0 _ rfl)) (Nat.not_lt.2 h))
     have hE11 : ∀ j v, (cS_api_Flow a2)[j]? = some v → w153.cell? ⟨g9, 0 + j, none⟩ = some v := fun j v hv => (cell_keep hc153 o1 hn12 (hE11 j v hv))
     have hn12 := q_hn12
     have p_iD000154_iD000142 : ∀ x ∈ blkL ao154, x ∉ ([g140]) := fun x hx hy => absurd (hM x (ml hy)) (Nat.not_lt.2 (ne_iD000154 x hx))
     have p_iD000154_i22 : ∀ x ∈ blkL ao154, x ∉ (blkL ao22) := fun x hx hy => absurd (hM x (mr (ml hy))) (Nat.not_lt.2 (ne_iD000154 x hx))
     have p_iD000154_M : ∀ x ∈ blkL ao154, x ∉ M := fun x hx hy => absurd (hM x (mr (mr (hy)))) (Nat.not_lt.2 (ne_iD000154 x hx))
     have e_iD000154 : ∀ x ∈ blkL ao154, w.heap.size ≤ x := fun x hx => Nat.le_trans hC.size (ne_iD000154 x hx)
     have hM : MS (blkL ao154 ++ ([g140] ++ (blkL ao22 ++ (M)))) w153 := (MS.app (fun x h => hMn x (ml h)) (hM.chg hc153))
     have hC := hC.trans hc153 (Ok.nil _ _)
     have d_iD000154 : Ok (blkL ao154) [] w21.heap.size := fun x hx => .inr (Nat.le_trans hS.size (ne_iD000154 x hx))
     have hS := hS.trans hc153 (Ok.nil _ _)
     refine ae hK152 hS ?_; clear hK152 K152
     refine tkpz 8 0 (.slice ao154 t153.length cap154) ha (s := hS) (q := fun a ha => ?_)
     refine dn (by kernel_rfl) ?_
     obtain rfl := Option.some.inj H
     have o1 : Ok [] (blkL ao154 ++ ([g140] ++ (blkL ao22 ++ (M)))) w153.heap.size := Ok.nil _ _
     have o2 : Ok (blkL ao154 ++ (blkL ao22 ++ (M))) (blkL ao154 ++ ([g140] ++ (blkL ao22 ++ (M)))) w153.heap.size := (Ok.app (fun _ h => .inl (ml h)) (fun _ h => .inl (mr (mr (h)))))
     have f22 := f22.chg (Chg.refl [] _) o1 o2 (fun _ _ h => nomatch h) (fun _ h => mr (ml h))
     have f154 := f154.chg (Chg.refl [] _) o1 o2 (fun _ _ h => nomatch h) (fun _ h => ml h)
     have q_hn7 : g4 ∉ blkL ao154 ++ (blkL ao22 ++ (M)) := fun h => (o2 g4 h).elim hn7 (fun h => absurd (lt_cell (hE6 0 _ rfl)) (Nat.not_lt.2 h))
     have hn7 := q_hn7
     have q_hn12 : g9 ∉ blkL ao154 ++ (blkL ao22 ++ (M)) := fun h => (o2 g9 h).elim hn12 (fun h => absurd (lt_cell (hE11 0 _ rfl)) (Nat.not_lt.2 h))
     have hn12 := q_hn12
     have hM : MS (blkL ao154 ++ (blkL ao22 ++ (M))) w153 := (MS.app (fun x h => hM.chg (Chg.refl [] _) x (ml h)) (fun x h => hM.chg (Chg.refl [] _) x (mr (mr (h)))))
     exact J26 _ _ ao154 cap154 (ha.sel (by kernel_rfl)) f22 f154 hE6 hn7 hE11 hn12 e_iD000154 p_iD000154_i22 p_iD000154_M hC hM
   ·refine ⟨_, rfl, fun K155 hK155 => ?_⟩
    refine bslA (vals := ([.agg (cS_api_Join a1).toArray] : List Value)) (T := 38) (z := .agg (cS_api_Join (⟨([] : List UInt8), ([] : List UInt8), (⟨(0 : Int), (List.replicate 16 (0 : Int))⟩ : S_api_Addr), (⟨(0 : Int), (List.replicate 16 (0 : Int))⟩ : S_api_Addr)⟩ : S_api_Join)).toArray) ha rfl (by kernel_rfl) rfl (by kernel_rfl) (s := 36) (by kernel_rfl) rfl rfl (fun w => by kernel_rfl) (by kernel_rfl) rfl rfl rfl fun a w156 g157 hN158 ha => ?_
    have hN158 := (show New _ _ _ (.cells (((cS_api_Join a1) ++ ([] : List Value))).toArray 38 (0, 0)) from hN158)
    have o1 : Ok [] (blkL ao22 ++ (M)) w24.heap.size := Ok.nil _ _
    have o2 : Ok ([g157] ++ (blkL ao22 ++ (M))) (blkL ao22 ++ (M)) w24.heap.size := (Ok.app (hN158.ok _) (Ok.refl _ _))
    have f1 := f1.chg hN158.chg o1 o2
    have f22 := f22.chg hN158.chg o1 o2 (fun _ _ h => nomatch h) (fun _ h => mr (ml h))
    have q_hn7 : g4 ∉ [g157] ++ (blkL ao22 ++ (M)) := fun h => (o2 g4 h).elim hn7 (fun h => absurd (lt_cell (hE6 0 _ rfl)) (Nat.not_lt.2 h))
    have hE6 : ∀ j v, (cS_api_Join a1)[j]? = some v → w156.cell? ⟨g4, 0 + j, none⟩ = some v := fun j v hv => (cell_keep hN158.chg o1 hn7 (hE6 j v hv))
    have hn7 := q_hn7
    have q_hn12 : g9 ∉ [g157] ++ (blkL ao22 ++ (M)) := fun h => (o2 g9 h).elim hn12 (fun h => absurd (lt_cell (hE11 0 _ rfl)) (Nat.not_lt.2 h))
    have hE11 : ∀ j v, (cS_api_Flow a2)[j]? = some v → w156.cell? ⟨g9, 0 + j, none⟩ = some v := fun j v hv => (cell_keep hN158.chg o1 hn12 (hE11 j v hv))
    have hn12 := q_hn12
    have p_iD000159_i22 : ∀ x ∈ [g157], x ∉ (blkL ao22) := fun x hx hy => absurd (hM x (ml hy)) (Nat.not_lt.2 ((hN158.ge1) x hx))
    have p_iD000159_M : ∀ x ∈ [g157], x ∉ M := fun x hx hy => absurd (hM x (mr (hy))) (Nat.not_lt.2 ((hN158.ge1) x hx))
    have e_iD000159 : ∀ x ∈ [g157], w.heap.size ≤ x := fun x hx => Nat.le_trans hC.size ((hN158.ge1) x hx)
    have hM : MS ([g157] ++ (blkL ao22 ++ (M))) w156 := (MS.app hN158.ms (hM.chg hN158.chg))
    have hC := hC.trans hN158.chg (Ok.nil _ _)
    have d_iD000159 : Ok ([g157]) [] w21.heap.size := fun x hx => .inr (Nat.le_trans hS.size ((hN158.ge1) x hx))
    have hS := hS.trans hN158.chg (Ok.nil _ _)
    have f160 : Own rS_api_Join 38 w156 ([g157] ++ (blkL ao22 ++ (M))) (some ⟨g157, 0, none⟩) 1 ([a1] : List S_api_Join) := hN158.own ⟨(cS_api_Join a1), _, rfl, (rS_api_Join.mk a1), rfl⟩ (Nat.le_of_ble_eq_true rfl)
    refine ae hK155 hS ?_; clear hK155 K155
    refine ac 0 (by kernel_rfl) (by rfl) fun K161 hK161 => ?_
    refine bsl (vals := ([] : List Value)) (T := 38) ha rfl ([] : List Value) (fun w => by kernel_rfl) rfl rfl rfl fun a w162 g163 hN164 ha => ?_
    have o1 : Ok [] ([g157] ++ (blkL ao22 ++ (M))) w156.heap.size := Ok.nil _ _
    have o2 : Ok ([g163] ++ ([g157] ++ (blkL ao22 ++ (M)))) ([g157] ++ (blkL ao22 ++ (M))) w156.heap.size := (Ok.app (hN164.ok _) (Ok.refl _ _))
    have f1 := f1.chg hN164.chg o1 o2
    have f22 := f22.chg hN164.chg o1 o2 (fun _ _ h => nomatch h) (fun _ h => mr (mr (ml h)))
    have f160 := f160.chg hN164.chg o1 o2 (fun _ _ h => nomatch h) (fun _ h => mr (ml h))
    have q_hn7 : g4 ∉ [g163] ++ ([g157] ++ (blkL ao22 ++ (M))) := fun h => (o2 g4 h).elim hn7 (fun h => absurd (lt_cell (hE6 0 _ rfl)) (Nat.not_lt.2 h))
    have hE6 : ∀ j v, (cS_api_Join a1)[j]? = some v → w162.cell? ⟨g4, 0 + j, none⟩ = some v := fun j v hv => (cell_keep hN164.chg o1 hn7 (hE6 j v hv))
    have hn7 := q_hn7
    have q_hn12 : g9 ∉ [g163] ++ ([g157] ++ (blkL ao22 ++ (M))) := fun h => (o2 g9 h).elim hn12 (fun h => absurd (lt_cell (hE11 0 _ rfl)) (Nat.not_lt.2 h))
    have hE11 : ∀ j v, (cS_api_Flow a2)[j]? = some v → w162.cell? ⟨g9, 0 + j, none⟩ = some v := fun j v hv => (cell_keep hN164.chg o1 hn12 (hE11 j v hv))
    have hn12 := q_hn12
    have p_iD000165_iD000159 : ∀ x ∈ [g163], x ∉ ([g157]) := fun x hx hy => absurd (hM x (ml hy)) (Nat.not_lt.2 ((hN164.ge1) x hx))
    have p_iD000165_i22 : ∀ x ∈ [g163], x ∉ (blkL ao22) := fun x hx hy => absurd (hM x (mr (ml hy))) (Nat.not_lt.2 ((hN164.ge1) x hx))
    have p_iD000165_M : ∀ x ∈ [g163], x ∉ M := fun x hx hy => absurd (hM x (mr (mr (hy)))) (Nat.not_lt.2 ((hN164.ge1) x hx))
    have e_iD000165 : ∀ x ∈ [g163], w.heap.size ≤ x := fun x hx => Nat.le_trans hC.size ((hN164.ge1) x hx)
    have hM : MS ([g163] ++ ([g157] ++ (blkL ao22 ++ (M)))) w162 := (MS.app hN164.ms (hM.chg hN164.chg))
    have hC := hC.trans hN164.chg (Ok.nil _ _)
    have d_iD000165 : Ok ([g163]) [] w21.heap.size := fun x hx => .inr (Nat.le_trans hS.size ((hN164.ge1) x hx))
    have hS := hS.trans hN164.chg (Ok.nil _ _)
    have f166 : Own rS_api_Join 38 w162 ([g163] ++ ([g157] ++ (blkL ao22 ++ (M)))) (some ⟨g163, 0, none⟩) 0 ([] : List S_api_Join) := hN164.own rfl (Nat.le_of_ble_eq_true rfl)
    refine ae hK161 hS ?_; clear hK161 K161
    refine ac 2 (by kernel_rfl) (by rfl) fun K167 hK167 => ?_
    obtain ⟨hx168, H⟩ := ite_some H
    refine app (r := rS_api_Join) (xs := ([] : List S_api_Join)) (ys := a0) ha (ElemT.mk' (bytes := 80) (by kernel_rfl)) rfl rfl rfl rfl rfl f166 f1.src hx168 (by decide) fun a w169 ao170 cap170 hO170 hc170 hk170 hl170 ha => ?_
    have o1 : Ok [g163] ([g163] ++ ([g157] ++ (blkL ao22 ++ (M)))) w162.heap.size := (fun _ h => .inl (ml h))
    have o2 : Ok (blkL ao170 ++ ([g157] ++ (blkL ao22 ++ (M)))) ([g163] ++ ([g157] ++ (blkL ao22 ++ (M)))) w162.heap.size := (Ok.app (Ok.to hk170 (fun _ h => ml h)) (fun _ h => .inl (mr (h))))
    have f1 := f1.chg hc170 o1 o2
    have f22 := f22.chg hc170 o1 o2 (fun x (hx : x ∈ blkL ao22) (hy : x ∈ [g163]) => p_iD000165_i22 x hy hx) (fun _ h => mr (mr (ml h)))
    have f160 := f160.chg hc170 o1 o2 (fun x (hx : x ∈ [g157]) (hy : x ∈ [g163]) => p_iD000165_iD000159 x hy hx) (fun _ h => mr (ml h))
    have q_hn7 : g4 ∉ blkL ao170 ++ ([g157] ++ (blkL ao22 ++ (M))) := fun h => (o2 g4 h).elim hn7 (fun h => absurd (lt_cell (hE6 0 _ rfl)) (Nat.not_lt.2 h))
    have hE6 : ∀ j v, (cS_api_Join a1)[j]? = some v → w169.cell? ⟨g4, 0 + j, none⟩ = some v := fun j v hv => (cell_keep hc170 o1 hn7 (hE6 j v hv))
    have hn7 := q_hn7
    have q_hn12 : g9 ∉ blkL ao170 ++ ([g157] ++ (blkL ao22 ++ (M))) := fun h => (o2 g9 h).elim hn12 (fun h => absurd (lt_cell (hE11 0 _ rfl)) (Nat.not_lt.2 h))
    have hE11 : ∀ j v, (cS_api_Flow a2)[j]? = some v → w169.cell? ⟨g9, 0 + j, none⟩ = some v := fun j v hv => (cell_keep hc170 o1 hn12 (hE11 j v hv))
    have hn12 := q_hn12
    have p_iD000170_iD000159 : ∀ x ∈ blkL ao170, x ∉ ([g157]) := fun x hx hy => (hk170 x hx).elim (fun h => p_iD000165_iD000159 x h hy) (fun h => absurd (hM x (mr (ml hy))) (Nat.not_lt.2 h))
    have p_iD000170_i22 : ∀ x ∈ blkL ao170, x ∉ (blkL ao22) := fun x hx hy => (hk170 x hx).elim (fun h => p_iD000165_i22 x h hy) (fun h => absurd (hM x (mr (mr (ml hy)))) (Nat.not_lt.2 h))
    have p_iD000170_M : ∀ x ∈ blkL ao170, x ∉ M := fun x hx hy => (hk170 x hx).elim (fun h => p_iD000165_M x h hy) (fun h => absurd (hM x (mr (mr (mr (hy))))) (Nat.not_lt.2 h))
    have e_iD000170 : ∀ x ∈ blkL ao170, w.heap.size ≤ x := fun x hx => (hk170 x hx).elim (e_iD000165 x) (Nat.le_trans hC.size)
    have hM : MS (blkL ao170 ++ ([g157] ++ (blkL ao22 ++ (M)))) w169 := (MS.app hl170 (fun x h => hM.chg hc170 x (mr (h))))
    have hC := hC.trans hc170 (fun x h => .inr (e_iD000165 x h))
    have d_iD000170 : Ok (blkL ao170) [] w21.heap.size := fun x hx => (hk170 x hx).elim (fun h => d_iD000165 x h) (fun h => .inr (Nat.le_trans hS.size h))
    have hS := hS.trans hc170 d_iD000165
    have f170 := hO170.chg (M' := blkL ao170 ++ ([g157] ++ (blkL ao22 ++ (M)))) (Chg.refl [] _) (Ok.nil _ _) (Ok.app (fun _ h => .inl (ml h)) (Ok.to (fun _ h => .inl (mr (h))) (fun _ h => mr h))) (fun _ _ h => nomatch h) (fun _ h => ml h)
    refine ae hK167 hS ?_; clear hK167 K167
    refine ac 5 (by kernel_rfl) (by rfl) fun K171 hK171 => ?_
    obtain ⟨hx172, H⟩ := ite_some H
    refine app (r := rS_api_Join) (xs := (([] : List S_api_Join) ++ a0)) (ys := ([a1] : List S_api_Join)) ha (ElemT.mk' (bytes := 80) (by kernel_rfl)) rfl rfl rfl rfl rfl f170 f160.src hx172 (by decide) fun a w173 ao174 cap174 hO174 hc174 hk174 hl174 ha => ?_
    have o1 : Ok (blkL ao170) (blkL ao170 ++ ([g157] ++ (blkL ao22 ++ (M)))) w169.heap.size := (fun _ h => .inl (ml h))
    have o2 : Ok (blkL ao174 ++ ([g157] ++ (blkL ao22 ++ (M)))) (blkL ao170 ++ ([g157] ++ (blkL ao22 ++ (M)))) w169.heap.size := (Ok.app (Ok.to hk174 (fun _ h => ml h)) (fun _ h => .inl (mr (h))))
    have f1 := f1.chg hc174 o1 o2
    have f22 := f22.chg hc174 o1 o2 (fun x (hx : x ∈ blkL ao22) (hy : x ∈ blkL ao170) => p_iD000170_i22 x hy hx) (fun _ h => mr (mr (ml h)))
    have f160 := f160.chg hc174 o1 o2 (fun x (hx : x ∈ [g157]) (hy : x ∈ blkL ao170) => p_iD000170_iD000159 x hy hx) (fun _ h => mr (ml h))
    have q_hn7 : g4 ∉ blkL ao174 ++ ([g157] ++ (blkL ao22 ++ (M))) := fun h => (o2 g4 h).elim hn7 (fun h => absurd (lt_cell (hE6 0 _ rfl)) (Nat.not_lt.2 h))
    have hE6 : ∀ j v, (cS_api_Join a1)[j]? = some v → w173.cell? ⟨g4, 0 + j, none⟩ = some v := fun j v hv => (cell_keep hc174 o1 hn7 (hE6 j v hv))
    have hn7 := q_hn7
    have q_hn12 : g9 ∉ blkL ao174 ++ ([g157] ++ (blkL ao22 ++ (M))) := fun h => (o2 g9 h).elim hn12 (fun h => absurd (lt_cell (hE11 0 _ rfl)) (Nat.not_lt.2 h))
    have hE11 : ∀ j v, (cS_api_Flow a2)[j]? = some v → w173.cell? ⟨g9, 0 + j, none⟩ = some v := fun j v hv => (cell_keep hc174 o1 hn12 (hE11 j v hv))
    have hn12 := q_hn12
    have p_iD000174_iD000159 : ∀ x ∈ blkL ao174, x ∉ ([g157]) := fun x hx hy => (hk174 x hx).elim (fun h => p_iD000170_iD000159 x h hy) (fun h => absurd (hM x (mr (ml hy))) (Nat.not_lt.2 h))
    have p_iD000174_i22 : ∀ x ∈ blkL ao174, x ∉ (blkL ao22) := fun x hx hy => (hk174 x hx).elim (fun h => p_iD000170_i22 x h hy) (fun h => absurd (hM x (mr (mr (ml hy)))) (Nat.not_lt.2 h))
    have p_iD000174_M : ∀ x ∈ blkL ao174, x ∉ M := fun x hx hy => (hk174 x hx).elim (fun h => p_iD000170_M x h hy) (fun h => absurd (hM x (mr (mr (mr (hy))))) (Nat.not_lt.2 h))
    have e_iD000174 : ∀ x ∈ blkL ao174, w.heap.size ≤ x := fun x hx => (hk174 x hx).elim (e_iD000170 x) (Nat.le_trans hC.size)
    have hM : MS (blkL ao174 ++ ([g157] ++ (blkL ao22 ++ (M)))) w173 := (MS.app hl174 (fun x h => hM.chg hc174 x (mr (h))))
    have hC := hC.trans hc174 (fun x h => .inr (e_iD000170 x h))
    have d_iD000174 : Ok (blkL ao174) [] w21.heap.size := fun x hx => (hk174 x hx).elim (fun h => d_iD000170 x h) (fun h => .inr (Nat.le_trans hS.size h))
    have hS := hS.trans hc174 d_iD000170
    have f174 := hO174.chg (M' := blkL ao174 ++ ([g157] ++ (blkL ao22 ++ (M)))) (Chg.refl [] _) (Ok.nil _ _) (Ok.app (fun _ h => .inl (ml h)) (Ok.to (fun _ h => .inl (mr (h))) (fun _ h => mr h))) (fun _ _ h => nomatch h) (fun _ h => ml h)
    refine ae hK171 hS ?_; clear hK171 K171
    refine ac 7 (by kernel_rfl) (by rfl) fun K175 hK175 => ?_
    have fz := f174.toRSl (M' := [g157] ++ (blkL ao22 ++ (M))) (fun _ h => .inl (mr (h))) (fun x hx hm => (List.mem_append.1 hm).elim (fun h => p_iD000174_iD000159 x hx h) (fun h => (List.mem_append.1 h).elim (fun h => p_iD000174_i22 x hx h) (fun h => p_iD000174_M x hx h)))
    have o1 : Ok [] (blkL ao174 ++ ([g157] ++ (blkL ao22 ++ (M)))) w173.heap.size := Ok.nil _ _
    have o2 : Ok ([g157] ++ (blkL ao22 ++ (M))) (blkL ao174 ++ ([g157] ++ (blkL ao22 ++ (M)))) w173.heap.size := (fun _ h => .inl (mr (h)))
    have f1 := f1.chg (Chg.refl [] _) o1 o2
    have f22 := f22.chg (Chg.refl [] _) o1 o2 (fun _ _ h => nomatch h) (fun _ h => mr (ml h))
    have f160 := f160.chg (Chg.refl [] _) o1 o2 (fun _ _ h => nomatch h) (fun _ h => ml h)
    have q_hn7 : g4 ∉ [g157] ++ (blkL ao22 ++ (M)) := fun h => (o2 g4 h).elim hn7 (fun h => absurd (lt_cell (hE6 0 _ rfl)) (Nat.not_lt.2 h))
    have hn7 := q_hn7
    have q_hn12 : g9 ∉ [g157] ++ (blkL ao22 ++ (M)) := fun h => (o2 g9 h).elim hn12 (fun h => absurd (lt_cell (hE11 0 _ rfl)) (Nat.not_lt.2 h))
    have hn12 := q_hn12
    have hM : MS ([g157] ++ (blkL ao22 ++ (M))) w173 := (fun x h => hM.chg (Chg.refl [] _) x (mr (h)))
    have f174 := fz
    obtain ⟨t176, H176, H⟩ := bind_some H
    refine cl ha (by rfl) (by kernel_rfl) (by rfl) (by rfl) (by rfl) (joins_Ifaces.walk w173 _ hM ((([] : List S_api_Join) ++ a0) ++ ([a1] : List S_api_Join)) ao174 cap174 f174 a2 k _ H176) ?_
    rintro _ w176 ⟨ao177, cap177, rfl, f177, ne_iD000177, hc176, hMn⟩ a ha
    have o1 : Ok [] ([g157] ++ (blkL ao22 ++ (M))) w173.heap.size := Ok.nil _ _
    have o2 : Ok (blkL ao177 ++ ([g157] ++ (blkL ao22 ++ (M)))) ([g157] ++ (blkL ao22 ++ (M))) w173.heap.size := (Ok.app (fun x h => .inr (ne_iD000177 x h)) (Ok.refl _ _))
    have f1 := f1.chg hc176 o1 o2
    have f22 := f22.chg hc176 o1 o2 (fun _ _ h => nomatch h) (fun _ h => mr (mr (ml h)))
    have f160 := f160.chg hc176 o1 o2 (fun _ _ h => nomatch h) (fun _ h => mr (ml h))
    have f174 := f174.chg hc176 o1 o2
    have q_hn7 : g4 ∉ blkL ao177 ++ ([g157] ++ (blkL ao22 ++ (M))) := fun h => (o2 g4 h).elim hn7 (fun h => absurd (lt_cell (hE6 0 _ rfl)) (Nat.not_lt.2 h))
    have hE6 : ∀ j v, (cS_api_Join a1)[j]? = some v → w176.cell? ⟨g4, 0 + j, none⟩ = some v := fun j v hv => (cell_keep hc176 o1 hn7 (hE6 j v hv))
    have hn7 := q_hn7
    have q_hn12 : g9 ∉ blkL ao177 ++ ([g157] ++ (blkL ao22 ++ (M))) := fun h => (o2 g9 h).elim hn12 (fun h => absurd (lt_cell (hE11 0 _ rfl)) (Nat.not_lt.2 h))
    have hE11 : ∀ j v, (cS_api_Flow a2)[j]? = some v → w176.cell? ⟨g9, 0 + j, none⟩ = some v := fun j v hv => (cell_keep hc176 o1 hn12 (hE11 j v hv))
    have hn12 := q_hn12
    have p_iD000177_iD000159 : ∀ x ∈ blkL ao177, x ∉ ([g157]) := fun x hx hy => absurd (hM x (ml hy)) (Nat.not_lt.2 (ne_iD000177 x hx))
    have p_iD000177_i22 : ∀ x ∈ blkL ao177, x ∉ (blkL ao22) := fun x hx hy => absurd (hM x (mr (ml hy))) (Nat.not_lt.2 (ne_iD000177 x hx))
    have p_iD000177_M : ∀ x ∈ blkL ao177, x ∉ M := fun x hx hy => absurd (hM x (mr (mr (hy)))) (Nat.not_lt.2 (ne_iD000177 x hx))
    have e_iD000177 : ∀ x ∈ blkL ao177, w.heap.size ≤ x := fun x hx => Nat.le_trans hC.size (ne_iD000177 x hx)
    have hM : MS (blkL ao177 ++ ([g157] ++ (blkL ao22 ++ (M)))) w176 := (MS.app (fun x h => hMn x (ml h)) (hM.chg hc176))
    have hC := hC.trans hc176 (Ok.nil _ _)
    have d_iD000177 : Ok (blkL ao177) [] w21.heap.size := fun x hx => .inr (Nat.le_trans hS.size (ne_iD000177 x hx))
    have hS := hS.trans hc176 (Ok.nil _ _)
    refine ae hK175 hS ?_; clear hK175 K175
    refine tkpz 8 0 (.slice ao177 t176.length cap177) ha (s := hS) (q := fun a ha => ?_)
    refine dn (by kernel_rfl) ?_
    obtain rfl := Option.some.inj H
    have o1 : Ok [] (blkL ao177 ++ ([g157] ++ (blkL ao22 ++ (M)))) w176.heap.size := Ok.nil _ _
    have o2 : Ok (blkL ao177 ++ (blkL ao22 ++ (M))) (blkL ao177 ++ ([g157] ++ (blkL ao22 ++ (M)))) w176.heap.size := (Ok.app (fun _ h => .inl (ml h)) (fun _ h => .inl (mr (mr (h)))))
    have f22 := f22.chg (Chg.refl [] _) o1 o2 (fun _ _ h => nomatch h) (fun _ h => mr (ml h))
    have f177 := f177.chg (Chg.refl [] _) o1 o2 (fun _ _ h => nomatch h) (fun _ h => ml h)
    have q_hn7 : g4 ∉ blkL ao177 ++ (blkL ao22 ++ (M)) := fun h => (o2 g4 h).elim hn7 (fun h => absurd (lt_cell (hE6 0 _ rfl)) (Nat.not_lt.2 h))
    have hn7 := q_hn7
    have q_hn12 : g9 ∉ blkL ao177 ++ (blkL ao22 ++ (M)) := fun h => (o2 g9 h).elim hn12 (fun h => absurd (lt_cell (hE11 0 _ rfl)) (Nat.not_lt.2 h))
    have hn12 := q_hn12
    have hM : MS (blkL ao177 ++ (blkL ao22 ++ (M))) w176 := (MS.app (fun x h => hM.chg (Chg.refl [] _) x (ml h)) (fun x h => hM.chg (Chg.refl [] _) x (mr (mr (h)))))
    exact J26 _ _ ao177 cap177 (ha.sel (by kernel_rfl)) f22 f177 hE6 hn7 hE11 hn12 e_iD000177 p_iD000177_i22 p_iD000177_M hC hM
 have H := H17
 refine seg ha 4 [(19, .bool (decide ((a0.length : Int) > (60 : Int)))), (0, .slice ao1 a0.length cap1), (4, .pointer (some ⟨g4, 0, none⟩)), (5, .pointer (some ⟨g9, 0, none⟩)), (7, .bool t14)] (by kernel_rfl) fun a ha => ?_
 rcases Bool.eq_false_or_eq_true (decide ((a0.length : Int) > (60 : Int))) with hb178 | hb178
 ·have ha := ha.lit hb178
  have H := ite_t hb178 H
  refine sgh ha 4 [1, 1, 1, 3] [(0, .slice ao1 a0.length cap1), (4, .pointer (some ⟨g4, 0, none⟩)), (5, .pointer (some ⟨g9, 0, none⟩)), (7, .bool t14), (23, .bool true)] (by kernel_rfl) fun a ha => ?_
  obtain rfl := Option.some.inj H
  exact J17 _ _ (ha.sel (by kernel_rfl)) f1 hE6 hn7 hE11 hn12 hC hM
 ·have ha := ha.lit hb178
  have H := ite_f hb178 H
  refine ldA (cs := (cS_api_Join a1)) ha rfl (by kernel_rfl) rfl rfl rfl (cells_sub hE6 (all := (cS_api_Join a1)) [] [] (by kernel_rfl)) fun a ha => ?_
  obtain ⟨t179, H179, H⟩ := bind_some H
  refine cl ha (by rfl) (by kernel_rfl) (by rfl) (by rfl) (by rfl) (joins_Right.walk w14 _ hM a1 k _ H179) ?_
  rintro _ w179 ⟨rfl, hc179, hMn⟩ a ha
  have o1 : Ok [] (M) w14.heap.size := Ok.nil _ _
  have o2 : Ok (M) (M) w14.heap.size := (Ok.refl _ _)
  have f1 := f1.chg hc179 o1 o2
  have q_hn7 : g4 ∉ M := fun h => (o2 g4 h).elim hn7 (fun h => absurd (lt_cell (hE6 0 _ rfl)) (Nat.not_lt.2 h))
  have hE6 : ∀ j v, (cS_api_Join a1)[j]? = some v → w179.cell? ⟨g4, 0 + j, none⟩ = some v := fun j v hv => (cell_keep hc179 o1 hn7 (hE6 j v hv))
  have hn7 := q_hn7
  have q_hn12 : g9 ∉ M := fun h => (o2 g9 h).elim hn12 (fun h => absurd (lt_cell (hE11 0 _ rfl)) (Nat.not_lt.2 h))
  have hE11 : ∀ j v, (cS_api_Flow a2)[j]? = some v → w179.cell? ⟨g9, 0 + j, none⟩ = some v := fun j v hv => (cell_keep hc179 o1 hn12 (hE11 j v hv))
  have hn12 := q_hn12
  have hM : MS (M) w179 := (hM.chg hc179)
  have hC := hC.trans hc179 (Ok.nil _ _)
  refine sgh ha 2 [2, 4] [(0, .slice ao1 a0.length cap1), (4, .pointer (some ⟨g4, 0, none⟩)), (5, .pointer (some ⟨g9, 0, none⟩)), (7, .bool t14), (23, .bool (!t179))] (by kernel_rfl) fun a ha => ?_
  obtain rfl := Option.some.inj H
  exact J17 _ _ (ha.sel (by kernel_rfl)) f1 hE6 hn7 hE11 hn12 hC hM
end Go.E
