/- What the functions that the law reaches compute, and the walks that show it. -/
import Derived.Test.YtcejhnpncodkjaaGreatDoorEngU
import Derived.Test.YtcejhnpncodkjaaGreatDoorShelf
import Derived.Test.YtcejhnpncodkjaaGreatDoorEngX
import Derived.Test.YtcejhnpncodkjaaGreatDoorEngY
import Derived.Test.YtcejhnpncodkjaaGreatDoorProg
import Derived.Test.YtcejhnpncodkjaaGreatDoorGenCommunityMakesP2
set_option linter.unusedVariables false
set_option linter.unusedSimpArgs false
namespace Go.E
open Go.RowKit Go.Proofs
def vinerylaw04_CommunityMakes.f (k : Nat) (a0 : Int) (a1 : Int) (a2 : Int) (a3 : S_api_Addr) : Option (Bool) := (vinerylaw04_small.f k ).bind fun t8 => (community_Target.f k a0 a1 a2).bind fun t10 => (community_Import.f k a3 a2).bind fun t18 => (community_Source.f k a1).bind fun t26 => (vineryref04_Target.f k a0 a1 a2).bind fun t34 => (vineryref04_Import.f k a3 a2).bind fun t42 => (vineryref04_Source.f k a1).bind fun t50 => ((if t8 = true then (if (eqA 8 t10.1 t34.1) = true then (if (t10.2 == t34.2) = true then (if (eqA 8 t18.1 t42.1) = true then (if (t18.2 == t42.2) = true then (if (eqA 8 t26.1 t50.1) = true then some (t26.2 == t50.2 : Bool) else some (false : Bool)) else some (false : Bool)) else some (false : Bool)) else some (false : Bool)) else some (false : Bool)) else some (false : Bool))).bind fun s58 => some ((s58 : Bool))
set_option maxRecDepth 100000 in
theorem vinerylaw04_CommunityMakes.walk (w : World) (M : List Nat) (hM : MS M w) (hG : GF w M) (a0 : Int) (a1 : Int) (a2 : Int) (a3 : S_api_Addr) (k : Nat) (r : Bool) (H : vinerylaw04_CommunityMakes.f k a0 a1 a2 a3 = some r) :
    To Tryz.prog 3 [.int .i64 a0, .int .i64 a1, .int .i64 a2, .agg (cS_api_Addr a3).toArray] w fun v w' => v = .bool r ∧ Chg [] w w' ∧ MS (M) w' := by
 unfold vinerylaw04_CommunityMakes.f at H
 refine ent Tryz.func3 rfl [(0, .int .i64 a0), (1, .int .i64 a1), (2, .int .i64 a2), (3, .agg (cS_api_Addr a3).toArray)] rfl (by rfl) fun a ha => ?_
 have hC : Chg [] w w := Chg.refl _ _
 refine wp_seq_k fun K1 hK1 => ?_
 refine wp_region_lit ?_
 refine bx (cs := (cS_api_Addr a3)) ha rfl rfl rfl rfl rfl fun a w2 g3 hN4 ha => ?_
 have hn6 := hN4.notin hM
 have o1 : Ok [] (M) w.heap.size := Ok.nil _ _
 have o2 : Ok (M) (M) w.heap.size := (Ok.refl _ _)
 have hG := hG.chg hN4.chg o1 o2
 have hM : MS (M) w2 := (hM.chg hN4.chg)
 have hC := hC.trans hN4.chg (Ok.nil _ _)
 have hE5 : ∀ j v, (cS_api_Addr a3)[j]? = some v → w2.cell? ⟨g3, 0 + j, none⟩ = some v := Box.cells (New.box hN4)
 refine seg ha 1 [(0, .int .i64 a0), (1, .int .i64 a1), (2, .int .i64 a2), (7, .pointer (some ⟨g3, 0, none⟩))] (by kernel_rfl) fun a ha => ?_
 refine hK1 _ _ ?_; try clear hK1 K1
 refine wp_seq_k fun K7 hK7 => ?_
 refine wp_region_lit ?_
 obtain ⟨t8, H8, H⟩ := bind_some H
 refine cl ha (by rfl) (by kernel_rfl) (by rfl) (by rfl) (by rfl) (vinerylaw04_small.walk w2 _ hM hG  k _ H8) ?_
 rintro _ w8 ⟨rfl, hc8, hMn⟩ a ha
 have o1 : Ok [] (M) w2.heap.size := Ok.nil _ _
 have o2 : Ok (M) (M) w2.heap.size := (Ok.refl _ _)
 have hG := hG.chg hc8 o1 o2
 have q_hn6 : g3 ∉ M := fun h => (o2 g3 h).elim hn6 (fun h => absurd (lt_cell (hE5 0 _ rfl)) (Nat.not_lt.2 h))
 have hE5 : ∀ j v, (cS_api_Addr a3)[j]? = some v → w8.cell? ⟨g3, 0 + j, none⟩ = some v := fun j v hv => (cell_keep hc8 o1 hn6 (hE5 j v hv))
 have hn6 := q_hn6
 have hM : MS (M) w8 := (hM.chg hc8)
 have hC := hC.trans hc8 (Ok.nil _ _)
 refine seg ha 1 [(0, .int .i64 a0), (1, .int .i64 a1), (2, .int .i64 a2), (7, .pointer (some ⟨g3, 0, none⟩)), (9, .bool t8)] (by kernel_rfl) fun a ha => ?_
 refine hK7 _ _ ?_; try clear hK7 K7
 refine wp_seq_k fun K9 hK9 => ?_
 refine wp_region_lit ?_
 refine seg ha 3 [(0, .int .i64 a0), (1, .int .i64 a1), (2, .int .i64 a2), (7, .pointer (some ⟨g3, 0, none⟩)), (9, .bool t8), (24, .int .i64 a0), (25, .int .i64 a1), (26, .int .i64 a2)] (by kernel_rfl) fun a ha => ?_
 obtain ⟨t10, H10, H⟩ := bind_some H
 refine cl ha (by rfl) (by kernel_rfl) (by rfl) (by rfl) (by rfl) (community_Target.walk w8 _ hM a0 a1 a2 k _ H10) ?_
 rintro _ w10 ⟨rfl, hc10, hMn⟩ a ha
 have o1 : Ok [] (M) w8.heap.size := Ok.nil _ _
 have o2 : Ok (M) (M) w8.heap.size := (Ok.refl _ _)
 have hG := hG.chg hc10 o1 o2
 have q_hn6 : g3 ∉ M := fun h => (o2 g3 h).elim hn6 (fun h => absurd (lt_cell (hE5 0 _ rfl)) (Nat.not_lt.2 h))
 have hE5 : ∀ j v, (cS_api_Addr a3)[j]? = some v → w10.cell? ⟨g3, 0 + j, none⟩ = some v := fun j v hv => (cell_keep hc10 o1 hn6 (hE5 j v hv))
 have hn6 := q_hn6
 have hM : MS (M) w10 := (hM.chg hc10)
 have hC := hC.trans hc10 (Ok.nil _ _)
 refine seg ha 3 [(0, .int .i64 a0), (1, .int .i64 a1), (2, .int .i64 a2), (7, .pointer (some ⟨g3, 0, none⟩)), (9, .bool t8), (28, .agg (cA .u8 8 t10.1).toArray), (29, .int .i64 t10.2)] (by kernel_rfl) fun a ha => ?_
 refine al (cs := (cA .u8 8 (List.replicate 8 (0 : Int)))) (z := .agg (cA .u8 8 (List.replicate 8 (0 : Int))).toArray) ha (fun w => by kernel_rfl) rfl rfl rfl rfl fun a w11 g12 hN13 ha => ?_
 have o1 : Ok [] (M) w10.heap.size := Ok.nil _ _
 have o2 : Ok ([g12] ++ (M)) (M) w10.heap.size := (Ok.app (hN13.ok _) (Ok.refl _ _))
 have hG := hG.chg hN13.chg o1 o2
 have q_hn6 : g3 ∉ [g12] ++ (M) := fun h => (o2 g3 h).elim hn6 (fun h => absurd (lt_cell (hE5 0 _ rfl)) (Nat.not_lt.2 h))
 have hE5 : ∀ j v, (cS_api_Addr a3)[j]? = some v → w11.cell? ⟨g3, 0 + j, none⟩ = some v := fun j v hv => (cell_keep hN13.chg o1 hn6 (hE5 j v hv))
 have hn6 := q_hn6
 have p_i14_M : ∀ x ∈ [g12], x ∉ M := fun x hx hy => absurd (hM x (hy)) (Nat.not_lt.2 ((hN13.ge1) x hx))
 have e_i14 : ∀ x ∈ [g12], w.heap.size ≤ x := fun x hx => Nat.le_trans hC.size ((hN13.ge1) x hx)
 have hM : MS ([g12] ++ (M)) w11 := (MS.app hN13.ms (hM.chg hN13.chg))
 have hC := hC.trans hN13.chg (Ok.nil _ _)
 have hBg12 : Box w11 g12 (cA .u8 8 (List.replicate 8 (0 : Int))) := hN13.box
 refine stA (l := (cA .u8 8 t10.1)) ha rfl rfl rfl (by kernel_rfl) rfl rfl hBg12 rfl fun a w15 ha hb2 hc16 _ => ?_
 have o1 : Ok [g12] ([g12] ++ (M)) w11.heap.size := (fun _ h => .inl (ml h))
 have o2 : Ok ([g12] ++ (M)) ([g12] ++ (M)) w11.heap.size := (Ok.refl _ _)
 have hG := hG.chg hc16 o1 o2
 have q_hn6 : g3 ∉ [g12] ++ (M) := fun h => (o2 g3 h).elim hn6 (fun h => absurd (lt_cell (hE5 0 _ rfl)) (Nat.not_lt.2 h))
 have hE5 : ∀ j v, (cS_api_Addr a3)[j]? = some v → w15.cell? ⟨g3, 0 + j, none⟩ = some v := fun j v hv => (cell_keep hc16 o1 hn6 (hE5 j v hv))
 have hn6 := q_hn6
 have hM : MS ([g12] ++ (M)) w15 := (hM.chg hc16)
 have hC := hC.trans hc16 (fun x h => .inr (e_i14 x h))
 have hBg12 : Box w15 g12 (cA .u8 8 t10.1) := hb2
 refine seg ha 1 [(0, .int .i64 a0), (1, .int .i64 a1), (2, .int .i64 a2), (7, .pointer (some ⟨g3, 0, none⟩)), (9, .bool t8), (10, .pointer (some ⟨g12, 0, none⟩)), (11, .int .i64 t10.2)] (by kernel_rfl) fun a ha => ?_
 refine hK9 _ _ ?_; try clear hK9 K9
 refine wp_seq_k fun K17 hK17 => ?_
 refine wp_region_lit ?_
 refine ldA (cs := (cS_api_Addr a3)) ha rfl (by kernel_rfl) rfl rfl rfl (cells_sub hE5 (all := (cS_api_Addr a3)) [] [] (by kernel_rfl)) fun a ha => ?_
 refine seg ha 1 [(0, .int .i64 a0), (1, .int .i64 a1), (2, .int .i64 a2), (7, .pointer (some ⟨g3, 0, none⟩)), (9, .bool t8), (10, .pointer (some ⟨g12, 0, none⟩)), (11, .int .i64 t10.2), (31, .agg (cS_api_Addr a3).toArray), (32, .int .i64 a2)] (by kernel_rfl) fun a ha => ?_
 obtain ⟨t18, H18, H⟩ := bind_some H
 refine cl ha (by rfl) (by kernel_rfl) (by rfl) (by rfl) (by rfl) (community_Import.walk w15 _ hM a3 a2 k _ H18) ?_
 rintro _ w18 ⟨rfl, hc18, hMn⟩ a ha
 have o1 : Ok [] ([g12] ++ (M)) w15.heap.size := Ok.nil _ _
 have o2 : Ok ([g12] ++ (M)) ([g12] ++ (M)) w15.heap.size := (Ok.refl _ _)
 have hG := hG.chg hc18 o1 o2
 have hBg12 := hBg12.chg hc18 (fun h => nomatch h)
 have q_hn6 : g3 ∉ [g12] ++ (M) := fun h => (o2 g3 h).elim hn6 (fun h => absurd (lt_cell (hE5 0 _ rfl)) (Nat.not_lt.2 h))
 have hE5 : ∀ j v, (cS_api_Addr a3)[j]? = some v → w18.cell? ⟨g3, 0 + j, none⟩ = some v := fun j v hv => (cell_keep hc18 o1 hn6 (hE5 j v hv))
 have hn6 := q_hn6
 have hM : MS ([g12] ++ (M)) w18 := (hM.chg hc18)
 have hC := hC.trans hc18 (Ok.nil _ _)
 refine seg ha 3 [(0, .int .i64 a0), (1, .int .i64 a1), (2, .int .i64 a2), (7, .pointer (some ⟨g3, 0, none⟩)), (9, .bool t8), (10, .pointer (some ⟨g12, 0, none⟩)), (11, .int .i64 t10.2), (34, .agg (cA .u8 8 t18.1).toArray), (35, .int .i64 t18.2)] (by kernel_rfl) fun a ha => ?_
 refine al (cs := (cA .u8 8 (List.replicate 8 (0 : Int)))) (z := .agg (cA .u8 8 (List.replicate 8 (0 : Int))).toArray) ha (fun w => by kernel_rfl) rfl rfl rfl rfl fun a w19 g20 hN21 ha => ?_
 have o1 : Ok [] ([g12] ++ (M)) w18.heap.size := Ok.nil _ _
 have o2 : Ok ([g20] ++ ([g12] ++ (M))) ([g12] ++ (M)) w18.heap.size := (Ok.app (hN21.ok _) (Ok.refl _ _))
 have hG := hG.chg hN21.chg o1 o2
 have hBg12 := hBg12.chg hN21.chg (fun h => nomatch h)
 have q_hn6 : g3 ∉ [g20] ++ ([g12] ++ (M)) := fun h => (o2 g3 h).elim hn6 (fun h => absurd (lt_cell (hE5 0 _ rfl)) (Nat.not_lt.2 h))
 have hE5 : ∀ j v, (cS_api_Addr a3)[j]? = some v → w19.cell? ⟨g3, 0 + j, none⟩ = some v := fun j v hv => (cell_keep hN21.chg o1 hn6 (hE5 j v hv))
 have hn6 := q_hn6
 have p_i22_i14 : ∀ x ∈ [g20], x ∉ ([g12]) := fun x hx hy => absurd (hM x (ml hy)) (Nat.not_lt.2 ((hN21.ge1) x hx))
 have p_i22_M : ∀ x ∈ [g20], x ∉ M := fun x hx hy => absurd (hM x (mr (hy))) (Nat.not_lt.2 ((hN21.ge1) x hx))
 have e_i22 : ∀ x ∈ [g20], w.heap.size ≤ x := fun x hx => Nat.le_trans hC.size ((hN21.ge1) x hx)
 have hM : MS ([g20] ++ ([g12] ++ (M))) w19 := (MS.app hN21.ms (hM.chg hN21.chg))
 have hC := hC.trans hN21.chg (Ok.nil _ _)
 have hBg20 : Box w19 g20 (cA .u8 8 (List.replicate 8 (0 : Int))) := hN21.box
 refine stA (l := (cA .u8 8 t18.1)) ha rfl rfl rfl (by kernel_rfl) rfl rfl hBg20 rfl fun a w23 ha hb2 hc24 _ => ?_
 have o1 : Ok [g20] ([g20] ++ ([g12] ++ (M))) w19.heap.size := (fun _ h => .inl (ml h))
 have o2 : Ok ([g20] ++ ([g12] ++ (M))) ([g20] ++ ([g12] ++ (M))) w19.heap.size := (Ok.refl _ _)
 have hG := hG.chg hc24 o1 o2
 have hBg12 := hBg12.chg hc24 ((fun x (hx : x ∈ [g12]) (hy : x ∈ [g20]) => p_i22_i14 x hy hx) g12 (by simp))
 have q_hn6 : g3 ∉ [g20] ++ ([g12] ++ (M)) := fun h => (o2 g3 h).elim hn6 (fun h => absurd (lt_cell (hE5 0 _ rfl)) (Nat.not_lt.2 h))
 have hE5 : ∀ j v, (cS_api_Addr a3)[j]? = some v → w23.cell? ⟨g3, 0 + j, none⟩ = some v := fun j v hv => (cell_keep hc24 o1 hn6 (hE5 j v hv))
 have hn6 := q_hn6
 have hM : MS ([g20] ++ ([g12] ++ (M))) w23 := (hM.chg hc24)
 have hC := hC.trans hc24 (fun x h => .inr (e_i22 x h))
 have hBg20 : Box w23 g20 (cA .u8 8 t18.1) := hb2
 refine seg ha 1 [(0, .int .i64 a0), (1, .int .i64 a1), (2, .int .i64 a2), (7, .pointer (some ⟨g3, 0, none⟩)), (9, .bool t8), (10, .pointer (some ⟨g12, 0, none⟩)), (11, .int .i64 t10.2), (12, .pointer (some ⟨g20, 0, none⟩)), (13, .int .i64 t18.2)] (by kernel_rfl) fun a ha => ?_
 refine hK17 _ _ ?_; try clear hK17 K17
 refine wp_seq_k fun K25 hK25 => ?_
 refine wp_region_lit ?_
 refine seg ha 1 [(0, .int .i64 a0), (1, .int .i64 a1), (2, .int .i64 a2), (7, .pointer (some ⟨g3, 0, none⟩)), (9, .bool t8), (10, .pointer (some ⟨g12, 0, none⟩)), (11, .int .i64 t10.2), (12, .pointer (some ⟨g20, 0, none⟩)), (13, .int .i64 t18.2), (37, .int .i64 a1)] (by kernel_rfl) fun a ha => ?_
 obtain ⟨t26, H26, H⟩ := bind_some H
 refine cl ha (by rfl) (by kernel_rfl) (by rfl) (by rfl) (by rfl) (community_Source.walk w23 _ hM a1 k _ H26) ?_
 rintro _ w26 ⟨rfl, hc26, hMn⟩ a ha
 have o1 : Ok [] ([g20] ++ ([g12] ++ (M))) w23.heap.size := Ok.nil _ _
 have o2 : Ok ([g20] ++ ([g12] ++ (M))) ([g20] ++ ([g12] ++ (M))) w23.heap.size := (Ok.refl _ _)
 have hG := hG.chg hc26 o1 o2
 have hBg12 := hBg12.chg hc26 (fun h => nomatch h)
 have hBg20 := hBg20.chg hc26 (fun h => nomatch h)
 have q_hn6 : g3 ∉ [g20] ++ ([g12] ++ (M)) := fun h => (o2 g3 h).elim hn6 (fun h => absurd (lt_cell (hE5 0 _ rfl)) (Nat.not_lt.2 h))
 have hE5 : ∀ j v, (cS_api_Addr a3)[j]? = some v → w26.cell? ⟨g3, 0 + j, none⟩ = some v := fun j v hv => (cell_keep hc26 o1 hn6 (hE5 j v hv))
 have hn6 := q_hn6
 have hM : MS ([g20] ++ ([g12] ++ (M))) w26 := (hM.chg hc26)
 have hC := hC.trans hc26 (Ok.nil _ _)
 refine seg ha 3 [(0, .int .i64 a0), (1, .int .i64 a1), (2, .int .i64 a2), (7, .pointer (some ⟨g3, 0, none⟩)), (9, .bool t8), (10, .pointer (some ⟨g12, 0, none⟩)), (11, .int .i64 t10.2), (12, .pointer (some ⟨g20, 0, none⟩)), (13, .int .i64 t18.2), (39, .agg (cA .u8 8 t26.1).toArray), (40, .int .i64 t26.2)] (by kernel_rfl) fun a ha => ?_
 refine al (cs := (cA .u8 8 (List.replicate 8 (0 : Int)))) (z := .agg (cA .u8 8 (List.replicate 8 (0 : Int))).toArray) ha (fun w => by kernel_rfl) rfl rfl rfl rfl fun a w27 g28 hN29 ha => ?_
 have o1 : Ok [] ([g20] ++ ([g12] ++ (M))) w26.heap.size := Ok.nil _ _
 have o2 : Ok ([g28] ++ ([g20] ++ ([g12] ++ (M)))) ([g20] ++ ([g12] ++ (M))) w26.heap.size := (Ok.app (hN29.ok _) (Ok.refl _ _))
 have hG := hG.chg hN29.chg o1 o2
 have hBg12 := hBg12.chg hN29.chg (fun h => nomatch h)
 have hBg20 := hBg20.chg hN29.chg (fun h => nomatch h)
 have q_hn6 : g3 ∉ [g28] ++ ([g20] ++ ([g12] ++ (M))) := fun h => (o2 g3 h).elim hn6 (fun h => absurd (lt_cell (hE5 0 _ rfl)) (Nat.not_lt.2 h))
 have hE5 : ∀ j v, (cS_api_Addr a3)[j]? = some v → w27.cell? ⟨g3, 0 + j, none⟩ = some v := fun j v hv => (cell_keep hN29.chg o1 hn6 (hE5 j v hv))
 have hn6 := q_hn6
 have p_i30_i22 : ∀ x ∈ [g28], x ∉ ([g20]) := fun x hx hy => absurd (hM x (ml hy)) (Nat.not_lt.2 ((hN29.ge1) x hx))
 have p_i30_i14 : ∀ x ∈ [g28], x ∉ ([g12]) := fun x hx hy => absurd (hM x (mr (ml hy))) (Nat.not_lt.2 ((hN29.ge1) x hx))
 have p_i30_M : ∀ x ∈ [g28], x ∉ M := fun x hx hy => absurd (hM x (mr (mr (hy)))) (Nat.not_lt.2 ((hN29.ge1) x hx))
 have e_i30 : ∀ x ∈ [g28], w.heap.size ≤ x := fun x hx => Nat.le_trans hC.size ((hN29.ge1) x hx)
 have hM : MS ([g28] ++ ([g20] ++ ([g12] ++ (M)))) w27 := (MS.app hN29.ms (hM.chg hN29.chg))
 have hC := hC.trans hN29.chg (Ok.nil _ _)
 have hBg28 : Box w27 g28 (cA .u8 8 (List.replicate 8 (0 : Int))) := hN29.box
 refine stA (l := (cA .u8 8 t26.1)) ha rfl rfl rfl (by kernel_rfl) rfl rfl hBg28 rfl fun a w31 ha hb2 hc32 _ => ?_
 have o1 : Ok [g28] ([g28] ++ ([g20] ++ ([g12] ++ (M)))) w27.heap.size := (fun _ h => .inl (ml h))
 have o2 : Ok ([g28] ++ ([g20] ++ ([g12] ++ (M)))) ([g28] ++ ([g20] ++ ([g12] ++ (M)))) w27.heap.size := (Ok.refl _ _)
 have hG := hG.chg hc32 o1 o2
 have hBg12 := hBg12.chg hc32 ((fun x (hx : x ∈ [g12]) (hy : x ∈ [g28]) => p_i30_i14 x hy hx) g12 (by simp))
 have hBg20 := hBg20.chg hc32 ((fun x (hx : x ∈ [g20]) (hy : x ∈ [g28]) => p_i30_i22 x hy hx) g20 (by simp))
 have q_hn6 : g3 ∉ [g28] ++ ([g20] ++ ([g12] ++ (M))) := fun h => (o2 g3 h).elim hn6 (fun h => absurd (lt_cell (hE5 0 _ rfl)) (Nat.not_lt.2 h))
 have hE5 : ∀ j v, (cS_api_Addr a3)[j]? = some v → w31.cell? ⟨g3, 0 + j, none⟩ = some v := fun j v hv => (cell_keep hc32 o1 hn6 (hE5 j v hv))
 have hn6 := q_hn6
 have hM : MS ([g28] ++ ([g20] ++ ([g12] ++ (M)))) w31 := (hM.chg hc32)
 have hC := hC.trans hc32 (fun x h => .inr (e_i30 x h))
 have hBg28 : Box w31 g28 (cA .u8 8 t26.1) := hb2
 refine seg ha 1 [(0, .int .i64 a0), (1, .int .i64 a1), (2, .int .i64 a2), (7, .pointer (some ⟨g3, 0, none⟩)), (9, .bool t8), (10, .pointer (some ⟨g12, 0, none⟩)), (11, .int .i64 t10.2), (12, .pointer (some ⟨g20, 0, none⟩)), (13, .int .i64 t18.2), (14, .pointer (some ⟨g28, 0, none⟩)), (15, .int .i64 t26.2)] (by kernel_rfl) fun a ha => ?_
 refine hK25 _ _ ?_; try clear hK25 K25
 refine wp_seq_k fun K33 hK33 => ?_
 refine wp_region_lit ?_
 refine seg ha 3 [(1, .int .i64 a1), (2, .int .i64 a2), (7, .pointer (some ⟨g3, 0, none⟩)), (9, .bool t8), (10, .pointer (some ⟨g12, 0, none⟩)), (11, .int .i64 t10.2), (12, .pointer (some ⟨g20, 0, none⟩)), (13, .int .i64 t18.2), (14, .pointer (some ⟨g28, 0, none⟩)), (15, .int .i64 t26.2), (42, .int .i64 a0), (43, .int .i64 a1), (44, .int .i64 a2)] (by kernel_rfl) fun a ha => ?_
 obtain ⟨t34, H34, H⟩ := bind_some H
 refine cl ha (by rfl) (by kernel_rfl) (by rfl) (by rfl) (by rfl) (vineryref04_Target.walk w31 _ hM a0 a1 a2 k _ H34) ?_
 rintro _ w34 ⟨rfl, hc34, hMn⟩ a ha
 have o1 : Ok [] ([g28] ++ ([g20] ++ ([g12] ++ (M)))) w31.heap.size := Ok.nil _ _
 have o2 : Ok ([g28] ++ ([g20] ++ ([g12] ++ (M)))) ([g28] ++ ([g20] ++ ([g12] ++ (M)))) w31.heap.size := (Ok.refl _ _)
 have hG := hG.chg hc34 o1 o2
 have hBg12 := hBg12.chg hc34 (fun h => nomatch h)
 have hBg20 := hBg20.chg hc34 (fun h => nomatch h)
 have hBg28 := hBg28.chg hc34 (fun h => nomatch h)
 have q_hn6 : g3 ∉ [g28] ++ ([g20] ++ ([g12] ++ (M))) := fun h => (o2 g3 h).elim hn6 (fun h => absurd (lt_cell (hE5 0 _ rfl)) (Nat.not_lt.2 h))
 have hE5 : ∀ j v, (cS_api_Addr a3)[j]? = some v → w34.cell? ⟨g3, 0 + j, none⟩ = some v := fun j v hv => (cell_keep hc34 o1 hn6 (hE5 j v hv))
 have hn6 := q_hn6
 have hM : MS ([g28] ++ ([g20] ++ ([g12] ++ (M)))) w34 := (hM.chg hc34)
 have hC := hC.trans hc34 (Ok.nil _ _)
 refine seg ha 3 [(1, .int .i64 a1), (2, .int .i64 a2), (7, .pointer (some ⟨g3, 0, none⟩)), (9, .bool t8), (10, .pointer (some ⟨g12, 0, none⟩)), (11, .int .i64 t10.2), (12, .pointer (some ⟨g20, 0, none⟩)), (13, .int .i64 t18.2), (14, .pointer (some ⟨g28, 0, none⟩)), (15, .int .i64 t26.2), (46, .agg (cA .u8 8 t34.1).toArray), (47, .int .i64 t34.2)] (by kernel_rfl) fun a ha => ?_
 refine al (cs := (cA .u8 8 (List.replicate 8 (0 : Int)))) (z := .agg (cA .u8 8 (List.replicate 8 (0 : Int))).toArray) ha (fun w => by kernel_rfl) rfl rfl rfl rfl fun a w35 g36 hN37 ha => ?_
 have o1 : Ok [] ([g28] ++ ([g20] ++ ([g12] ++ (M)))) w34.heap.size := Ok.nil _ _
 have o2 : Ok ([g36] ++ ([g28] ++ ([g20] ++ ([g12] ++ (M))))) ([g28] ++ ([g20] ++ ([g12] ++ (M)))) w34.heap.size := (Ok.app (hN37.ok _) (Ok.refl _ _))
 have hG := hG.chg hN37.chg o1 o2
 have hBg12 := hBg12.chg hN37.chg (fun h => nomatch h)
 have hBg20 := hBg20.chg hN37.chg (fun h => nomatch h)
 have hBg28 := hBg28.chg hN37.chg (fun h => nomatch h)
 have q_hn6 : g3 ∉ [g36] ++ ([g28] ++ ([g20] ++ ([g12] ++ (M)))) := fun h => (o2 g3 h).elim hn6 (fun h => absurd (lt_cell (hE5 0 _ rfl)) (Nat.not_lt.2 h))
 have hE5 : ∀ j v, (cS_api_Addr a3)[j]? = some v → w35.cell? ⟨g3, 0 + j, none⟩ = some v := fun j v hv => (cell_keep hN37.chg o1 hn6 (hE5 j v hv))
 have hn6 := q_hn6
 have p_i38_i30 : ∀ x ∈ [g36], x ∉ ([g28]) := fun x hx hy => absurd (hM x (ml hy)) (Nat.not_lt.2 ((hN37.ge1) x hx))
 have p_i38_i22 : ∀ x ∈ [g36], x ∉ ([g20]) := fun x hx hy => absurd (hM x (mr (ml hy))) (Nat.not_lt.2 ((hN37.ge1) x hx))
 have p_i38_i14 : ∀ x ∈ [g36], x ∉ ([g12]) := fun x hx hy => absurd (hM x (mr (mr (ml hy)))) (Nat.not_lt.2 ((hN37.ge1) x hx))
 have p_i38_M : ∀ x ∈ [g36], x ∉ M := fun x hx hy => absurd (hM x (mr (mr (mr (hy))))) (Nat.not_lt.2 ((hN37.ge1) x hx))
 have e_i38 : ∀ x ∈ [g36], w.heap.size ≤ x := fun x hx => Nat.le_trans hC.size ((hN37.ge1) x hx)
 have hM : MS ([g36] ++ ([g28] ++ ([g20] ++ ([g12] ++ (M))))) w35 := (MS.app hN37.ms (hM.chg hN37.chg))
 have hC := hC.trans hN37.chg (Ok.nil _ _)
 have hBg36 : Box w35 g36 (cA .u8 8 (List.replicate 8 (0 : Int))) := hN37.box
 refine stA (l := (cA .u8 8 t34.1)) ha rfl rfl rfl (by kernel_rfl) rfl rfl hBg36 rfl fun a w39 ha hb2 hc40 _ => ?_
 have o1 : Ok [g36] ([g36] ++ ([g28] ++ ([g20] ++ ([g12] ++ (M))))) w35.heap.size := (fun _ h => .inl (ml h))
 have o2 : Ok ([g36] ++ ([g28] ++ ([g20] ++ ([g12] ++ (M))))) ([g36] ++ ([g28] ++ ([g20] ++ ([g12] ++ (M))))) w35.heap.size := (Ok.refl _ _)
 have hG := hG.chg hc40 o1 o2
 have hBg12 := hBg12.chg hc40 ((fun x (hx : x ∈ [g12]) (hy : x ∈ [g36]) => p_i38_i14 x hy hx) g12 (by simp))
 have hBg20 := hBg20.chg hc40 ((fun x (hx : x ∈ [g20]) (hy : x ∈ [g36]) => p_i38_i22 x hy hx) g20 (by simp))
 have hBg28 := hBg28.chg hc40 ((fun x (hx : x ∈ [g28]) (hy : x ∈ [g36]) => p_i38_i30 x hy hx) g28 (by simp))
 have q_hn6 : g3 ∉ [g36] ++ ([g28] ++ ([g20] ++ ([g12] ++ (M)))) := fun h => (o2 g3 h).elim hn6 (fun h => absurd (lt_cell (hE5 0 _ rfl)) (Nat.not_lt.2 h))
 have hE5 : ∀ j v, (cS_api_Addr a3)[j]? = some v → w39.cell? ⟨g3, 0 + j, none⟩ = some v := fun j v hv => (cell_keep hc40 o1 hn6 (hE5 j v hv))
 have hn6 := q_hn6
 have hM : MS ([g36] ++ ([g28] ++ ([g20] ++ ([g12] ++ (M))))) w39 := (hM.chg hc40)
 have hC := hC.trans hc40 (fun x h => .inr (e_i38 x h))
 have hBg36 : Box w39 g36 (cA .u8 8 t34.1) := hb2
 refine seg ha 1 [(1, .int .i64 a1), (2, .int .i64 a2), (7, .pointer (some ⟨g3, 0, none⟩)), (9, .bool t8), (10, .pointer (some ⟨g12, 0, none⟩)), (11, .int .i64 t10.2), (12, .pointer (some ⟨g20, 0, none⟩)), (13, .int .i64 t18.2), (14, .pointer (some ⟨g28, 0, none⟩)), (15, .int .i64 t26.2), (16, .pointer (some ⟨g36, 0, none⟩)), (17, .int .i64 t34.2)] (by kernel_rfl) fun a ha => ?_
 refine hK33 _ _ ?_; try clear hK33 K33
 refine wp_seq_k fun K41 hK41 => ?_
 refine wp_region_lit ?_
 refine ldA (cs := (cS_api_Addr a3)) ha rfl (by kernel_rfl) rfl rfl rfl (cells_sub hE5 (all := (cS_api_Addr a3)) [] [] (by kernel_rfl)) fun a ha => ?_
 refine seg ha 1 [(1, .int .i64 a1), (9, .bool t8), (10, .pointer (some ⟨g12, 0, none⟩)), (11, .int .i64 t10.2), (12, .pointer (some ⟨g20, 0, none⟩)), (13, .int .i64 t18.2), (14, .pointer (some ⟨g28, 0, none⟩)), (15, .int .i64 t26.2), (16, .pointer (some ⟨g36, 0, none⟩)), (17, .int .i64 t34.2), (49, .agg (cS_api_Addr a3).toArray), (50, .int .i64 a2)] (by kernel_rfl) fun a ha => ?_
 obtain ⟨t42, H42, H⟩ := bind_some H
 refine cl ha (by rfl) (by kernel_rfl) (by rfl) (by rfl) (by rfl) (vineryref04_Import.walk w39 _ hM a3 a2 k _ H42) ?_
 rintro _ w42 ⟨rfl, hc42, hMn⟩ a ha
 have o1 : Ok [] ([g36] ++ ([g28] ++ ([g20] ++ ([g12] ++ (M))))) w39.heap.size := Ok.nil _ _
 have o2 : Ok ([g36] ++ ([g28] ++ ([g20] ++ ([g12] ++ (M))))) ([g36] ++ ([g28] ++ ([g20] ++ ([g12] ++ (M))))) w39.heap.size := (Ok.refl _ _)
 have hG := hG.chg hc42 o1 o2
 have hBg12 := hBg12.chg hc42 (fun h => nomatch h)
 have hBg20 := hBg20.chg hc42 (fun h => nomatch h)
 have hBg28 := hBg28.chg hc42 (fun h => nomatch h)
 have hBg36 := hBg36.chg hc42 (fun h => nomatch h)
 have hM : MS ([g36] ++ ([g28] ++ ([g20] ++ ([g12] ++ (M))))) w42 := (hM.chg hc42)
 have hC := hC.trans hc42 (Ok.nil _ _)
 refine seg ha 3 [(1, .int .i64 a1), (9, .bool t8), (10, .pointer (some ⟨g12, 0, none⟩)), (11, .int .i64 t10.2), (12, .pointer (some ⟨g20, 0, none⟩)), (13, .int .i64 t18.2), (14, .pointer (some ⟨g28, 0, none⟩)), (15, .int .i64 t26.2), (16, .pointer (some ⟨g36, 0, none⟩)), (17, .int .i64 t34.2), (52, .agg (cA .u8 8 t42.1).toArray), (53, .int .i64 t42.2)] (by kernel_rfl) fun a ha => ?_
 refine al (cs := (cA .u8 8 (List.replicate 8 (0 : Int)))) (z := .agg (cA .u8 8 (List.replicate 8 (0 : Int))).toArray) ha (fun w => by kernel_rfl) rfl rfl rfl rfl fun a w43 g44 hN45 ha => ?_
 have o1 : Ok [] ([g36] ++ ([g28] ++ ([g20] ++ ([g12] ++ (M))))) w42.heap.size := Ok.nil _ _
 have o2 : Ok ([g44] ++ ([g36] ++ ([g28] ++ ([g20] ++ ([g12] ++ (M)))))) ([g36] ++ ([g28] ++ ([g20] ++ ([g12] ++ (M))))) w42.heap.size := (Ok.app (hN45.ok _) (Ok.refl _ _))
 have hG := hG.chg hN45.chg o1 o2
 have hBg12 := hBg12.chg hN45.chg (fun h => nomatch h)
 have hBg20 := hBg20.chg hN45.chg (fun h => nomatch h)
 have hBg28 := hBg28.chg hN45.chg (fun h => nomatch h)
 have hBg36 := hBg36.chg hN45.chg (fun h => nomatch h)
 have p_i46_i38 : ∀ x ∈ [g44], x ∉ ([g36]) := fun x hx hy => absurd (hM x (ml hy)) (Nat.not_lt.2 ((hN45.ge1) x hx))
 have p_i46_i30 : ∀ x ∈ [g44], x ∉ ([g28]) := fun x hx hy => absurd (hM x (mr (ml hy))) (Nat.not_lt.2 ((hN45.ge1) x hx))
 have p_i46_i22 : ∀ x ∈ [g44], x ∉ ([g20]) := fun x hx hy => absurd (hM x (mr (mr (ml hy)))) (Nat.not_lt.2 ((hN45.ge1) x hx))
 have p_i46_i14 : ∀ x ∈ [g44], x ∉ ([g12]) := fun x hx hy => absurd (hM x (mr (mr (mr (ml hy))))) (Nat.not_lt.2 ((hN45.ge1) x hx))
 have p_i46_M : ∀ x ∈ [g44], x ∉ M := fun x hx hy => absurd (hM x (mr (mr (mr (mr (hy)))))) (Nat.not_lt.2 ((hN45.ge1) x hx))
 have e_i46 : ∀ x ∈ [g44], w.heap.size ≤ x := fun x hx => Nat.le_trans hC.size ((hN45.ge1) x hx)
 have hM : MS ([g44] ++ ([g36] ++ ([g28] ++ ([g20] ++ ([g12] ++ (M)))))) w43 := (MS.app hN45.ms (hM.chg hN45.chg))
 have hC := hC.trans hN45.chg (Ok.nil _ _)
 have hBg44 : Box w43 g44 (cA .u8 8 (List.replicate 8 (0 : Int))) := hN45.box
 refine stA (l := (cA .u8 8 t42.1)) ha rfl rfl rfl (by kernel_rfl) rfl rfl hBg44 rfl fun a w47 ha hb2 hc48 _ => ?_
 have o1 : Ok [g44] ([g44] ++ ([g36] ++ ([g28] ++ ([g20] ++ ([g12] ++ (M)))))) w43.heap.size := (fun _ h => .inl (ml h))
 have o2 : Ok ([g44] ++ ([g36] ++ ([g28] ++ ([g20] ++ ([g12] ++ (M)))))) ([g44] ++ ([g36] ++ ([g28] ++ ([g20] ++ ([g12] ++ (M)))))) w43.heap.size := (Ok.refl _ _)
 have hG := hG.chg hc48 o1 o2
 have hBg12 := hBg12.chg hc48 ((fun x (hx : x ∈ [g12]) (hy : x ∈ [g44]) => p_i46_i14 x hy hx) g12 (by simp))
 have hBg20 := hBg20.chg hc48 ((fun x (hx : x ∈ [g20]) (hy : x ∈ [g44]) => p_i46_i22 x hy hx) g20 (by simp))
 have hBg28 := hBg28.chg hc48 ((fun x (hx : x ∈ [g28]) (hy : x ∈ [g44]) => p_i46_i30 x hy hx) g28 (by simp))
 have hBg36 := hBg36.chg hc48 ((fun x (hx : x ∈ [g36]) (hy : x ∈ [g44]) => p_i46_i38 x hy hx) g36 (by simp))
 have hM : MS ([g44] ++ ([g36] ++ ([g28] ++ ([g20] ++ ([g12] ++ (M)))))) w47 := (hM.chg hc48)
 have hC := hC.trans hc48 (fun x h => .inr (e_i46 x h))
 have hBg44 : Box w47 g44 (cA .u8 8 t42.1) := hb2
 refine seg ha 1 [(1, .int .i64 a1), (9, .bool t8), (10, .pointer (some ⟨g12, 0, none⟩)), (11, .int .i64 t10.2), (12, .pointer (some ⟨g20, 0, none⟩)), (13, .int .i64 t18.2), (14, .pointer (some ⟨g28, 0, none⟩)), (15, .int .i64 t26.2), (16, .pointer (some ⟨g36, 0, none⟩)), (17, .int .i64 t34.2), (18, .pointer (some ⟨g44, 0, none⟩)), (19, .int .i64 t42.2)] (by kernel_rfl) fun a ha => ?_
 refine hK41 _ _ ?_; try clear hK41 K41
 refine wp_seq_k fun K49 hK49 => ?_
 refine wp_region_lit ?_
 refine seg ha 1 [(9, .bool t8), (10, .pointer (some ⟨g12, 0, none⟩)), (11, .int .i64 t10.2), (12, .pointer (some ⟨g20, 0, none⟩)), (13, .int .i64 t18.2), (14, .pointer (some ⟨g28, 0, none⟩)), (15, .int .i64 t26.2), (16, .pointer (some ⟨g36, 0, none⟩)), (17, .int .i64 t34.2), (18, .pointer (some ⟨g44, 0, none⟩)), (19, .int .i64 t42.2), (55, .int .i64 a1)] (by kernel_rfl) fun a ha => ?_
 obtain ⟨t50, H50, H⟩ := bind_some H
 refine cl ha (by rfl) (by kernel_rfl) (by rfl) (by rfl) (by rfl) (vineryref04_Source.walk w47 _ hM a1 k _ H50) ?_
 rintro _ w50 ⟨rfl, hc50, hMn⟩ a ha
 have o1 : Ok [] ([g44] ++ ([g36] ++ ([g28] ++ ([g20] ++ ([g12] ++ (M)))))) w47.heap.size := Ok.nil _ _
 have o2 : Ok ([g44] ++ ([g36] ++ ([g28] ++ ([g20] ++ ([g12] ++ (M)))))) ([g44] ++ ([g36] ++ ([g28] ++ ([g20] ++ ([g12] ++ (M)))))) w47.heap.size := (Ok.refl _ _)
 have hG := hG.chg hc50 o1 o2
 have hBg12 := hBg12.chg hc50 (fun h => nomatch h)
 have hBg20 := hBg20.chg hc50 (fun h => nomatch h)
 have hBg28 := hBg28.chg hc50 (fun h => nomatch h)
 have hBg36 := hBg36.chg hc50 (fun h => nomatch h)
 have hBg44 := hBg44.chg hc50 (fun h => nomatch h)
 have hM : MS ([g44] ++ ([g36] ++ ([g28] ++ ([g20] ++ ([g12] ++ (M)))))) w50 := (hM.chg hc50)
 have hC := hC.trans hc50 (Ok.nil _ _)
 refine seg ha 3 [(9, .bool t8), (10, .pointer (some ⟨g12, 0, none⟩)), (11, .int .i64 t10.2), (12, .pointer (some ⟨g20, 0, none⟩)), (13, .int .i64 t18.2), (14, .pointer (some ⟨g28, 0, none⟩)), (15, .int .i64 t26.2), (16, .pointer (some ⟨g36, 0, none⟩)), (17, .int .i64 t34.2), (18, .pointer (some ⟨g44, 0, none⟩)), (19, .int .i64 t42.2), (57, .agg (cA .u8 8 t50.1).toArray), (58, .int .i64 t50.2)] (by kernel_rfl) fun a ha => ?_
 refine al (cs := (cA .u8 8 (List.replicate 8 (0 : Int)))) (z := .agg (cA .u8 8 (List.replicate 8 (0 : Int))).toArray) ha (fun w => by kernel_rfl) rfl rfl rfl rfl fun a w51 g52 hN53 ha => ?_
 have o1 : Ok [] ([g44] ++ ([g36] ++ ([g28] ++ ([g20] ++ ([g12] ++ (M)))))) w50.heap.size := Ok.nil _ _
 have o2 : Ok ([g52] ++ ([g44] ++ ([g36] ++ ([g28] ++ ([g20] ++ ([g12] ++ (M))))))) ([g44] ++ ([g36] ++ ([g28] ++ ([g20] ++ ([g12] ++ (M)))))) w50.heap.size := (Ok.app (hN53.ok _) (Ok.refl _ _))
 have hG := hG.chg hN53.chg o1 o2
 have hBg12 := hBg12.chg hN53.chg (fun h => nomatch h)
 have hBg20 := hBg20.chg hN53.chg (fun h => nomatch h)
 have hBg28 := hBg28.chg hN53.chg (fun h => nomatch h)
 have hBg36 := hBg36.chg hN53.chg (fun h => nomatch h)
 have hBg44 := hBg44.chg hN53.chg (fun h => nomatch h)
 have p_i54_i46 : ∀ x ∈ [g52], x ∉ ([g44]) := fun x hx hy => absurd (hM x (ml hy)) (Nat.not_lt.2 ((hN53.ge1) x hx))
 have p_i54_i38 : ∀ x ∈ [g52], x ∉ ([g36]) := fun x hx hy => absurd (hM x (mr (ml hy))) (Nat.not_lt.2 ((hN53.ge1) x hx))
 have p_i54_i30 : ∀ x ∈ [g52], x ∉ ([g28]) := fun x hx hy => absurd (hM x (mr (mr (ml hy)))) (Nat.not_lt.2 ((hN53.ge1) x hx))
 have p_i54_i22 : ∀ x ∈ [g52], x ∉ ([g20]) := fun x hx hy => absurd (hM x (mr (mr (mr (ml hy))))) (Nat.not_lt.2 ((hN53.ge1) x hx))
 have p_i54_i14 : ∀ x ∈ [g52], x ∉ ([g12]) := fun x hx hy => absurd (hM x (mr (mr (mr (mr (ml hy)))))) (Nat.not_lt.2 ((hN53.ge1) x hx))
 have p_i54_M : ∀ x ∈ [g52], x ∉ M := fun x hx hy => absurd (hM x (mr (mr (mr (mr (mr (hy))))))) (Nat.not_lt.2 ((hN53.ge1) x hx))
 have e_i54 : ∀ x ∈ [g52], w.heap.size ≤ x := fun x hx => Nat.le_trans hC.size ((hN53.ge1) x hx)
 have hM : MS ([g52] ++ ([g44] ++ ([g36] ++ ([g28] ++ ([g20] ++ ([g12] ++ (M))))))) w51 := (MS.app hN53.ms (hM.chg hN53.chg))
 have hC := hC.trans hN53.chg (Ok.nil _ _)
 have hBg52 : Box w51 g52 (cA .u8 8 (List.replicate 8 (0 : Int))) := hN53.box
 refine stA (l := (cA .u8 8 t50.1)) ha rfl rfl rfl (by kernel_rfl) rfl rfl hBg52 rfl fun a w55 ha hb2 hc56 _ => ?_
 have o1 : Ok [g52] ([g52] ++ ([g44] ++ ([g36] ++ ([g28] ++ ([g20] ++ ([g12] ++ (M))))))) w51.heap.size := (fun _ h => .inl (ml h))
 have o2 : Ok ([g52] ++ ([g44] ++ ([g36] ++ ([g28] ++ ([g20] ++ ([g12] ++ (M))))))) ([g52] ++ ([g44] ++ ([g36] ++ ([g28] ++ ([g20] ++ ([g12] ++ (M))))))) w51.heap.size := (Ok.refl _ _)
 have hG := hG.chg hc56 o1 o2
 have hBg12 := hBg12.chg hc56 ((fun x (hx : x ∈ [g12]) (hy : x ∈ [g52]) => p_i54_i14 x hy hx) g12 (by simp))
 have hBg20 := hBg20.chg hc56 ((fun x (hx : x ∈ [g20]) (hy : x ∈ [g52]) => p_i54_i22 x hy hx) g20 (by simp))
 have hBg28 := hBg28.chg hc56 ((fun x (hx : x ∈ [g28]) (hy : x ∈ [g52]) => p_i54_i30 x hy hx) g28 (by simp))
 have hBg36 := hBg36.chg hc56 ((fun x (hx : x ∈ [g36]) (hy : x ∈ [g52]) => p_i54_i38 x hy hx) g36 (by simp))
 have hBg44 := hBg44.chg hc56 ((fun x (hx : x ∈ [g44]) (hy : x ∈ [g52]) => p_i54_i46 x hy hx) g44 (by simp))
 have hM : MS ([g52] ++ ([g44] ++ ([g36] ++ ([g28] ++ ([g20] ++ ([g12] ++ (M))))))) w55 := (hM.chg hc56)
 have hC := hC.trans hc56 (fun x h => .inr (e_i54 x h))
 have hBg52 : Box w55 g52 (cA .u8 8 t50.1) := hb2
 refine seg ha 1 [(9, .bool t8), (10, .pointer (some ⟨g12, 0, none⟩)), (11, .int .i64 t10.2), (12, .pointer (some ⟨g20, 0, none⟩)), (13, .int .i64 t18.2), (14, .pointer (some ⟨g28, 0, none⟩)), (15, .int .i64 t26.2), (16, .pointer (some ⟨g36, 0, none⟩)), (17, .int .i64 t34.2), (18, .pointer (some ⟨g44, 0, none⟩)), (19, .int .i64 t42.2), (20, .pointer (some ⟨g52, 0, none⟩)), (21, .int .i64 t50.2)] (by kernel_rfl) fun a ha => ?_
 refine hK49 _ _ ?_; try clear hK49 K49
 refine wp_seq_k fun K57 hK57 => ?_
 refine wp_region_lit ?_
 obtain ⟨s58, H58, H⟩ := bind_some H
 have J58 : ∀ (a : Act) (w58 : World), Has a Tryz.f3.ntmps [(8, .bool s58)] → (Box w58 g12 (cA .u8 8 t10.1)) → (Box w58 g20 (cA .u8 8 t18.1)) → (Box w58 g28 (cA .u8 8 t26.1)) → (Box w58 g36 (cA .u8 8 t34.1)) → (Box w58 g44 (cA .u8 8 t42.1)) → (Box w58 g52 (cA .u8 8 t50.1)) → (GF w58 ([g52] ++ ([g44] ++ ([g36] ++ ([g28] ++ ([g20] ++ ([g12] ++ (M)))))))) → (Chg [] w w58) → (MS ([g52] ++ ([g44] ++ ([g36] ++ ([g28] ++ ([g20] ++ ([g12] ++ (M))))))) w58) → K57 a w58 := by
  intro a w58 ha hBg12 hBg20 hBg28 hBg36 hBg44 hBg52 hG hC hM
  refine hK57 _ _ ?_; try clear hK57 K57
  refine wp_ret ?_
  try simp only [Exit.then, Exit.inBlock]
  have o1 : Ok [] ([g52] ++ ([g44] ++ ([g36] ++ ([g28] ++ ([g20] ++ ([g12] ++ (M))))))) w58.heap.size := Ok.nil _ _
  have o2 : Ok (M) ([g52] ++ ([g44] ++ ([g36] ++ ([g28] ++ ([g20] ++ ([g12] ++ (M))))))) w58.heap.size := (fun _ h => .inl (mr (mr (mr (mr (mr (mr (h))))))))
  have hG := hG.chg (Chg.refl [] _) o1 o2
  have hBg12 := hBg12.chg (Chg.refl [] _) (fun h => nomatch h)
  have hBg20 := hBg20.chg (Chg.refl [] _) (fun h => nomatch h)
  have hBg28 := hBg28.chg (Chg.refl [] _) (fun h => nomatch h)
  have hBg36 := hBg36.chg (Chg.refl [] _) (fun h => nomatch h)
  have hBg44 := hBg44.chg (Chg.refl [] _) (fun h => nomatch h)
  have hBg52 := hBg52.chg (Chg.refl [] _) (fun h => nomatch h)
  have hM : MS (M) w58 := (fun x h => hM.chg (Chg.refl [] _) x (mr (mr (mr (mr (mr (mr (h))))))))
  have hC := hC.trans (Chg.refl [] _) (Ok.nil _ _)
  obtain rfl := Option.some.inj H
  refine rt1 ha rfl rfl ?_
  exact ⟨rfl, hC, hM⟩
 have H := H58
 refine seg ha 2 [(60, .bool t8), (10, .pointer (some ⟨g12, 0, none⟩)), (11, .int .i64 t10.2), (12, .pointer (some ⟨g20, 0, none⟩)), (13, .int .i64 t18.2), (14, .pointer (some ⟨g28, 0, none⟩)), (15, .int .i64 t26.2), (16, .pointer (some ⟨g36, 0, none⟩)), (17, .int .i64 t34.2), (18, .pointer (some ⟨g44, 0, none⟩)), (19, .int .i64 t42.2), (20, .pointer (some ⟨g52, 0, none⟩)), (21, .int .i64 t50.2)] (by kernel_rfl) fun a ha => ?_
 rcases Bool.eq_false_or_eq_true (t8) with hb59 | hb59
 ·have ha := ha.lit hb59
  have H := ite_t hb59 H
  refine ldA (cs := (cA .u8 8 t10.1)) ha rfl (by kernel_rfl) rfl rfl rfl (cells_sub (Box.cells hBg12) (all := (cA .u8 8 t10.1)) [] [] (by kernel_rfl)) fun a ha => ?_
  refine ldA (cs := (cA .u8 8 t34.1)) ha rfl (by kernel_rfl) rfl rfl rfl (cells_sub (Box.cells hBg36) (all := (cA .u8 8 t34.1)) [] [] (by kernel_rfl)) fun a ha => ?_
  refine hop (v := .bool (eqA 8 t10.1 t34.1)) (w' := w55) ha rfl rfl rfl (eqs_run (r := (eqA 8 t10.1 t34.1)) (m := 9) ha rfl rfl (by kernel_rfl) rfl (by kernel_rfl) _) fun a ha => ?_
  refine sgh ha 2 [3, 0] [(65, .bool (eqA 8 t10.1 t34.1)), (11, .int .i64 t10.2), (12, .pointer (some ⟨g20, 0, none⟩)), (13, .int .i64 t18.2), (14, .pointer (some ⟨g28, 0, none⟩)), (15, .int .i64 t26.2), (17, .int .i64 t34.2), (18, .pointer (some ⟨g44, 0, none⟩)), (19, .int .i64 t42.2), (20, .pointer (some ⟨g52, 0, none⟩)), (21, .int .i64 t50.2)] (by kernel_rfl) fun a ha => ?_
  rcases Bool.eq_false_or_eq_true ((eqA 8 t10.1 t34.1)) with hb60 | hb60
  ·have ha := ha.lit hb60
   have H := ite_t hb60 H
   refine sgh ha 5 [2, 2, 2, 3, 0] [(70, .bool (t10.2 == t34.2)), (12, .pointer (some ⟨g20, 0, none⟩)), (13, .int .i64 t18.2), (14, .pointer (some ⟨g28, 0, none⟩)), (15, .int .i64 t26.2), (18, .pointer (some ⟨g44, 0, none⟩)), (19, .int .i64 t42.2), (20, .pointer (some ⟨g52, 0, none⟩)), (21, .int .i64 t50.2)] (by kernel_rfl) fun a ha => ?_
   rcases Bool.eq_false_or_eq_true (t10.2 == t34.2) with hb61 | hb61
   ·have ha := ha.lit hb61
    have H := ite_t hb61 H
    refine ldA (cs := (cA .u8 8 t18.1)) ha rfl (by kernel_rfl) rfl rfl rfl (cells_sub (Box.cells hBg20) (all := (cA .u8 8 t18.1)) [] [] (by kernel_rfl)) fun a ha => ?_
    refine ldA (cs := (cA .u8 8 t42.1)) ha rfl (by kernel_rfl) rfl rfl rfl (cells_sub (Box.cells hBg44) (all := (cA .u8 8 t42.1)) [] [] (by kernel_rfl)) fun a ha => ?_
    refine hop (v := .bool (eqA 8 t18.1 t42.1)) (w' := w55) ha rfl rfl rfl (eqs_run (r := (eqA 8 t18.1 t42.1)) (m := 9) ha rfl rfl (by kernel_rfl) rfl (by kernel_rfl) _) fun a ha => ?_
    refine sgh ha 2 [3, 0] [(75, .bool (eqA 8 t18.1 t42.1)), (13, .int .i64 t18.2), (14, .pointer (some ⟨g28, 0, none⟩)), (15, .int .i64 t26.2), (19, .int .i64 t42.2), (20, .pointer (some ⟨g52, 0, none⟩)), (21, .int .i64 t50.2)] (by kernel_rfl) fun a ha => ?_
    rcases Bool.eq_false_or_eq_true ((eqA 8 t18.1 t42.1)) with hb62 | hb62
    ·have ha := ha.lit hb62
     have H := ite_t hb62 H
     refine sgh ha 5 [2, 2, 2, 3, 0] [(80, .bool (t18.2 == t42.2)), (14, .pointer (some ⟨g28, 0, none⟩)), (15, .int .i64 t26.2), (20, .pointer (some ⟨g52, 0, none⟩)), (21, .int .i64 t50.2)] (by kernel_rfl) fun a ha => ?_
     rcases Bool.eq_false_or_eq_true (t18.2 == t42.2) with hb63 | hb63
     ·have ha := ha.lit hb63
      have H := ite_t hb63 H
      refine ldA (cs := (cA .u8 8 t26.1)) ha rfl (by kernel_rfl) rfl rfl rfl (cells_sub (Box.cells hBg28) (all := (cA .u8 8 t26.1)) [] [] (by kernel_rfl)) fun a ha => ?_
      refine ldA (cs := (cA .u8 8 t50.1)) ha rfl (by kernel_rfl) rfl rfl rfl (cells_sub (Box.cells hBg52) (all := (cA .u8 8 t50.1)) [] [] (by kernel_rfl)) fun a ha => ?_
      refine hop (v := .bool (eqA 8 t26.1 t50.1)) (w' := w55) ha rfl rfl rfl (eqs_run (r := (eqA 8 t26.1 t50.1)) (m := 9) ha rfl rfl (by kernel_rfl) rfl (by kernel_rfl) _) fun a ha => ?_
      refine sgh ha 2 [3, 0] [(85, .bool (eqA 8 t26.1 t50.1)), (15, .int .i64 t26.2), (21, .int .i64 t50.2)] (by kernel_rfl) fun a ha => ?_
      rcases Bool.eq_false_or_eq_true ((eqA 8 t26.1 t50.1)) with hb64 | hb64
      ·have ha := ha.lit hb64
       have H := ite_t hb64 H
       refine sgh ha 5 [2, 2, 2, 3, 0] [(8, .bool (t26.2 == t50.2))] (by kernel_rfl) fun a ha => ?_
       obtain rfl := Option.some.inj H
       exact J58 _ _ (ha.sel (by kernel_rfl)) hBg12 hBg20 hBg28 hBg36 hBg44 hBg52 hG hC hM
      ·have ha := ha.lit hb64
       have H := ite_f hb64 H
       refine sgh ha 5 [1, 1, 1, 4, 0] [(8, .bool false)] (by kernel_rfl) fun a ha => ?_
       obtain rfl := Option.some.inj H
       exact J58 _ _ (ha.sel (by kernel_rfl)) hBg12 hBg20 hBg28 hBg36 hBg44 hBg52 hG hC hM
     ·have ha := ha.lit hb63
      have H := ite_f hb63 H
      refine sgh ha 10 [1, 1, 1, 4, 0, 1, 1, 1, 4, 0] [(8, .bool false)] (by kernel_rfl) fun a ha => ?_
      obtain rfl := Option.some.inj H
      exact J58 _ _ (ha.sel (by kernel_rfl)) hBg12 hBg20 hBg28 hBg36 hBg44 hBg52 hG hC hM
    ·have ha := ha.lit hb62
     have H := ite_f hb62 H
     refine sgh ha 15 [1, 1, 1, 4, 0, 1, 1, 1, 4, 0, 1, 1, 1, 4, 0] [(8, .bool false)] (by kernel_rfl) fun a ha => ?_
     obtain rfl := Option.some.inj H
     exact J58 _ _ (ha.sel (by kernel_rfl)) hBg12 hBg20 hBg28 hBg36 hBg44 hBg52 hG hC hM
   ·have ha := ha.lit hb61
    have H := ite_f hb61 H
    refine sgh ha 20 [1, 1, 1, 4, 0, 1, 1, 1, 4, 0, 1, 1, 1, 4, 0, 1, 1, 1, 4, 0] [(8, .bool false)] (by kernel_rfl) fun a ha => ?_
    obtain rfl := Option.some.inj H
    exact J58 _ _ (ha.sel (by kernel_rfl)) hBg12 hBg20 hBg28 hBg36 hBg44 hBg52 hG hC hM
  ·have ha := ha.lit hb60
   have H := ite_f hb60 H
   refine sgh ha 25 [1, 1, 1, 4, 0, 1, 1, 1, 4, 0, 1, 1, 1, 4, 0, 1, 1, 1, 4, 0, 1, 1, 1, 4, 0] [(8, .bool false)] (by kernel_rfl) fun a ha => ?_
   obtain rfl := Option.some.inj H
   exact J58 _ _ (ha.sel (by kernel_rfl)) hBg12 hBg20 hBg28 hBg36 hBg44 hBg52 hG hC hM
 ·have ha := ha.lit hb59
  have H := ite_f hb59 H
  refine sgh ha 30 [1, 1, 1, 4, 0, 1, 1, 1, 4, 0, 1, 1, 1, 4, 0, 1, 1, 1, 4, 0, 1, 1, 1, 4, 0, 1, 1, 1, 4, 0] [(8, .bool false)] (by kernel_rfl) fun a ha => ?_
  obtain rfl := Option.some.inj H
  exact J58 _ _ (ha.sel (by kernel_rfl)) hBg12 hBg20 hBg28 hBg36 hBg44 hBg52 hG hC hM
end Go.E
