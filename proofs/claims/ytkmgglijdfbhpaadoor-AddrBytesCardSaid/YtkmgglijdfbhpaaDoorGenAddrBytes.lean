/- What the functions that the law reaches compute, and the walks that show it. -/
import Derived.Test.YtkmgglijdfbhpaaDoorEngU
import Derived.Test.YtkmgglijdfbhpaaDoorShelf
import Derived.Test.YtkmgglijdfbhpaaDoorProg
import Derived.Test.YtkmgglijdfbhpaaDoorGenAddrBytesP1
set_option linter.unusedVariables false
set_option linter.unusedSimpArgs false
namespace Go.E
open Go.RowKit Go.Proofs
def vinerylaw02_AddrBytes.f (k : Nat) (a0 : S_api_Addr) (a1 : List Int) : Option (Bool) := (vinerylaw02_small.f k ).bind fun t9 => (Lent.f a1).bind fun t11 => (addr_Bytes.f k a0).bind fun t14 => (addr_Of.f t11).bind fun t17 => (vineryref02_Of.f k a1).bind fun t25 => (Kept.f t11 a1).bind fun t33 => (vineryref02_Bytes.f k a0).bind fun t38 => ((if t9 = true then (if t33 = true then (if ((bstr (b2s t14)).toList == (bstr (b2s t38)).toList) = true then (if ((t17.1.Size == t25.1.Size) && ((eqA 16 t17.1.B t25.1.B) && true)) = true then (if (t17.2 == t25.2) = true then (addr_Right.f k a0).bind fun t54 => (vineryref02_Right.f k a0).bind fun t55 => some (t54 == t55 : Bool) else some (false : Bool)) else some (false : Bool)) else some (false : Bool)) else some (false : Bool)) else some (false : Bool))).bind fun s48 => some ((s48 : Bool))
set_option maxRecDepth 100000 in
theorem vinerylaw02_AddrBytes.walk (w : World) (M : List Nat) (hM : MS M w) (hG : GF w M) (a0 : S_api_Addr) (a1 : List Int) (ao1 : Option Addr) (cap1 : Nat) (f1 : RSl (rInt .u8) 5 w M ao1 cap1 a1) (k : Nat) (r : Bool) (H : vinerylaw02_AddrBytes.f k a0 a1 = some r) :
    To Tryd.prog 8 [.agg (cS_api_Addr a0).toArray, .slice ao1 a1.length cap1] w fun v w' => v = .bool r ∧ Chg [] w w' ∧ MS (M) w' := by
 unfold vinerylaw02_AddrBytes.f at H
 refine ent Tryd.func8 rfl [(0, .agg (cS_api_Addr a0).toArray), (1, .slice ao1 a1.length cap1)] rfl (by rfl) fun a ha => ?_
 have hC : Chg [] w w := Chg.refl _ _
 refine wp_seq_k fun K2 hK2 => ?_
 refine wp_region_lit ?_
 refine bx (cs := (cS_api_Addr a0)) ha rfl rfl rfl rfl rfl fun a w3 g4 hN5 ha => ?_
 have hn7 := hN5.notin hM
 have o1 : Ok [] (M) w.heap.size := Ok.nil _ _
 have o2 : Ok (M) (M) w.heap.size := (Ok.refl _ _)
 have hG := hG.chg hN5.chg o1 o2
 have f1 := f1.chg hN5.chg o1 o2
 have hM : MS (M) w3 := (hM.chg hN5.chg)
 have hC := hC.trans hN5.chg (Ok.nil _ _)
 have hE6 : ∀ j v, (cS_api_Addr a0)[j]? = some v → w3.cell? ⟨g4, 0 + j, none⟩ = some v := Box.cells (New.box hN5)
 refine seg ha 1 [(1, .slice ao1 a1.length cap1), (2, .pointer (some ⟨g4, 0, none⟩))] (by kernel_rfl) fun a ha => ?_
 refine hK2 _ _ ?_; try clear hK2 K2
 refine wp_seq_k fun K8 hK8 => ?_
 refine wp_region_lit ?_
 obtain ⟨t9, H9, H⟩ := bind_some H
 refine cl ha (by rfl) (by kernel_rfl) (by rfl) (by rfl) (by rfl) (vinerylaw02_small.walk w3 _ hM hG  k _ H9) ?_
 rintro _ w9 ⟨rfl, hc9, hMn⟩ a ha
 have o1 : Ok [] (M) w3.heap.size := Ok.nil _ _
 have o2 : Ok (M) (M) w3.heap.size := (Ok.refl _ _)
 have hG := hG.chg hc9 o1 o2
 have f1 := f1.chg hc9 o1 o2
 have q_hn7 : g4 ∉ M := fun h => (o2 g4 h).elim hn7 (fun h => absurd (lt_cell (hE6 0 _ rfl)) (Nat.not_lt.2 h))
 have hE6 : ∀ j v, (cS_api_Addr a0)[j]? = some v → w9.cell? ⟨g4, 0 + j, none⟩ = some v := fun j v hv => (cell_keep hc9 o1 hn7 (hE6 j v hv))
 have hn7 := q_hn7
 have hM : MS (M) w9 := (hM.chg hc9)
 have hC := hC.trans hc9 (Ok.nil _ _)
 refine seg ha 1 [(1, .slice ao1 a1.length cap1), (2, .pointer (some ⟨g4, 0, none⟩)), (5, .bool t9)] (by kernel_rfl) fun a ha => ?_
 refine hK8 _ _ ?_; try clear hK8 K8
 refine wp_seq_k fun K10 hK10 => ?_
 refine wp_region_lit ?_
 refine seg ha 1 [(1, .slice ao1 a1.length cap1), (2, .pointer (some ⟨g4, 0, none⟩)), (5, .bool t9), (16, .slice ao1 a1.length cap1)] (by kernel_rfl) fun a ha => ?_
 obtain ⟨t11, H11, H⟩ := bind_some H
 refine cl ha (by rfl) (by kernel_rfl) (by rfl) (by rfl) (by rfl) (Lent.walk w9 _ hM a1 ao1 cap1 f1 _ H11) ?_
 rintro _ w11 ⟨ao12, cap12, rfl, f12, ne_i12, hc11, hMn⟩ a ha
 have o1 : Ok [] (M) w9.heap.size := Ok.nil _ _
 have o2 : Ok (blkL ao12 ++ (M)) (M) w9.heap.size := (Ok.app (fun x h => .inr (ne_i12 x h)) (Ok.refl _ _))
 have hG := hG.chg hc11 o1 o2
 have f1 := f1.chg hc11 o1 o2
 have q_hn7 : g4 ∉ blkL ao12 ++ (M) := fun h => (o2 g4 h).elim hn7 (fun h => absurd (lt_cell (hE6 0 _ rfl)) (Nat.not_lt.2 h))
 have hE6 : ∀ j v, (cS_api_Addr a0)[j]? = some v → w11.cell? ⟨g4, 0 + j, none⟩ = some v := fun j v hv => (cell_keep hc11 o1 hn7 (hE6 j v hv))
 have hn7 := q_hn7
 have p_i12_M : ∀ x ∈ blkL ao12, x ∉ M := fun x hx hy => absurd (hM x (hy)) (Nat.not_lt.2 (ne_i12 x hx))
 have e_i12 : ∀ x ∈ blkL ao12, w.heap.size ≤ x := fun x hx => Nat.le_trans hC.size (ne_i12 x hx)
 have hM : MS (blkL ao12 ++ (M)) w11 := (MS.app (fun x h => hMn x (ml h)) (hM.chg hc11))
 have hC := hC.trans hc11 (Ok.nil _ _)
 refine seg ha 1 [(1, .slice ao1 a1.length cap1), (2, .pointer (some ⟨g4, 0, none⟩)), (5, .bool t9), (6, .slice ao12 t11.length cap12)] (by kernel_rfl) fun a ha => ?_
 refine hK10 _ _ ?_; try clear hK10 K10
 refine wp_seq_k fun K13 hK13 => ?_
 refine wp_region_lit ?_
 refine ldA (cs := (cS_api_Addr a0)) ha rfl (by kernel_rfl) rfl rfl rfl (cells_sub hE6 (all := (cS_api_Addr a0)) [] [] (by kernel_rfl)) fun a ha => ?_
 obtain ⟨t14, H14, H⟩ := bind_some H
 refine cl ha (by rfl) (by kernel_rfl) (by rfl) (by rfl) (by rfl) (addr_Bytes.walk w11 _ hM a0 k _ H14) ?_
 rintro _ w14 ⟨ao15, cap15, rfl, f15, ne_i15, hc14, hMn⟩ a ha
 have o1 : Ok [] (blkL ao12 ++ (M)) w11.heap.size := Ok.nil _ _
 have o2 : Ok (blkL ao15 ++ (blkL ao12 ++ (M))) (blkL ao12 ++ (M)) w11.heap.size := (Ok.app (fun x h => .inr (ne_i15 x h)) (Ok.refl _ _))
 have hG := hG.chg hc14 o1 o2
 have f1 := f1.chg hc14 o1 o2
 have f12 := f12.chg hc14 o1 o2 (fun _ _ h => nomatch h) (fun _ h => mr (ml h))
 have q_hn7 : g4 ∉ blkL ao15 ++ (blkL ao12 ++ (M)) := fun h => (o2 g4 h).elim hn7 (fun h => absurd (lt_cell (hE6 0 _ rfl)) (Nat.not_lt.2 h))
 have hE6 : ∀ j v, (cS_api_Addr a0)[j]? = some v → w14.cell? ⟨g4, 0 + j, none⟩ = some v := fun j v hv => (cell_keep hc14 o1 hn7 (hE6 j v hv))
 have hn7 := q_hn7
 have p_i15_i12 : ∀ x ∈ blkL ao15, x ∉ (blkL ao12) := fun x hx hy => absurd (hM x (ml hy)) (Nat.not_lt.2 (ne_i15 x hx))
 have p_i15_M : ∀ x ∈ blkL ao15, x ∉ M := fun x hx hy => absurd (hM x (mr (hy))) (Nat.not_lt.2 (ne_i15 x hx))
 have e_i15 : ∀ x ∈ blkL ao15, w.heap.size ≤ x := fun x hx => Nat.le_trans hC.size (ne_i15 x hx)
 have hM : MS (blkL ao15 ++ (blkL ao12 ++ (M))) w14 := (MS.app (fun x h => hMn x (ml h)) (hM.chg hc14))
 have hC := hC.trans hc14 (Ok.nil _ _)
 refine seg ha 1 [(1, .slice ao1 a1.length cap1), (2, .pointer (some ⟨g4, 0, none⟩)), (5, .bool t9), (6, .slice ao12 t11.length cap12), (7, .slice ao15 t14.length cap15)] (by kernel_rfl) fun a ha => ?_
 refine hK13 _ _ ?_; try clear hK13 K13
 refine wp_seq_k fun K16 hK16 => ?_
 refine wp_region_lit ?_
 refine seg ha 1 [(1, .slice ao1 a1.length cap1), (2, .pointer (some ⟨g4, 0, none⟩)), (5, .bool t9), (6, .slice ao12 t11.length cap12), (7, .slice ao15 t14.length cap15), (21, .slice ao12 t11.length cap12)] (by kernel_rfl) fun a ha => ?_
 have hML : MS (blkL ao15 ++ (M)) w14 := MS.rest hM (fun _ h => (List.mem_append.1 h).elim (fun h => ml h) (fun h => mr (mr (h))))
 have oL : Ok (blkL ao15 ++ (M)) (blkL ao15 ++ (blkL ao12 ++ (M))) w14.heap.size := (Ok.app (fun _ h => .inl (ml h)) (fun _ h => .inl (mr (mr (h)))))
 obtain ⟨t17, H17, H⟩ := bind_some H
 refine cl ha (by rfl) (by kernel_rfl) (by rfl) (by rfl) (by rfl) (addr_Of.walk w14 _ hML t11 ao12 cap12 (Len.toRSl (T := 5) (M' := blkL ao15 ++ (M)) f12 oL (fun x hx hm => (List.mem_append.1 hm).elim (fun h => (fun x hx hy => p_i15_i12 x hy hx) x hx h) (fun h => p_i12_M x hx h))) _ H17) ?_
 rintro _ w17 ⟨rfl, hc17, hMn⟩ a ha
 have o1 : Ok [] (blkL ao15 ++ (blkL ao12 ++ (M))) w14.heap.size := Ok.nil _ _
 have o2 : Ok (blkL ao15 ++ (blkL ao12 ++ (M))) (blkL ao15 ++ (blkL ao12 ++ (M))) w14.heap.size := (Ok.refl _ _)
 have hG := hG.chg hc17 o1 o2
 have f1 := f1.chg hc17 o1 o2
 have f12 := f12.chg hc17 o1 o2 (fun _ _ h => nomatch h) (fun _ h => mr (ml h))
 have f15 := f15.chg hc17 o1 o2 (fun _ _ h => nomatch h) (fun _ h => ml h)
 have q_hn7 : g4 ∉ blkL ao15 ++ (blkL ao12 ++ (M)) := fun h => (o2 g4 h).elim hn7 (fun h => absurd (lt_cell (hE6 0 _ rfl)) (Nat.not_lt.2 h))
 have hE6 : ∀ j v, (cS_api_Addr a0)[j]? = some v → w17.cell? ⟨g4, 0 + j, none⟩ = some v := fun j v hv => (cell_keep hc17 o1 hn7 (hE6 j v hv))
 have hn7 := q_hn7
 have hM : MS (blkL ao15 ++ (blkL ao12 ++ (M))) w17 := (hM.chg hc17)
 have hC := hC.trans hc17 (Ok.nil _ _)
 refine seg ha 3 [(1, .slice ao1 a1.length cap1), (2, .pointer (some ⟨g4, 0, none⟩)), (5, .bool t9), (6, .slice ao12 t11.length cap12), (7, .slice ao15 t14.length cap15), (23, .agg (cS_api_Addr t17.1).toArray), (24, .int .i64 t17.2)] (by kernel_rfl) fun a ha => ?_
 refine al (cs := (cS_api_Addr (⟨(0 : Int), (List.replicate 16 (0 : Int))⟩ : S_api_Addr))) (z := .agg (cS_api_Addr (⟨(0 : Int), (List.replicate 16 (0 : Int))⟩ : S_api_Addr)).toArray) ha (fun w => by kernel_rfl) rfl rfl rfl rfl fun a w18 g19 hN20 ha => ?_
 have o1 : Ok [] (blkL ao15 ++ (blkL ao12 ++ (M))) w17.heap.size := Ok.nil _ _
 have o2 : Ok ([g19] ++ (blkL ao15 ++ (blkL ao12 ++ (M)))) (blkL ao15 ++ (blkL ao12 ++ (M))) w17.heap.size := (Ok.app (hN20.ok _) (Ok.refl _ _))
 have hG := hG.chg hN20.chg o1 o2
 have f1 := f1.chg hN20.chg o1 o2
 have f12 := f12.chg hN20.chg o1 o2 (fun _ _ h => nomatch h) (fun _ h => mr (mr (ml h)))
 have f15 := f15.chg hN20.chg o1 o2 (fun _ _ h => nomatch h) (fun _ h => mr (ml h))
 have q_hn7 : g4 ∉ [g19] ++ (blkL ao15 ++ (blkL ao12 ++ (M))) := fun h => (o2 g4 h).elim hn7 (fun h => absurd (lt_cell (hE6 0 _ rfl)) (Nat.not_lt.2 h))
 have hE6 : ∀ j v, (cS_api_Addr a0)[j]? = some v → w18.cell? ⟨g4, 0 + j, none⟩ = some v := fun j v hv => (cell_keep hN20.chg o1 hn7 (hE6 j v hv))
 have hn7 := q_hn7
 have p_i21_i15 : ∀ x ∈ [g19], x ∉ (blkL ao15) := fun x hx hy => absurd (hM x (ml hy)) (Nat.not_lt.2 ((hN20.ge1) x hx))
 have p_i21_i12 : ∀ x ∈ [g19], x ∉ (blkL ao12) := fun x hx hy => absurd (hM x (mr (ml hy))) (Nat.not_lt.2 ((hN20.ge1) x hx))
 have p_i21_M : ∀ x ∈ [g19], x ∉ M := fun x hx hy => absurd (hM x (mr (mr (hy)))) (Nat.not_lt.2 ((hN20.ge1) x hx))
 have e_i21 : ∀ x ∈ [g19], w.heap.size ≤ x := fun x hx => Nat.le_trans hC.size ((hN20.ge1) x hx)
 have hM : MS ([g19] ++ (blkL ao15 ++ (blkL ao12 ++ (M)))) w18 := (MS.app hN20.ms (hM.chg hN20.chg))
 have hC := hC.trans hN20.chg (Ok.nil _ _)
 have hBg19 : Box w18 g19 (cS_api_Addr (⟨(0 : Int), (List.replicate 16 (0 : Int))⟩ : S_api_Addr)) := hN20.box
 refine stA (l := (cS_api_Addr t17.1)) ha rfl rfl rfl (by kernel_rfl) rfl rfl hBg19 rfl fun a w22 ha hb2 hc23 _ => ?_
 have o1 : Ok [g19] ([g19] ++ (blkL ao15 ++ (blkL ao12 ++ (M)))) w18.heap.size := (fun _ h => .inl (ml h))
 have o2 : Ok ([g19] ++ (blkL ao15 ++ (blkL ao12 ++ (M)))) ([g19] ++ (blkL ao15 ++ (blkL ao12 ++ (M)))) w18.heap.size := (Ok.refl _ _)
 have hG := hG.chg hc23 o1 o2
 have f1 := f1.chg hc23 o1 o2
 have f12 := f12.chg hc23 o1 o2 (fun x (hx : x ∈ blkL ao12) (hy : x ∈ [g19]) => p_i21_i12 x hy hx) (fun _ h => mr (mr (ml h)))
 have f15 := f15.chg hc23 o1 o2 (fun x (hx : x ∈ blkL ao15) (hy : x ∈ [g19]) => p_i21_i15 x hy hx) (fun _ h => mr (ml h))
 have q_hn7 : g4 ∉ [g19] ++ (blkL ao15 ++ (blkL ao12 ++ (M))) := fun h => (o2 g4 h).elim hn7 (fun h => absurd (lt_cell (hE6 0 _ rfl)) (Nat.not_lt.2 h))
 have hE6 : ∀ j v, (cS_api_Addr a0)[j]? = some v → w22.cell? ⟨g4, 0 + j, none⟩ = some v := fun j v hv => (cell_keep hc23 o1 hn7 (hE6 j v hv))
 have hn7 := q_hn7
 have hM : MS ([g19] ++ (blkL ao15 ++ (blkL ao12 ++ (M)))) w22 := (hM.chg hc23)
 have hC := hC.trans hc23 (fun x h => .inr (e_i21 x h))
 have hBg19 : Box w22 g19 (cS_api_Addr t17.1) := hb2
 refine seg ha 1 [(1, .slice ao1 a1.length cap1), (2, .pointer (some ⟨g4, 0, none⟩)), (5, .bool t9), (6, .slice ao12 t11.length cap12), (7, .slice ao15 t14.length cap15), (8, .pointer (some ⟨g19, 0, none⟩)), (9, .int .i64 t17.2)] (by kernel_rfl) fun a ha => ?_
 refine hK16 _ _ ?_; try clear hK16 K16
 refine wp_seq_k fun K24 hK24 => ?_
 refine wp_region_lit ?_
 refine seg ha 1 [(1, .slice ao1 a1.length cap1), (2, .pointer (some ⟨g4, 0, none⟩)), (5, .bool t9), (6, .slice ao12 t11.length cap12), (7, .slice ao15 t14.length cap15), (8, .pointer (some ⟨g19, 0, none⟩)), (9, .int .i64 t17.2), (26, .slice ao1 a1.length cap1)] (by kernel_rfl) fun a ha => ?_
 obtain ⟨t25, H25, H⟩ := bind_some H
 refine cl ha (by rfl) (by kernel_rfl) (by rfl) (by rfl) (by rfl) (vineryref02_Of.walk w22 _ hM a1 ao1 cap1 f1 k _ H25) ?_
 rintro _ w25 ⟨rfl, hc25, hMn⟩ a ha
 have o1 : Ok [] ([g19] ++ (blkL ao15 ++ (blkL ao12 ++ (M)))) w22.heap.size := Ok.nil _ _
 have o2 : Ok ([g19] ++ (blkL ao15 ++ (blkL ao12 ++ (M)))) ([g19] ++ (blkL ao15 ++ (blkL ao12 ++ (M)))) w22.heap.size := (Ok.refl _ _)
 have hG := hG.chg hc25 o1 o2
 have f1 := f1.chg hc25 o1 o2
 have f12 := f12.chg hc25 o1 o2 (fun _ _ h => nomatch h) (fun _ h => mr (mr (ml h)))
 have f15 := f15.chg hc25 o1 o2 (fun _ _ h => nomatch h) (fun _ h => mr (ml h))
 have hBg19 := hBg19.chg hc25 (fun h => nomatch h)
 have q_hn7 : g4 ∉ [g19] ++ (blkL ao15 ++ (blkL ao12 ++ (M))) := fun h => (o2 g4 h).elim hn7 (fun h => absurd (lt_cell (hE6 0 _ rfl)) (Nat.not_lt.2 h))
 have hE6 : ∀ j v, (cS_api_Addr a0)[j]? = some v → w25.cell? ⟨g4, 0 + j, none⟩ = some v := fun j v hv => (cell_keep hc25 o1 hn7 (hE6 j v hv))
 have hn7 := q_hn7
 have hM : MS ([g19] ++ (blkL ao15 ++ (blkL ao12 ++ (M)))) w25 := (hM.chg hc25)
 have hC := hC.trans hc25 (Ok.nil _ _)
 refine seg ha 3 [(1, .slice ao1 a1.length cap1), (2, .pointer (some ⟨g4, 0, none⟩)), (5, .bool t9), (6, .slice ao12 t11.length cap12), (7, .slice ao15 t14.length cap15), (8, .pointer (some ⟨g19, 0, none⟩)), (9, .int .i64 t17.2), (28, .agg (cS_api_Addr t25.1).toArray), (29, .int .i64 t25.2)] (by kernel_rfl) fun a ha => ?_
 refine al (cs := (cS_api_Addr (⟨(0 : Int), (List.replicate 16 (0 : Int))⟩ : S_api_Addr))) (z := .agg (cS_api_Addr (⟨(0 : Int), (List.replicate 16 (0 : Int))⟩ : S_api_Addr)).toArray) ha (fun w => by kernel_rfl) rfl rfl rfl rfl fun a w26 g27 hN28 ha => ?_
 have o1 : Ok [] ([g19] ++ (blkL ao15 ++ (blkL ao12 ++ (M)))) w25.heap.size := Ok.nil _ _
 have o2 : Ok ([g27] ++ ([g19] ++ (blkL ao15 ++ (blkL ao12 ++ (M))))) ([g19] ++ (blkL ao15 ++ (blkL ao12 ++ (M)))) w25.heap.size := (Ok.app (hN28.ok _) (Ok.refl _ _))
 have hG := hG.chg hN28.chg o1 o2
 have f1 := f1.chg hN28.chg o1 o2
 have f12 := f12.chg hN28.chg o1 o2 (fun _ _ h => nomatch h) (fun _ h => mr (mr (mr (ml h))))
 have f15 := f15.chg hN28.chg o1 o2 (fun _ _ h => nomatch h) (fun _ h => mr (mr (ml h)))
 have hBg19 := hBg19.chg hN28.chg (fun h => nomatch h)
 have q_hn7 : g4 ∉ [g27] ++ ([g19] ++ (blkL ao15 ++ (blkL ao12 ++ (M)))) := fun h => (o2 g4 h).elim hn7 (fun h => absurd (lt_cell (hE6 0 _ rfl)) (Nat.not_lt.2 h))
 have hE6 : ∀ j v, (cS_api_Addr a0)[j]? = some v → w26.cell? ⟨g4, 0 + j, none⟩ = some v := fun j v hv => (cell_keep hN28.chg o1 hn7 (hE6 j v hv))
 have hn7 := q_hn7
 have p_i29_i21 : ∀ x ∈ [g27], x ∉ ([g19]) := fun x hx hy => absurd (hM x (ml hy)) (Nat.not_lt.2 ((hN28.ge1) x hx))
 have p_i29_i15 : ∀ x ∈ [g27], x ∉ (blkL ao15) := fun x hx hy => absurd (hM x (mr (ml hy))) (Nat.not_lt.2 ((hN28.ge1) x hx))
 have p_i29_i12 : ∀ x ∈ [g27], x ∉ (blkL ao12) := fun x hx hy => absurd (hM x (mr (mr (ml hy)))) (Nat.not_lt.2 ((hN28.ge1) x hx))
 have p_i29_M : ∀ x ∈ [g27], x ∉ M := fun x hx hy => absurd (hM x (mr (mr (mr (hy))))) (Nat.not_lt.2 ((hN28.ge1) x hx))
 have e_i29 : ∀ x ∈ [g27], w.heap.size ≤ x := fun x hx => Nat.le_trans hC.size ((hN28.ge1) x hx)
 have hM : MS ([g27] ++ ([g19] ++ (blkL ao15 ++ (blkL ao12 ++ (M))))) w26 := (MS.app hN28.ms (hM.chg hN28.chg))
 have hC := hC.trans hN28.chg (Ok.nil _ _)
 have hBg27 : Box w26 g27 (cS_api_Addr (⟨(0 : Int), (List.replicate 16 (0 : Int))⟩ : S_api_Addr)) := hN28.box
 refine stA (l := (cS_api_Addr t25.1)) ha rfl rfl rfl (by kernel_rfl) rfl rfl hBg27 rfl fun a w30 ha hb2 hc31 _ => ?_
 have o1 : Ok [g27] ([g27] ++ ([g19] ++ (blkL ao15 ++ (blkL ao12 ++ (M))))) w26.heap.size := (fun _ h => .inl (ml h))
 have o2 : Ok ([g27] ++ ([g19] ++ (blkL ao15 ++ (blkL ao12 ++ (M))))) ([g27] ++ ([g19] ++ (blkL ao15 ++ (blkL ao12 ++ (M))))) w26.heap.size := (Ok.refl _ _)
 have hG := hG.chg hc31 o1 o2
 have f1 := f1.chg hc31 o1 o2
 have f12 := f12.chg hc31 o1 o2 (fun x (hx : x ∈ blkL ao12) (hy : x ∈ [g27]) => p_i29_i12 x hy hx) (fun _ h => mr (mr (mr (ml h))))
 have f15 := f15.chg hc31 o1 o2 (fun x (hx : x ∈ blkL ao15) (hy : x ∈ [g27]) => p_i29_i15 x hy hx) (fun _ h => mr (mr (ml h)))
 have hBg19 := hBg19.chg hc31 ((fun x (hx : x ∈ [g19]) (hy : x ∈ [g27]) => p_i29_i21 x hy hx) g19 (by simp))
 have q_hn7 : g4 ∉ [g27] ++ ([g19] ++ (blkL ao15 ++ (blkL ao12 ++ (M)))) := fun h => (o2 g4 h).elim hn7 (fun h => absurd (lt_cell (hE6 0 _ rfl)) (Nat.not_lt.2 h))
 have hE6 : ∀ j v, (cS_api_Addr a0)[j]? = some v → w30.cell? ⟨g4, 0 + j, none⟩ = some v := fun j v hv => (cell_keep hc31 o1 hn7 (hE6 j v hv))
 have hn7 := q_hn7
 have hM : MS ([g27] ++ ([g19] ++ (blkL ao15 ++ (blkL ao12 ++ (M))))) w30 := (hM.chg hc31)
 have hC := hC.trans hc31 (fun x h => .inr (e_i29 x h))
 have hBg27 : Box w30 g27 (cS_api_Addr t25.1) := hb2
 refine seg ha 1 [(1, .slice ao1 a1.length cap1), (2, .pointer (some ⟨g4, 0, none⟩)), (5, .bool t9), (6, .slice ao12 t11.length cap12), (7, .slice ao15 t14.length cap15), (8, .pointer (some ⟨g19, 0, none⟩)), (9, .int .i64 t17.2), (10, .pointer (some ⟨g27, 0, none⟩)), (11, .int .i64 t25.2)] (by kernel_rfl) fun a ha => ?_
 refine hK24 _ _ ?_; try clear hK24 K24
 refine wp_seq_k fun K32 hK32 => ?_
 refine wp_region_lit ?_
 refine seg ha 2 [(2, .pointer (some ⟨g4, 0, none⟩)), (5, .bool t9), (6, .slice ao12 t11.length cap12), (7, .slice ao15 t14.length cap15), (8, .pointer (some ⟨g19, 0, none⟩)), (9, .int .i64 t17.2), (10, .pointer (some ⟨g27, 0, none⟩)), (11, .int .i64 t25.2), (30, .slice ao12 t11.length cap12), (31, .slice ao1 a1.length cap1)] (by kernel_rfl) fun a ha => ?_
 obtain ⟨t33, H33, H⟩ := bind_some H
 refine cl ha (by rfl) (by kernel_rfl) (by rfl) (by rfl) (by rfl) (Kept.walk w30 _ hM t11 ao12 cap12 f12 a1 ao1 cap1 f1 _ H33) ?_
 rintro _ w33 ⟨rfl, hc33, hMn⟩ a ha
 have o1 : Ok [] ([g27] ++ ([g19] ++ (blkL ao15 ++ (blkL ao12 ++ (M))))) w30.heap.size := Ok.nil _ _
 have o2 : Ok ([g27] ++ ([g19] ++ (blkL ao15 ++ (blkL ao12 ++ (M))))) ([g27] ++ ([g19] ++ (blkL ao15 ++ (blkL ao12 ++ (M))))) w30.heap.size := (Ok.refl _ _)
 have hG := hG.chg hc33 o1 o2
 have f12 := f12.chg hc33 o1 o2 (fun _ _ h => nomatch h) (fun _ h => mr (mr (mr (ml h))))
 have f15 := f15.chg hc33 o1 o2 (fun _ _ h => nomatch h) (fun _ h => mr (mr (ml h)))
 have f1 := f1.chg hc33 o1 o2
 have hBg19 := hBg19.chg hc33 (fun h => nomatch h)
 have hBg27 := hBg27.chg hc33 (fun h => nomatch h)
 have q_hn7 : g4 ∉ [g27] ++ ([g19] ++ (blkL ao15 ++ (blkL ao12 ++ (M)))) := fun h => (o2 g4 h).elim hn7 (fun h => absurd (lt_cell (hE6 0 _ rfl)) (Nat.not_lt.2 h))
 have hE6 : ∀ j v, (cS_api_Addr a0)[j]? = some v → w33.cell? ⟨g4, 0 + j, none⟩ = some v := fun j v hv => (cell_keep hc33 o1 hn7 (hE6 j v hv))
 have hn7 := q_hn7
 have hM : MS ([g27] ++ ([g19] ++ (blkL ao15 ++ (blkL ao12 ++ (M))))) w33 := (hM.chg hc33)
 have hC := hC.trans hc33 (Ok.nil _ _)
 refine seg ha 1 [(2, .pointer (some ⟨g4, 0, none⟩)), (5, .bool t9), (6, .slice ao12 t11.length cap12), (7, .slice ao15 t14.length cap15), (8, .pointer (some ⟨g19, 0, none⟩)), (9, .int .i64 t17.2), (10, .pointer (some ⟨g27, 0, none⟩)), (11, .int .i64 t25.2), (12, .bool t33)] (by kernel_rfl) fun a ha => ?_
 refine hK32 _ _ ?_; try clear hK32 K32
 refine wp_seq_k fun K34 hK34 => ?_
 have okS : Ok [] ([g27] ++ ([g19] ++ (blkL ao15 ++ (blkL ao12 ++ (M))))) w33.heap.size := Ok.nil _ _
 have z_f12 := (Len.toRSl (T := 5) (M' := []) f12 (Ok.nil _ _) (fun _ _ h => nomatch h))
 have z_f15 := (Own.toRSl (M' := []) f15 (Ok.nil _ _) (fun _ _ h => nomatch h))
 have z_hBg19 := hBg19
 have z_hBg27 := hBg27
 have z_hE6 := hE6
 have z_hn7 := hn7
 refine drw (fun w' => Chg [] w33 w') (by kernel_rfl) fun w35 hc36 _ => ?_
 have hS : Chg [] w33 w35 := (Chg.refl [] _).trans hc36 (Ok.nil _ _)
 have o1 : Ok [] ([g27] ++ ([g19] ++ (blkL ao15 ++ (blkL ao12 ++ (M))))) w33.heap.size := Ok.nil _ _
 have o2 : Ok ([g27] ++ ([g19] ++ (blkL ao15 ++ (blkL ao12 ++ (M))))) ([g27] ++ ([g19] ++ (blkL ao15 ++ (blkL ao12 ++ (M))))) w33.heap.size := (Ok.refl _ _)
 have hG := hG.chg hc36 o1 o2
 have f12 := f12.chg hc36 o1 o2 (fun _ _ h => nomatch h) (fun _ h => mr (mr (mr (ml h))))
 have f15 := f15.chg hc36 o1 o2 (fun _ _ h => nomatch h) (fun _ h => mr (mr (ml h)))
 have hBg19 := hBg19.chg hc36 (fun h => nomatch h)
 have hBg27 := hBg27.chg hc36 (fun h => nomatch h)
 have q_hn7 : g4 ∉ [g27] ++ ([g19] ++ (blkL ao15 ++ (blkL ao12 ++ (M)))) := fun h => (o2 g4 h).elim hn7 (fun h => absurd (lt_cell (hE6 0 _ rfl)) (Nat.not_lt.2 h))
 have hE6 : ∀ j v, (cS_api_Addr a0)[j]? = some v → w35.cell? ⟨g4, 0 + j, none⟩ = some v := fun j v hv => (cell_keep hc36 o1 hn7 (hE6 j v hv))
 have hn7 := q_hn7
 have hM : MS ([g27] ++ ([g19] ++ (blkL ao15 ++ (blkL ao12 ++ (M))))) w35 := (hM.chg hc36)
 have hC := hC.trans hc36 (Ok.nil _ _)
 refine tkpz 0 0 (.slice ao15 t14.length cap15) ha (s := hS) (q := fun a ha => ?_)
 refine tkz 1 ha (v := .string (bstr (b2s t14))) (y := fun w' hs => cvs_run ha rfl (by kernel_rfl) (by kernel_rfl) (by kernel_rfl) (RSl.chg z_f15 hs (Ok.nil _ _) (Ok.refl _ _))) (s := hS) (q := fun a ha => ?_)
 refine tkz 2 ha (v := .agg (cS_api_Addr a0).toArray) (y := fun w' hs => ldA_run (cs := (cS_api_Addr a0)) ha rfl (by kernel_rfl) (cells_sub (fun j v hv => cell_keep hs okS z_hn7 (z_hE6 j v hv)) (all := (cS_api_Addr a0)) [] [] (by kernel_rfl))) (s := hS) (q := fun a ha => ?_)
 refine ac 3 (by kernel_rfl) (by rfl) fun K37 hK37 => ?_
 obtain ⟨t38, H38, H⟩ := bind_some H
 refine cl ha (by rfl) (by kernel_rfl) (by rfl) (by rfl) (by rfl) (vineryref02_Bytes.walk w35 _ hM a0 k _ H38) ?_
 rintro _ w38 ⟨ao39, cap39, rfl, f39, ne_iD000039, hc38, hMn⟩ a ha
 have o1 : Ok [] ([g27] ++ ([g19] ++ (blkL ao15 ++ (blkL ao12 ++ (M))))) w35.heap.size := Ok.nil _ _
 have o2 : Ok (blkL ao39 ++ ([g27] ++ ([g19] ++ (blkL ao15 ++ (blkL ao12 ++ (M)))))) ([g27] ++ ([g19] ++ (blkL ao15 ++ (blkL ao12 ++ (M))))) w35.heap.size := (Ok.app (fun x h => .inr (ne_iD000039 x h)) (Ok.refl _ _))
 have hG := hG.chg hc38 o1 o2
 have f12 := f12.chg hc38 o1 o2 (fun _ _ h => nomatch h) (fun _ h => mr (mr (mr (mr (ml h)))))
 have f15 := f15.chg hc38 o1 o2 (fun _ _ h => nomatch h) (fun _ h => mr (mr (mr (ml h))))
 have hBg19 := hBg19.chg hc38 (fun h => nomatch h)
 have hBg27 := hBg27.chg hc38 (fun h => nomatch h)
 have q_hn7 : g4 ∉ blkL ao39 ++ ([g27] ++ ([g19] ++ (blkL ao15 ++ (blkL ao12 ++ (M))))) := fun h => (o2 g4 h).elim hn7 (fun h => absurd (lt_cell (hE6 0 _ rfl)) (Nat.not_lt.2 h))
 have hE6 : ∀ j v, (cS_api_Addr a0)[j]? = some v → w38.cell? ⟨g4, 0 + j, none⟩ = some v := fun j v hv => (cell_keep hc38 o1 hn7 (hE6 j v hv))
 have hn7 := q_hn7
 have p_iD000039_i29 : ∀ x ∈ blkL ao39, x ∉ ([g27]) := fun x hx hy => absurd (hM x (ml hy)) (Nat.not_lt.2 (ne_iD000039 x hx))
 have p_iD000039_i21 : ∀ x ∈ blkL ao39, x ∉ ([g19]) := fun x hx hy => absurd (hM x (mr (ml hy))) (Nat.not_lt.2 (ne_iD000039 x hx))
 have p_iD000039_i15 : ∀ x ∈ blkL ao39, x ∉ (blkL ao15) := fun x hx hy => absurd (hM x (mr (mr (ml hy)))) (Nat.not_lt.2 (ne_iD000039 x hx))
 have p_iD000039_i12 : ∀ x ∈ blkL ao39, x ∉ (blkL ao12) := fun x hx hy => absurd (hM x (mr (mr (mr (ml hy))))) (Nat.not_lt.2 (ne_iD000039 x hx))
 have p_iD000039_M : ∀ x ∈ blkL ao39, x ∉ M := fun x hx hy => absurd (hM x (mr (mr (mr (mr (hy)))))) (Nat.not_lt.2 (ne_iD000039 x hx))
 have e_iD000039 : ∀ x ∈ blkL ao39, w.heap.size ≤ x := fun x hx => Nat.le_trans hC.size (ne_iD000039 x hx)
 have hM : MS (blkL ao39 ++ ([g27] ++ ([g19] ++ (blkL ao15 ++ (blkL ao12 ++ (M)))))) w38 := (MS.app (fun x h => hMn x (ml h)) (hM.chg hc38))
 have hC := hC.trans hc38 (Ok.nil _ _)
 have d_iD000039 : Ok (blkL ao39) [] w33.heap.size := fun x hx => .inr (Nat.le_trans hS.size (ne_iD000039 x hx))
 have hS := hS.trans hc38 (Ok.nil _ _)
 refine ae hK37 hS ?_; clear hK37 K37
 refine ac 4 (by kernel_rfl) (by rfl) fun K40 hK40 => ?_
 refine cvs ha rfl (by kernel_rfl) (by kernel_rfl) (by kernel_rfl) rfl rfl rfl (Own.toRSl (M' := []) f39 (Ok.nil _ _) (fun _ _ h => nomatch h)) fun a ha => ?_
 refine ae hK40 hS ?_; clear hK40 K40
 refine tkpz 5 0 (.bool ((bstr (b2s t14)).toList == (bstr (b2s t38)).toList)) ha (s := hS) (q := fun a ha => ?_)
 refine tkpz 6 0 (.bool ((bstr (b2s t14)).toList == (bstr (b2s t38)).toList)) ha (s := hS) (q := fun a ha => ?_)
 refine dn (by kernel_rfl) ?_
 refine hK34 _ _ ?_; try clear hK34 K34
 refine wp_seq_k fun K41 hK41 => ?_
 refine wp_region_lit ?_
 refine seg ha 2 [(2, .pointer (some ⟨g4, 0, none⟩)), (5, .bool t9), (8, .pointer (some ⟨g19, 0, none⟩)), (9, .int .i64 t17.2), (10, .pointer (some ⟨g27, 0, none⟩)), (11, .int .i64 t25.2), (12, .bool t33), (13, .bool ((bstr (b2s t14)).toList == (bstr (b2s t38)).toList)), (39, .slice ao15 t14.length cap15), (40, .slice ao12 t11.length cap12)] (by kernel_rfl) fun a ha => ?_
 refine bsl (vals := ([.slice ao15 t14.length cap15, .slice ao12 t11.length cap12] : List Value)) (T := 43) ha rfl (([.slice ao15 t14.length cap15] : List Value) ++ (([.slice ao12 t11.length cap12] : List Value) ++ ([] : List Value))) (fun w => by kernel_rfl) rfl rfl rfl fun a w42 g43 hN44 ha => ?_
 have hgr45 : ∀ x ∈ (blkL ao39 ++ ([g27] ++ ([g19] ++ (blkL ao15 ++ (blkL ao12 ++ (M)))))), x ≠ g43 := fun x h e => absurd (hM x h) (Nat.not_lt.2 (by rw [e]; exact hN44.ge))
 have o1 : Ok [] (blkL ao39 ++ ([g27] ++ ([g19] ++ (blkL ao15 ++ (blkL ao12 ++ (M)))))) w38.heap.size := Ok.nil _ _
 have o2 : Ok (blkL ao39 ++ ([g27] ++ ([g19] ++ (blkL ao15 ++ (blkL ao12 ++ (M)))))) (blkL ao39 ++ ([g27] ++ ([g19] ++ (blkL ao15 ++ (blkL ao12 ++ (M)))))) w38.heap.size := (Ok.refl _ _)
 have hG := hG.chg hN44.chg o1 o2
 have f15 := f15.chg hN44.chg o1 o2 (fun _ _ h => nomatch h) (fun _ h => mr (mr (mr (ml h))))
 have f12 := f12.chg hN44.chg o1 o2 (fun _ _ h => nomatch h) (fun _ h => mr (mr (mr (mr (ml h)))))
 have hBg19 := hBg19.chg hN44.chg (fun h => nomatch h)
 have hBg27 := hBg27.chg hN44.chg (fun h => nomatch h)
 have q_hn7 : g4 ∉ blkL ao39 ++ ([g27] ++ ([g19] ++ (blkL ao15 ++ (blkL ao12 ++ (M))))) := fun h => (o2 g4 h).elim hn7 (fun h => absurd (lt_cell (hE6 0 _ rfl)) (Nat.not_lt.2 h))
 have hE6 : ∀ j v, (cS_api_Addr a0)[j]? = some v → w42.cell? ⟨g4, 0 + j, none⟩ = some v := fun j v hv => (cell_keep hN44.chg o1 hn7 (hE6 j v hv))
 have hn7 := q_hn7
 have hM : MS (blkL ao39 ++ ([g27] ++ ([g19] ++ (blkL ao15 ++ (blkL ao12 ++ (M)))))) w42 := (hM.chg hN44.chg)
 have hC := hC.trans hN44.chg (Ok.nil _ _)
 have hB45 : Box w42 g43 ([.slice ao15 t14.length cap15, .slice ao12 t11.length cap12] : List Value) := hN44.box
 refine cl ha (by rfl) (by kernel_rfl) (by rfl) (by rfl) (by rfl) (Owned.call w42 _ hM g43 [(ao15, t14.length, cap15), (ao12, t11.length, cap12)] (blkL ao15 ++ blkL ao12) (List.forall_mem_cons.2 ⟨f15.rowOk, (List.forall_mem_cons.2 ⟨f12.rowOk, (fun _ h => nomatch h)⟩)⟩) (List.Pairwise.cons (List.forall_mem_cons.2 ⟨(p_i15_i12), (fun _ h => nomatch h)⟩) (List.Pairwise.cons (fun _ h => nomatch h) List.Pairwise.nil)) (List.forall_mem_cons.2 ⟨(fun h => hgr45 _ (mr (mr (mr (ml h)))) rfl), (List.forall_mem_cons.2 ⟨(fun h => hgr45 _ (mr (mr (mr (mr (ml h))))) rfl), (fun _ h => nomatch h)⟩)⟩) hB45 (Nat.le_of_ble_eq_true rfl) (List.forall_mem_cons.2 ⟨(fun _ h => (List.mem_append_left _ h)), (List.forall_mem_cons.2 ⟨(fun _ h => (List.mem_append_right _ h)), (fun _ h => nomatch h)⟩)⟩)) ?_
 rintro _ w46 ⟨rfl, hc46, _⟩ a ha
 have o1 : Ok (blkL ao15 ++ blkL ao12) (blkL ao39 ++ ([g27] ++ ([g19] ++ (blkL ao15 ++ (blkL ao12 ++ (M)))))) w42.heap.size := (Ok.app (fun _ h => .inl (mr (mr (mr (ml h))))) (fun _ h => .inl (mr (mr (mr (mr (ml h)))))))
 have o2 : Ok (blkL ao39 ++ ([g27] ++ ([g19] ++ (M)))) (blkL ao39 ++ ([g27] ++ ([g19] ++ (blkL ao15 ++ (blkL ao12 ++ (M)))))) w42.heap.size := (Ok.app (fun _ h => .inl (ml h)) (Ok.app (fun _ h => .inl (mr (ml h))) (Ok.app (fun _ h => .inl (mr (mr (ml h)))) (fun _ h => .inl (mr (mr (mr (mr (mr (h))))))))))
 have hG := hG.chg hc46 o1 o2
 have hBg19 := hBg19.chg hc46 ((fun x (hx : x ∈ [g19]) (hy : x ∈ blkL ao15 ++ blkL ao12) => (List.mem_append.1 hy).elim (fun hy => p_i21_i15 x hx hy) (fun hy => p_i21_i12 x hx hy)) g19 (by simp))
 have hBg27 := hBg27.chg hc46 ((fun x (hx : x ∈ [g27]) (hy : x ∈ blkL ao15 ++ blkL ao12) => (List.mem_append.1 hy).elim (fun hy => p_i29_i15 x hx hy) (fun hy => p_i29_i12 x hx hy)) g27 (by simp))
 have q_hn7 : g4 ∉ blkL ao39 ++ ([g27] ++ ([g19] ++ (M))) := fun h => (o2 g4 h).elim hn7 (fun h => absurd (lt_cell (hE6 0 _ rfl)) (Nat.not_lt.2 h))
 have hE6 : ∀ j v, (cS_api_Addr a0)[j]? = some v → w46.cell? ⟨g4, 0 + j, none⟩ = some v := fun j v hv => (cell_keep hc46 o1 hn7 (hE6 j v hv))
 have hn7 := q_hn7
 have hM : MS (blkL ao39 ++ ([g27] ++ ([g19] ++ (M)))) w46 := (MS.app (fun x h => hM.chg hc46 x (ml h)) (MS.app (fun x h => hM.chg hc46 x (mr (ml h))) (MS.app (fun x h => hM.chg hc46 x (mr (mr (ml h)))) (fun x h => hM.chg hc46 x (mr (mr (mr (mr (mr (h))))))))))
 have hC := hC.trans hc46 (Ok.app (fun x h => .inr (e_i15 x h)) (fun x h => .inr (e_i12 x h)))
 refine seg ha 1 [(2, .pointer (some ⟨g4, 0, none⟩)), (5, .bool t9), (8, .pointer (some ⟨g19, 0, none⟩)), (9, .int .i64 t17.2), (10, .pointer (some ⟨g27, 0, none⟩)), (11, .int .i64 t25.2), (12, .bool t33), (13, .bool ((bstr (b2s t14)).toList == (bstr (b2s t38)).toList)), (14, .bool true)] (by kernel_rfl) fun a ha => ?_
 refine hK41 _ _ ?_; try clear hK41 K41
 refine wp_seq_k fun K47 hK47 => ?_
 refine drq0 (fun w' => Chg [] w46 w') (by kernel_rfl) (by kernel_rfl) (fun _ h => h) ?_
 obtain ⟨s48, H48, H⟩ := bind_some H
 have J48 : ∀ (a : Act) (w48 : World), Has a Tryd.f8.ntmps [(4, .bool s48)] → (Box w48 g19 (cS_api_Addr t17.1)) → (Box w48 g27 (cS_api_Addr t25.1)) → (GF w48 ([g27] ++ ([g19] ++ (M)))) → (Chg [] w w48) → (MS ([g27] ++ ([g19] ++ (M))) w48) → K47 a w48 := by
  intro a w48 ha hBg19 hBg27 hG hC hM
  refine hK47 _ _ ?_; try clear hK47 K47
  refine wp_ret ?_
  try simp only [Exit.then, Exit.inBlock]
  have o1 : Ok [] ([g27] ++ ([g19] ++ (M))) w48.heap.size := Ok.nil _ _
  have o2 : Ok (M) ([g27] ++ ([g19] ++ (M))) w48.heap.size := (fun _ h => .inl (mr (mr (h))))
  have hG := hG.chg (Chg.refl [] _) o1 o2
  have hBg19 := hBg19.chg (Chg.refl [] _) (fun h => nomatch h)
  have hBg27 := hBg27.chg (Chg.refl [] _) (fun h => nomatch h)
  have hM : MS (M) w48 := (fun x h => hM.chg (Chg.refl [] _) x (mr (mr (h))))
  have hC := hC.trans (Chg.refl [] _) (Ok.nil _ _)
  obtain rfl := Option.some.inj H
  refine rt1 ha rfl rfl ?_
  exact ⟨rfl, hC, hM⟩
 have H := H48
 refine qp 0 (.bool t9) ha rfl rfl rfl (by kernel_rfl) fun a ha => ?_
 refine qp 0 (.bool t9) ha rfl rfl rfl (by kernel_rfl) fun a ha => ?_
 have ha := ha.sel (env' := [(44, .bool t9), (2, .pointer (some ⟨g4, 0, none⟩)), (8, .pointer (some ⟨g19, 0, none⟩)), (9, .int .i64 t17.2), (10, .pointer (some ⟨g27, 0, none⟩)), (11, .int .i64 t25.2), (12, .bool t33), (13, .bool ((bstr (b2s t14)).toList == (bstr (b2s t38)).toList)), (14, .bool true)]) (by kernel_rfl)
 rcases Bool.eq_false_or_eq_true (t9) with hb49 | hb49
 ·have ha := ha.lit hb49
  have H := ite_t hb49 H
  refine qp 0 (.bool t33) ha rfl rfl rfl (by kernel_rfl) fun a ha => ?_
  refine qp 3 (.bool t33) ha rfl rfl rfl (by kernel_rfl) fun a ha => ?_
  refine qp 0 (.bool t33) ha rfl rfl rfl (by kernel_rfl) fun a ha => ?_
  have ha := ha.sel (env' := [(47, .bool t33), (2, .pointer (some ⟨g4, 0, none⟩)), (8, .pointer (some ⟨g19, 0, none⟩)), (9, .int .i64 t17.2), (10, .pointer (some ⟨g27, 0, none⟩)), (11, .int .i64 t25.2), (13, .bool ((bstr (b2s t14)).toList == (bstr (b2s t38)).toList)), (14, .bool true)]) (by kernel_rfl)
  rcases Bool.eq_false_or_eq_true (t33) with hb50 | hb50
  ·have ha := ha.lit hb50
   have H := ite_t hb50 H
   refine qp 0 (.bool ((bstr (b2s t14)).toList == (bstr (b2s t38)).toList)) ha rfl rfl rfl (by kernel_rfl) fun a ha => ?_
   refine qp 3 (.bool ((bstr (b2s t14)).toList == (bstr (b2s t38)).toList)) ha rfl rfl rfl (by kernel_rfl) fun a ha => ?_
   refine qp 0 (.bool ((bstr (b2s t14)).toList == (bstr (b2s t38)).toList)) ha rfl rfl rfl (by kernel_rfl) fun a ha => ?_
   have ha := ha.sel (env' := [(50, .bool ((bstr (b2s t14)).toList == (bstr (b2s t38)).toList)), (2, .pointer (some ⟨g4, 0, none⟩)), (8, .pointer (some ⟨g19, 0, none⟩)), (9, .int .i64 t17.2), (10, .pointer (some ⟨g27, 0, none⟩)), (11, .int .i64 t25.2), (14, .bool true)]) (by kernel_rfl)
   rcases Bool.eq_false_or_eq_true ((bstr (b2s t14)).toList == (bstr (b2s t38)).toList) with hb51 | hb51
   ·have ha := ha.lit hb51
    have H := ite_t hb51 H
    refine qp 0 (.bool true) ha rfl rfl rfl (by kernel_rfl) fun a ha => ?_
    refine qp 3 (.bool true) ha rfl rfl rfl (by kernel_rfl) fun a ha => ?_
    refine qp 0 (.bool true) ha rfl rfl rfl (by kernel_rfl) fun a ha => ?_
    refine qv (v := .agg (cS_api_Addr t17.1).toArray) ha rfl rfl rfl (fun w' hs => ldA_run (cs := (cS_api_Addr t17.1)) ha rfl (by kernel_rfl) (cells_sub (Box.cells (Box.chg hBg19 hs (fun h => nomatch h))) (all := (cS_api_Addr t17.1)) [] [] (by kernel_rfl))) fun a ha => ?_
    refine qv (v := .agg (cS_api_Addr t25.1).toArray) ha rfl rfl rfl (fun w' hs => ldA_run (cs := (cS_api_Addr t25.1)) ha rfl (by kernel_rfl) (cells_sub (Box.cells (Box.chg hBg27 hs (fun h => nomatch h))) (all := (cS_api_Addr t25.1)) [] [] (by kernel_rfl))) fun a ha => ?_
    refine qv (v := .bool ((t17.1.Size == t25.1.Size) && ((eqA 16 t17.1.B t25.1.B) && true))) ha rfl rfl rfl (fun w' hs => eqs_run (r := ((t17.1.Size == t25.1.Size) && ((eqA 16 t17.1.B t25.1.B) && true))) (m := 9) ha rfl rfl (by kernel_rfl) rfl (by kernel_rfl) w') fun a ha => ?_
    refine qp 3 (.bool ((t17.1.Size == t25.1.Size) && ((eqA 16 t17.1.B t25.1.B) && true))) ha rfl rfl rfl (by kernel_rfl) fun a ha => ?_
    refine qp 0 (.bool ((t17.1.Size == t25.1.Size) && ((eqA 16 t17.1.B t25.1.B) && true))) ha rfl rfl rfl (by kernel_rfl) fun a ha => ?_
    have ha := ha.sel (env' := [(58, .bool ((t17.1.Size == t25.1.Size) && ((eqA 16 t17.1.B t25.1.B) && true))), (2, .pointer (some ⟨g4, 0, none⟩)), (9, .int .i64 t17.2), (11, .int .i64 t25.2)]) (by kernel_rfl)
    rcases Bool.eq_false_or_eq_true (((t17.1.Size == t25.1.Size) && ((eqA 16 t17.1.B t25.1.B) && true))) with hb52 | hb52
    ·have ha := ha.lit hb52
     have H := ite_t hb52 H
     refine qp 0 (.int .i64 t17.2) ha rfl rfl rfl (by kernel_rfl) fun a ha => ?_
     refine qp 0 (.int .i64 t25.2) ha rfl rfl rfl (by kernel_rfl) fun a ha => ?_
     refine qp 0 (.bool (t17.2 == t25.2)) ha rfl rfl rfl (by kernel_rfl) fun a ha => ?_
     refine qp 3 (.bool (t17.2 == t25.2)) ha rfl rfl rfl (by kernel_rfl) fun a ha => ?_
     refine qp 0 (.bool (t17.2 == t25.2)) ha rfl rfl rfl (by kernel_rfl) fun a ha => ?_
     have ha := ha.sel (env' := [(63, .bool (t17.2 == t25.2)), (2, .pointer (some ⟨g4, 0, none⟩))]) (by kernel_rfl)
     rcases Bool.eq_false_or_eq_true (t17.2 == t25.2) with hb53 | hb53
     ·have ha := ha.lit hb53
      have H := ite_t hb53 H
      refine qv (v := .agg (cS_api_Addr a0).toArray) ha rfl rfl rfl (fun w' hs => ldA_run (cs := (cS_api_Addr a0)) ha rfl (by kernel_rfl) (cells_sub (fun j v hv => hs.keep (hE6 j v hv)) (all := (cS_api_Addr a0)) [] [] (by kernel_rfl))) fun a ha => ?_
      obtain ⟨t54, H54, H⟩ := bind_some H
      refine qc (.bool t54) ha (by rfl) (by kernel_rfl) (by rfl) (by rfl) (by rfl) (fun w' hs => (addr_Right.walk w' [] (MS.nil _) a0 k _ H54).mono fun v w'' ⟨hv, hc, _⟩ => ⟨hv, hs.trans hc (Ok.nil _ _)⟩) fun a ha => ?_
      refine qv (v := .agg (cS_api_Addr a0).toArray) ha rfl rfl rfl (fun w' hs => ldA_run (cs := (cS_api_Addr a0)) ha rfl (by kernel_rfl) (cells_sub (fun j v hv => hs.keep (hE6 j v hv)) (all := (cS_api_Addr a0)) [] [] (by kernel_rfl))) fun a ha => ?_
      obtain ⟨t55, H55, H⟩ := bind_some H
      refine qc (.bool t55) ha (by rfl) (by kernel_rfl) (by rfl) (by rfl) (by rfl) (fun w' hs => (vineryref02_Right.walk w' [] (MS.nil _) a0 k _ H55).mono fun v w'' ⟨hv, hc, _⟩ => ⟨hv, hs.trans hc (Ok.nil _ _)⟩) fun a ha => ?_
      refine qp 0 (.bool (t54 == t55)) ha rfl rfl rfl (by kernel_rfl) fun a ha => ?_
      refine qp 3 (.bool (t54 == t55)) ha rfl rfl rfl (by kernel_rfl) fun a ha => ?_
      refine qp 0 (.bool (t54 == t55)) ha rfl rfl rfl (by kernel_rfl) fun a ha => ?_
      refine wpQuiet_nil ?_
      intro w56 hc57
      have o1 : Ok [] (blkL ao39 ++ ([g27] ++ ([g19] ++ (M)))) w46.heap.size := Ok.nil _ _
      have o2 : Ok (blkL ao39 ++ ([g27] ++ ([g19] ++ (M)))) (blkL ao39 ++ ([g27] ++ ([g19] ++ (M)))) w46.heap.size := (Ok.refl _ _)
      have hG := hG.chg hc57 o1 o2
      have hBg19 := hBg19.chg hc57 (fun h => nomatch h)
      have hBg27 := hBg27.chg hc57 (fun h => nomatch h)
      have q_hn7 : g4 ∉ blkL ao39 ++ ([g27] ++ ([g19] ++ (M))) := fun h => (o2 g4 h).elim hn7 (fun h => absurd (lt_cell (hE6 0 _ rfl)) (Nat.not_lt.2 h))
      have hE6 : ∀ j v, (cS_api_Addr a0)[j]? = some v → w56.cell? ⟨g4, 0 + j, none⟩ = some v := fun j v hv => (cell_keep hc57 o1 hn7 (hE6 j v hv))
      have hn7 := q_hn7
      have hM : MS (blkL ao39 ++ ([g27] ++ ([g19] ++ (M)))) w56 := (hM.chg hc57)
      have hC := hC.trans hc57 (Ok.nil _ _)
      refine wpl_end ?_
      obtain rfl := Option.some.inj H
      have o1 : Ok [] (blkL ao39 ++ ([g27] ++ ([g19] ++ (M)))) w56.heap.size := Ok.nil _ _
      have o2 : Ok ([g27] ++ ([g19] ++ (M))) (blkL ao39 ++ ([g27] ++ ([g19] ++ (M)))) w56.heap.size := (fun _ h => .inl (mr (h)))
      have hG := hG.chg (Chg.refl [] _) o1 o2
      have hBg19 := hBg19.chg (Chg.refl [] _) (fun h => nomatch h)
      have hBg27 := hBg27.chg (Chg.refl [] _) (fun h => nomatch h)
      have hM : MS ([g27] ++ ([g19] ++ (M))) w56 := (fun x h => hM.chg (Chg.refl [] _) x (mr (h)))
      have hC := hC.trans (Chg.refl [] _) (Ok.nil _ _)
      exact J48 _ _ (ha.sel (by kernel_rfl)) hBg19 hBg27 hG hC hM
     ·have ha := ha.lit hb53
      have H := ite_f hb53 H
      refine qo ha rfl rfl rfl fun a ha => ?_
      refine qo ha rfl rfl rfl fun a ha => ?_
      refine qo ha rfl rfl rfl fun a ha => ?_
      refine qo ha rfl rfl rfl fun a ha => ?_
      refine qo ha rfl rfl rfl fun a ha => ?_
      refine qp 4 (.bool false) ha rfl rfl rfl (by kernel_rfl) fun a ha => ?_
      refine qp 0 (.bool false) ha rfl rfl rfl (by kernel_rfl) fun a ha => ?_
      refine wpQuiet_nil ?_
      intro w58 hc59
      have o1 : Ok [] (blkL ao39 ++ ([g27] ++ ([g19] ++ (M)))) w46.heap.size := Ok.nil _ _
      have o2 : Ok (blkL ao39 ++ ([g27] ++ ([g19] ++ (M)))) (blkL ao39 ++ ([g27] ++ ([g19] ++ (M)))) w46.heap.size := (Ok.refl _ _)
      have hG := hG.chg hc59 o1 o2
      have hBg19 := hBg19.chg hc59 (fun h => nomatch h)
      have hBg27 := hBg27.chg hc59 (fun h => nomatch h)
      have q_hn7 : g4 ∉ blkL ao39 ++ ([g27] ++ ([g19] ++ (M))) := fun h => (o2 g4 h).elim hn7 (fun h => absurd (lt_cell (hE6 0 _ rfl)) (Nat.not_lt.2 h))
      have hE6 : ∀ j v, (cS_api_Addr a0)[j]? = some v → w58.cell? ⟨g4, 0 + j, none⟩ = some v := fun j v hv => (cell_keep hc59 o1 hn7 (hE6 j v hv))
      have hn7 := q_hn7
      have hM : MS (blkL ao39 ++ ([g27] ++ ([g19] ++ (M)))) w58 := (hM.chg hc59)
      have hC := hC.trans hc59 (Ok.nil _ _)
      refine wpl_end ?_
      obtain rfl := Option.some.inj H
      have o1 : Ok [] (blkL ao39 ++ ([g27] ++ ([g19] ++ (M)))) w58.heap.size := Ok.nil _ _
      have o2 : Ok ([g27] ++ ([g19] ++ (M))) (blkL ao39 ++ ([g27] ++ ([g19] ++ (M)))) w58.heap.size := (fun _ h => .inl (mr (h)))
      have hG := hG.chg (Chg.refl [] _) o1 o2
      have hBg19 := hBg19.chg (Chg.refl [] _) (fun h => nomatch h)
      have hBg27 := hBg27.chg (Chg.refl [] _) (fun h => nomatch h)
      have hM : MS ([g27] ++ ([g19] ++ (M))) w58 := (fun x h => hM.chg (Chg.refl [] _) x (mr (h)))
      have hC := hC.trans (Chg.refl [] _) (Ok.nil _ _)
      exact J48 _ _ (ha.sel (by kernel_rfl)) hBg19 hBg27 hG hC hM
    ·have ha := ha.lit hb52
     have H := ite_f hb52 H
     refine qo ha rfl rfl rfl fun a ha => ?_
     refine qo ha rfl rfl rfl fun a ha => ?_
     refine qo ha rfl rfl rfl fun a ha => ?_
     refine qp 4 (.bool false) ha rfl rfl rfl (by kernel_rfl) fun a ha => ?_
     refine qp 0 (.bool false) ha rfl rfl rfl (by kernel_rfl) fun a ha => ?_
     refine qo ha rfl rfl rfl fun a ha => ?_
     refine qo ha rfl rfl rfl fun a ha => ?_
     refine qo ha rfl rfl rfl fun a ha => ?_
     refine qo ha rfl rfl rfl fun a ha => ?_
     refine qo ha rfl rfl rfl fun a ha => ?_
     refine qp 4 (.bool false) ha rfl rfl rfl (by kernel_rfl) fun a ha => ?_
     refine qp 0 (.bool false) ha rfl rfl rfl (by kernel_rfl) fun a ha => ?_
     refine wpQuiet_nil ?_
     intro w60 hc61
     have o1 : Ok [] (blkL ao39 ++ ([g27] ++ ([g19] ++ (M)))) w46.heap.size := Ok.nil _ _
     have o2 : Ok (blkL ao39 ++ ([g27] ++ ([g19] ++ (M)))) (blkL ao39 ++ ([g27] ++ ([g19] ++ (M)))) w46.heap.size := (Ok.refl _ _)
     have hG := hG.chg hc61 o1 o2
     have hBg19 := hBg19.chg hc61 (fun h => nomatch h)
     have hBg27 := hBg27.chg hc61 (fun h => nomatch h)
     have q_hn7 : g4 ∉ blkL ao39 ++ ([g27] ++ ([g19] ++ (M))) := fun h => (o2 g4 h).elim hn7 (fun h => absurd (lt_cell (hE6 0 _ rfl)) (Nat.not_lt.2 h))
     have hE6 : ∀ j v, (cS_api_Addr a0)[j]? = some v → w60.cell? ⟨g4, 0 + j, none⟩ = some v := fun j v hv => (cell_keep hc61 o1 hn7 (hE6 j v hv))
     have hn7 := q_hn7
     have hM : MS (blkL ao39 ++ ([g27] ++ ([g19] ++ (M)))) w60 := (hM.chg hc61)
     have hC := hC.trans hc61 (Ok.nil _ _)
     refine wpl_end ?_
     obtain rfl := Option.some.inj H
     have o1 : Ok [] (blkL ao39 ++ ([g27] ++ ([g19] ++ (M)))) w60.heap.size := Ok.nil _ _
     have o2 : Ok ([g27] ++ ([g19] ++ (M))) (blkL ao39 ++ ([g27] ++ ([g19] ++ (M)))) w60.heap.size := (fun _ h => .inl (mr (h)))
     have hG := hG.chg (Chg.refl [] _) o1 o2
     have hBg19 := hBg19.chg (Chg.refl [] _) (fun h => nomatch h)
     have hBg27 := hBg27.chg (Chg.refl [] _) (fun h => nomatch h)
     have hM : MS ([g27] ++ ([g19] ++ (M))) w60 := (fun x h => hM.chg (Chg.refl [] _) x (mr (h)))
     have hC := hC.trans (Chg.refl [] _) (Ok.nil _ _)
     exact J48 _ _ (ha.sel (by kernel_rfl)) hBg19 hBg27 hG hC hM
   ·have ha := ha.lit hb51
    have H := ite_f hb51 H
    refine qo ha rfl rfl rfl fun a ha => ?_
    refine qp 4 (.bool false) ha rfl rfl rfl (by kernel_rfl) fun a ha => ?_
    refine qp 0 (.bool false) ha rfl rfl rfl (by kernel_rfl) fun a ha => ?_
    refine qo ha rfl rfl rfl fun a ha => ?_
    refine qo ha rfl rfl rfl fun a ha => ?_
    refine qo ha rfl rfl rfl fun a ha => ?_
    refine qp 4 (.bool false) ha rfl rfl rfl (by kernel_rfl) fun a ha => ?_
    refine qp 0 (.bool false) ha rfl rfl rfl (by kernel_rfl) fun a ha => ?_
    refine qo ha rfl rfl rfl fun a ha => ?_
    refine qo ha rfl rfl rfl fun a ha => ?_
    refine qo ha rfl rfl rfl fun a ha => ?_
    refine qp 4 (.bool false) ha rfl rfl rfl (by kernel_rfl) fun a ha => ?_
    refine qp 0 (.bool false) ha rfl rfl rfl (by kernel_rfl) fun a ha => ?_
    refine qo ha rfl rfl rfl fun a ha => ?_
    refine qo ha rfl rfl rfl fun a ha => ?_
    refine qo ha rfl rfl rfl fun a ha => ?_
    refine qo ha rfl rfl rfl fun a ha => ?_
    refine qo ha rfl rfl rfl fun a ha => ?_
    refine qp 4 (.bool false) ha rfl rfl rfl (by kernel_rfl) fun a ha => ?_
    refine qp 0 (.bool false) ha rfl rfl rfl (by kernel_rfl) fun a ha => ?_
    refine wpQuiet_nil ?_
    intro w62 hc63
    have o1 : Ok [] (blkL ao39 ++ ([g27] ++ ([g19] ++ (M)))) w46.heap.size := Ok.nil _ _
    have o2 : Ok (blkL ao39 ++ ([g27] ++ ([g19] ++ (M)))) (blkL ao39 ++ ([g27] ++ ([g19] ++ (M)))) w46.heap.size := (Ok.refl _ _)
    have hG := hG.chg hc63 o1 o2
    have hBg19 := hBg19.chg hc63 (fun h => nomatch h)
    have hBg27 := hBg27.chg hc63 (fun h => nomatch h)
    have q_hn7 : g4 ∉ blkL ao39 ++ ([g27] ++ ([g19] ++ (M))) := fun h => (o2 g4 h).elim hn7 (fun h => absurd (lt_cell (hE6 0 _ rfl)) (Nat.not_lt.2 h))
    have hE6 : ∀ j v, (cS_api_Addr a0)[j]? = some v → w62.cell? ⟨g4, 0 + j, none⟩ = some v := fun j v hv => (cell_keep hc63 o1 hn7 (hE6 j v hv))
    have hn7 := q_hn7
    have hM : MS (blkL ao39 ++ ([g27] ++ ([g19] ++ (M)))) w62 := (hM.chg hc63)
    have hC := hC.trans hc63 (Ok.nil _ _)
    refine wpl_end ?_
    obtain rfl := Option.some.inj H
    have o1 : Ok [] (blkL ao39 ++ ([g27] ++ ([g19] ++ (M)))) w62.heap.size := Ok.nil _ _
    have o2 : Ok ([g27] ++ ([g19] ++ (M))) (blkL ao39 ++ ([g27] ++ ([g19] ++ (M)))) w62.heap.size := (fun _ h => .inl (mr (h)))
    have hG := hG.chg (Chg.refl [] _) o1 o2
    have hBg19 := hBg19.chg (Chg.refl [] _) (fun h => nomatch h)
    have hBg27 := hBg27.chg (Chg.refl [] _) (fun h => nomatch h)
    have hM : MS ([g27] ++ ([g19] ++ (M))) w62 := (fun x h => hM.chg (Chg.refl [] _) x (mr (h)))
    have hC := hC.trans (Chg.refl [] _) (Ok.nil _ _)
    exact J48 _ _ (ha.sel (by kernel_rfl)) hBg19 hBg27 hG hC hM
  ·have ha := ha.lit hb50
   have H := ite_f hb50 H
   refine qo ha rfl rfl rfl fun a ha => ?_
   refine qp 4 (.bool false) ha rfl rfl rfl (by kernel_rfl) fun a ha => ?_
   refine qp 0 (.bool false) ha rfl rfl rfl (by kernel_rfl) fun a ha => ?_
   refine qo ha rfl rfl rfl fun a ha => ?_
   refine qp 4 (.bool false) ha rfl rfl rfl (by kernel_rfl) fun a ha => ?_
   refine qp 0 (.bool false) ha rfl rfl rfl (by kernel_rfl) fun a ha => ?_
   refine qo ha rfl rfl rfl fun a ha => ?_
   refine qo ha rfl rfl rfl fun a ha => ?_
   refine qo ha rfl rfl rfl fun a ha => ?_
   refine qp 4 (.bool false) ha rfl rfl rfl (by kernel_rfl) fun a ha => ?_
   refine qp 0 (.bool false) ha rfl rfl rfl (by kernel_rfl) fun a ha => ?_
   refine qo ha rfl rfl rfl fun a ha => ?_
   refine qo ha rfl rfl rfl fun a ha => ?_
   refine qo ha rfl rfl rfl fun a ha => ?_
   refine qp 4 (.bool false) ha rfl rfl rfl (by kernel_rfl) fun a ha => ?_
   refine qp 0 (.bool false) ha rfl rfl rfl (by kernel_rfl) fun a ha => ?_
   refine qo ha rfl rfl rfl fun a ha => ?_
   refine qo ha rfl rfl rfl fun a ha => ?_
   refine qo ha rfl rfl rfl fun a ha => ?_
   refine qo ha rfl rfl rfl fun a ha => ?_
   refine qo ha rfl rfl rfl fun a ha => ?_
   refine qp 4 (.bool false) ha rfl rfl rfl (by kernel_rfl) fun a ha => ?_
   refine qp 0 (.bool false) ha rfl rfl rfl (by kernel_rfl) fun a ha => ?_
   refine wpQuiet_nil ?_
   intro w64 hc65
   have o1 : Ok [] (blkL ao39 ++ ([g27] ++ ([g19] ++ (M)))) w46.heap.size := Ok.nil _ _
   have o2 : Ok (blkL ao39 ++ ([g27] ++ ([g19] ++ (M)))) (blkL ao39 ++ ([g27] ++ ([g19] ++ (M)))) w46.heap.size := (Ok.refl _ _)
   have hG := hG.chg hc65 o1 o2
   have hBg19 := hBg19.chg hc65 (fun h => nomatch h)
   have hBg27 := hBg27.chg hc65 (fun h => nomatch h)
   have q_hn7 : g4 ∉ blkL ao39 ++ ([g27] ++ ([g19] ++ (M))) := fun h => (o2 g4 h).elim hn7 (fun h => absurd (lt_cell (hE6 0 _ rfl)) (Nat.not_lt.2 h))
   have hE6 : ∀ j v, (cS_api_Addr a0)[j]? = some v → w64.cell? ⟨g4, 0 + j, none⟩ = some v := fun j v hv => (cell_keep hc65 o1 hn7 (hE6 j v hv))
   have hn7 := q_hn7
   have hM : MS (blkL ao39 ++ ([g27] ++ ([g19] ++ (M)))) w64 := (hM.chg hc65)
   have hC := hC.trans hc65 (Ok.nil _ _)
   refine wpl_end ?_
   obtain rfl := Option.some.inj H
   have o1 : Ok [] (blkL ao39 ++ ([g27] ++ ([g19] ++ (M)))) w64.heap.size := Ok.nil _ _
   have o2 : Ok ([g27] ++ ([g19] ++ (M))) (blkL ao39 ++ ([g27] ++ ([g19] ++ (M)))) w64.heap.size := (fun _ h => .inl (mr (h)))
   have hG := hG.chg (Chg.refl [] _) o1 o2
   have hBg19 := hBg19.chg (Chg.refl [] _) (fun h => nomatch h)
   have hBg27 := hBg27.chg (Chg.refl [] _) (fun h => nomatch h)
   have hM : MS ([g27] ++ ([g19] ++ (M))) w64 := (fun x h => hM.chg (Chg.refl [] _) x (mr (h)))
   have hC := hC.trans (Chg.refl [] _) (Ok.nil _ _)
   exact J48 _ _ (ha.sel (by kernel_rfl)) hBg19 hBg27 hG hC hM
 ·have ha := ha.lit hb49
  have H := ite_f hb49 H
  refine qo ha rfl rfl rfl fun a ha => ?_
  refine qp 4 (.bool false) ha rfl rfl rfl (by kernel_rfl) fun a ha => ?_
  refine qp 0 (.bool false) ha rfl rfl rfl (by kernel_rfl) fun a ha => ?_
  refine qo ha rfl rfl rfl fun a ha => ?_
  refine qp 4 (.bool false) ha rfl rfl rfl (by kernel_rfl) fun a ha => ?_
  refine qp 0 (.bool false) ha rfl rfl rfl (by kernel_rfl) fun a ha => ?_
  refine qo ha rfl rfl rfl fun a ha => ?_
  refine qp 4 (.bool false) ha rfl rfl rfl (by kernel_rfl) fun a ha => ?_
  refine qp 0 (.bool false) ha rfl rfl rfl (by kernel_rfl) fun a ha => ?_
  refine qo ha rfl rfl rfl fun a ha => ?_
  refine qo ha rfl rfl rfl fun a ha => ?_
  refine qo ha rfl rfl rfl fun a ha => ?_
  refine qp 4 (.bool false) ha rfl rfl rfl (by kernel_rfl) fun a ha => ?_
  refine qp 0 (.bool false) ha rfl rfl rfl (by kernel_rfl) fun a ha => ?_
  refine qo ha rfl rfl rfl fun a ha => ?_
  refine qo ha rfl rfl rfl fun a ha => ?_
  refine qo ha rfl rfl rfl fun a ha => ?_
  refine qp 4 (.bool false) ha rfl rfl rfl (by kernel_rfl) fun a ha => ?_
  refine qp 0 (.bool false) ha rfl rfl rfl (by kernel_rfl) fun a ha => ?_
  refine qo ha rfl rfl rfl fun a ha => ?_
  refine qo ha rfl rfl rfl fun a ha => ?_
  refine qo ha rfl rfl rfl fun a ha => ?_
  refine qo ha rfl rfl rfl fun a ha => ?_
  refine qo ha rfl rfl rfl fun a ha => ?_
  refine qp 4 (.bool false) ha rfl rfl rfl (by kernel_rfl) fun a ha => ?_
  refine qp 0 (.bool false) ha rfl rfl rfl (by kernel_rfl) fun a ha => ?_
  refine wpQuiet_nil ?_
  intro w66 hc67
  have o1 : Ok [] (blkL ao39 ++ ([g27] ++ ([g19] ++ (M)))) w46.heap.size := Ok.nil _ _
  have o2 : Ok (blkL ao39 ++ ([g27] ++ ([g19] ++ (M)))) (blkL ao39 ++ ([g27] ++ ([g19] ++ (M)))) w46.heap.size := (Ok.refl _ _)
  have hG := hG.chg hc67 o1 o2
  have hBg19 := hBg19.chg hc67 (fun h => nomatch h)
  have hBg27 := hBg27.chg hc67 (fun h => nomatch h)
  have q_hn7 : g4 ∉ blkL ao39 ++ ([g27] ++ ([g19] ++ (M))) := fun h => (o2 g4 h).elim hn7 (fun h => absurd (lt_cell (hE6 0 _ rfl)) (Nat.not_lt.2 h))
  have hE6 : ∀ j v, (cS_api_Addr a0)[j]? = some v → w66.cell? ⟨g4, 0 + j, none⟩ = some v := fun j v hv => (cell_keep hc67 o1 hn7 (hE6 j v hv))
  have hn7 := q_hn7
  have hM : MS (blkL ao39 ++ ([g27] ++ ([g19] ++ (M)))) w66 := (hM.chg hc67)
  have hC := hC.trans hc67 (Ok.nil _ _)
  refine wpl_end ?_
  obtain rfl := Option.some.inj H
  have o1 : Ok [] (blkL ao39 ++ ([g27] ++ ([g19] ++ (M)))) w66.heap.size := Ok.nil _ _
  have o2 : Ok ([g27] ++ ([g19] ++ (M))) (blkL ao39 ++ ([g27] ++ ([g19] ++ (M)))) w66.heap.size := (fun _ h => .inl (mr (h)))
  have hG := hG.chg (Chg.refl [] _) o1 o2
  have hBg19 := hBg19.chg (Chg.refl [] _) (fun h => nomatch h)
  have hBg27 := hBg27.chg (Chg.refl [] _) (fun h => nomatch h)
  have hM : MS ([g27] ++ ([g19] ++ (M))) w66 := (fun x h => hM.chg (Chg.refl [] _) x (mr (h)))
  have hC := hC.trans (Chg.refl [] _) (Ok.nil _ _)
  exact J48 _ _ (ha.sel (by kernel_rfl)) hBg19 hBg27 hG hC hM
end Go.E
