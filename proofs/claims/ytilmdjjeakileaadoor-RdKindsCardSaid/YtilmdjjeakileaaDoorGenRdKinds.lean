/- What the functions that the law reaches compute, and the walks that show it. -/
import Derived.Test.YtilmdjjeakileaaDoorEngU
import Derived.Test.YtilmdjjeakileaaDoorShelf
import Derived.Test.YtilmdjjeakileaaDoorProg
import Derived.Test.YtilmdjjeakileaaDoorGenRdKindsP1
set_option linter.unusedVariables false
set_option linter.unusedSimpArgs false
namespace Go.E
open Go.RowKit Go.Proofs
def rd_Parse.f (k : Nat) (a0 : List UInt8) : Option (List Int × Int) := (strings_Split.f a0 ([58] : List UInt8)).bind fun t7 => (if ((t7.length : Int) == (2 : Int)) = true then (if 0 ≤ (1 : Int) ∧ (1 : Int) < (t7.length : Int) then (rd_strange.f k (rd t7 (1 : Int))).bind fun t21 => (rd_Text.f k t21).bind fun t26 => (if (!((bstr t26).toList == (bstr a0).toList)) = true then some ((([(0 : Int), (0 : Int), (0 : Int), (0 : Int), (0 : Int), (0 : Int), (0 : Int), (0 : Int)] : List Int) : List Int), ((4 : Int) : Int)) else some ((t21 : List Int), ((0 : Int) : Int))) else none) else (if ((t7.length : Int) == (3 : Int)) = true then (if 0 ≤ (0 : Int) ∧ (0 : Int) < (t7.length : Int) then (if 0 ≤ (1 : Int) ∧ (1 : Int) < (t7.length : Int) then (if 0 ≤ (2 : Int) ∧ (2 : Int) < (t7.length : Int) then (rd_known.f k (rd t7 (0 : Int)) (rd t7 (1 : Int)) (rd t7 (2 : Int))).bind fun t60 => ((if (!t60.2) = true then some (true : Bool) else (rd_Text.f k t60.1).bind fun t75 => some (!((bstr t75).toList == (bstr a0).toList) : Bool))).bind fun s66 => (if s66 = true then some ((([(0 : Int), (0 : Int), (0 : Int), (0 : Int), (0 : Int), (0 : Int), (0 : Int), (0 : Int)] : List Int) : List Int), ((4 : Int) : Int)) else some ((t60.1 : List Int), ((0 : Int) : Int))) else none) else none) else none) else some ((([(0 : Int), (0 : Int), (0 : Int), (0 : Int), (0 : Int), (0 : Int), (0 : Int), (0 : Int)] : List Int) : List Int), ((4 : Int) : Int))))
set_option maxRecDepth 100000 in
theorem rd_Parse.walk (w : World) (M : List Nat) (hM : MS M w) (hG : GF w M) (a0 : List UInt8) (k : Nat) (r : List Int × Int) (H : rd_Parse.f k a0 = some r) :
    To Tryd.prog 8 [.string (bstr a0)] w fun v w' => v = .tuple #[.agg (cA .u8 8 r.1).toArray, .int .i64 r.2] ∧ Chg [] w w' ∧ MS (M) w' := by
 unfold rd_Parse.f at H
 refine ent Tryd.func8 rfl [(0, .string (bstr a0))] rfl (by rfl) fun a ha => ?_
 have hC : Chg [] w w := Chg.refl _ _
 refine wp_seq_k fun K1 hK1 => ?_
 refine wp_region_lit ?_
 refine al (cs := (cA .u8 8 (List.replicate 8 (0 : Int)))) (z := .agg (cA .u8 8 (List.replicate 8 (0 : Int))).toArray) ha (fun w => by kernel_rfl) rfl rfl rfl rfl fun a w2 g3 hN4 ha => ?_
 have o1 : Ok [] (M) w.heap.size := Ok.nil _ _
 have o2 : Ok ([g3] ++ (M)) (M) w.heap.size := (Ok.app (hN4.ok _) (Ok.refl _ _))
 have hG := hG.chg hN4.chg o1 o2
 have p_i5_M : ∀ x ∈ [g3], x ∉ M := fun x hx hy => absurd (hM x (hy)) (Nat.not_lt.2 ((hN4.ge1) x hx))
 have e_i5 : ∀ x ∈ [g3], w.heap.size ≤ x := fun x hx => Nat.le_trans hC.size ((hN4.ge1) x hx)
 have hM : MS ([g3] ++ (M)) w2 := (MS.app hN4.ms (hM.chg hN4.chg))
 have hC := hC.trans hN4.chg (Ok.nil _ _)
 have hBg3 : Box w2 g3 (cA .u8 8 (List.replicate 8 (0 : Int))) := hN4.box
 refine seg ha 1 [(0, .string (bstr a0)), (2, .pointer (some ⟨g3, 0, none⟩))] (by kernel_rfl) fun a ha => ?_
 refine hK1 _ _ ?_; try clear hK1 K1
 refine wp_seq_k fun K6 hK6 => ?_
 refine wp_region_lit ?_
 refine seg ha 1 [(0, .string (bstr a0)), (2, .pointer (some ⟨g3, 0, none⟩)), (6, .string (bstr a0))] (by kernel_rfl) fun a ha => ?_
 obtain ⟨t7, H7, H⟩ := bind_some H
 refine cl ha (by rfl) (by kernel_rfl) (by rfl) (by rfl) (by rfl) (strings_Split.walk w2 _ hM hG a0 ([58] : List UInt8) _ H7) ?_
 rintro _ w7 ⟨ao8, cap8, rfl, f8, ne_i8, hc7, hMn⟩ a ha
 have o1 : Ok [] ([g3] ++ (M)) w2.heap.size := Ok.nil _ _
 have o2 : Ok (blkL ao8 ++ ([g3] ++ (M))) ([g3] ++ (M)) w2.heap.size := (Ok.app (fun x h => .inr (ne_i8 x h)) (Ok.refl _ _))
 have hG := hG.chg hc7 o1 o2
 have hBg3 := hBg3.chg hc7 (fun h => nomatch h)
 have p_i8_i5 : ∀ x ∈ blkL ao8, x ∉ ([g3]) := fun x hx hy => absurd (hM x (ml hy)) (Nat.not_lt.2 (ne_i8 x hx))
 have p_i8_M : ∀ x ∈ blkL ao8, x ∉ M := fun x hx hy => absurd (hM x (mr (hy))) (Nat.not_lt.2 (ne_i8 x hx))
 have e_i8 : ∀ x ∈ blkL ao8, w.heap.size ≤ x := fun x hx => Nat.le_trans hC.size (ne_i8 x hx)
 have hM : MS (blkL ao8 ++ ([g3] ++ (M))) w7 := (MS.app (fun x h => hMn x (ml h)) (hM.chg hc7))
 have hC := hC.trans hc7 (Ok.nil _ _)
 refine seg ha 1 [(0, .string (bstr a0)), (2, .pointer (some ⟨g3, 0, none⟩)), (4, .slice ao8 t7.length cap8)] (by kernel_rfl) fun a ha => ?_
 refine hK6 _ _ ?_; try clear hK6 K6
 refine wp_seq_k fun K9 hK9 => ?_
 refine wp_region_lit ?_
 refine seg ha 1 [(0, .string (bstr a0)), (2, .pointer (some ⟨g3, 0, none⟩)), (4, .slice ao8 t7.length cap8), (5, .bool true)] (by kernel_rfl) fun a ha => ?_
 refine hK9 _ _ ?_; try clear hK9 K9
 refine wp_seq_k fun K10 hK10 => ?_
 refine wp_seq_k fun K11 hK11 => ?_
 refine wp_region_lit ?_
 refine seg ha 2 [(0, .string (bstr a0)), (2, .pointer (some ⟨g3, 0, none⟩)), (4, .slice ao8 t7.length cap8), (5, .bool true), (9, .int .i64 (t7.length : Int))] (by kernel_rfl) fun a ha => ?_
 refine hK11 _ _ ?_; try clear hK11 K11
 refine wp_block ?_
 refine wp_seq_k fun K12 hK12 => ?_
 refine wp_region_lit ?_
 refine seg ha 2 [(0, .string (bstr a0)), (2, .pointer (some ⟨g3, 0, none⟩)), (4, .slice ao8 t7.length cap8), (5, .bool true), (9, .int .i64 (t7.length : Int)), (10, .bool ((t7.length : Int) == (2 : Int)))] (by kernel_rfl) fun a ha => ?_
 refine hK12 _ _ ?_; try clear hK12 K12
 refine cnd ha rfl (fun hc13 => ?_) (fun hc13 => ?_)
 ·have H := ite_t hc13 H
  refine wp_region_lit ?_
  refine seg ha 1 [(0, .string (bstr a0)), (2, .pointer (some ⟨g3, 0, none⟩)), (5, .bool true), (12, .slice ao8 t7.length cap8)] (by kernel_rfl) fun a ha => ?_
  obtain ⟨⟨hx14, hx14'⟩, H⟩ := ite_some H
  refine ix (r := rStr) ha (by kernel_rfl) (by kernel_rfl) rfl rfl rfl rfl rfl (Own.toRSl (M' := []) f8 (Ok.nil _ _) (fun _ _ h => nomatch h)) hx14 hx14' fun a ge15 oe16 cs17 hn20 hR18 hE19 ha => ?_
  rw [rd_get] at hR18
  obtain rfl := hR18
  have hE19 : ∀ j v, ([.string (bstr (rd t7 (1 : Int)))] : List Value)[j]? = some v → w7.cell? ⟨ge15, oe16 + j, none⟩ = some v := hE19
  refine ld ha rfl (by kernel_rfl) rfl rfl rfl (hE19 0 (.string (bstr (rd t7 (1 : Int)))) (by kernel_rfl)) fun a ha => ?_
  obtain ⟨t21, H21, H⟩ := bind_some H
  refine cl ha (by rfl) (by kernel_rfl) (by rfl) (by rfl) (by rfl) (rd_strange.walk w7 _ hM (rd t7 (1 : Int)) k _ H21) ?_
  rintro _ w21 ⟨rfl, hc21, hMn⟩ a ha
  have o1 : Ok [] (blkL ao8 ++ ([g3] ++ (M))) w7.heap.size := Ok.nil _ _
  have o2 : Ok (blkL ao8 ++ ([g3] ++ (M))) (blkL ao8 ++ ([g3] ++ (M))) w7.heap.size := (Ok.refl _ _)
  have hG := hG.chg hc21 o1 o2
  have hBg3 := hBg3.chg hc21 (fun h => nomatch h)
  have hM : MS (blkL ao8 ++ ([g3] ++ (M))) w21 := (hM.chg hc21)
  have hC := hC.trans hc21 (Ok.nil _ _)
  refine stA (l := (cA .u8 8 t21)) ha rfl rfl rfl (by kernel_rfl) rfl rfl hBg3 rfl fun a w22 ha hb2 hc23 _ => ?_
  have o1 : Ok [g3] (blkL ao8 ++ ([g3] ++ (M))) w21.heap.size := (fun _ h => .inl (mr (ml h)))
  have o2 : Ok (blkL ao8 ++ ([g3] ++ (M))) (blkL ao8 ++ ([g3] ++ (M))) w21.heap.size := (Ok.refl _ _)
  have hG := hG.chg hc23 o1 o2
  have hM : MS (blkL ao8 ++ ([g3] ++ (M))) w22 := (hM.chg hc23)
  have hC := hC.trans hc23 (fun x h => .inr (e_i5 x h))
  have hBg3 : Box w22 g3 (cA .u8 8 t21) := hb2
  refine hK10 _ _ ?_; try clear hK10 K10
  refine wp_seq_k fun K24 hK24 => ?_
  refine wp_seq_k fun K25 hK25 => ?_
  refine wp_region_lit ?_
  refine seg ha 3 [(0, .string (bstr a0)), (2, .pointer (some ⟨g3, 0, none⟩)), (33, .bool false)] (by kernel_rfl) fun a ha => ?_
  refine ldA (cs := (cA .u8 8 t21)) ha rfl (by kernel_rfl) rfl rfl rfl (cells_sub (Box.cells hBg3) (all := (cA .u8 8 t21)) [] [] (by kernel_rfl)) fun a ha => ?_
  obtain ⟨t26, H26, H⟩ := bind_some H
  refine cl ha (by rfl) (by kernel_rfl) (by rfl) (by rfl) (by rfl) (rd_Text.walk w22 _ hM hG t21 k _ H26) ?_
  rintro _ w26 ⟨rfl, hc26, hMn⟩ a ha
  have o1 : Ok [] (blkL ao8 ++ ([g3] ++ (M))) w22.heap.size := Ok.nil _ _
  have o2 : Ok (blkL ao8 ++ ([g3] ++ (M))) (blkL ao8 ++ ([g3] ++ (M))) w22.heap.size := (Ok.refl _ _)
  have hG := hG.chg hc26 o1 o2
  have hBg3 := hBg3.chg hc26 (fun h => nomatch h)
  have hM : MS (blkL ao8 ++ ([g3] ++ (M))) w26 := (hM.chg hc26)
  have hC := hC.trans hc26 (Ok.nil _ _)
  refine sgh ha 3 [2, 2, 4] [(2, .pointer (some ⟨g3, 0, none⟩)), (38, .bool (!((bstr t26).toList == (bstr a0).toList)))] (by kernel_rfl) fun a ha => ?_
  refine hK25 _ _ ?_; try clear hK25 K25
  refine cnd ha rfl (fun hc27 => ?_) (fun hc27 => ?_)
  ·have H := ite_t hc27 H
   refine wp_seq_k fun K28 hK28 => ?_
   refine wp_region_lit ?_
   refine opk (v := .agg (cA .u8 8 ([(0 : Int), (0 : Int), (0 : Int), (0 : Int), (0 : Int), (0 : Int), (0 : Int), (0 : Int)] : List Int)).toArray) ha rfl rfl rfl rfl rfl (fun w => by kernel_rfl) fun a ha => ?_
   refine stA (l := (cA .u8 8 ([(0 : Int), (0 : Int), (0 : Int), (0 : Int), (0 : Int), (0 : Int), (0 : Int), (0 : Int)] : List Int))) ha rfl rfl rfl (by kernel_rfl) rfl rfl hBg3 rfl fun a w29 ha hb2 hc30 _ => ?_
   have o1 : Ok [g3] (blkL ao8 ++ ([g3] ++ (M))) w26.heap.size := (fun _ h => .inl (mr (ml h)))
   have o2 : Ok (blkL ao8 ++ ([g3] ++ (M))) (blkL ao8 ++ ([g3] ++ (M))) w26.heap.size := (Ok.refl _ _)
   have hG := hG.chg hc30 o1 o2
   have hM : MS (blkL ao8 ++ ([g3] ++ (M))) w29 := (hM.chg hc30)
   have hC := hC.trans hc30 (fun x h => .inr (e_i5 x h))
   have hBg3 : Box w29 g3 (cA .u8 8 ([(0 : Int), (0 : Int), (0 : Int), (0 : Int), (0 : Int), (0 : Int), (0 : Int), (0 : Int)] : List Int)) := hb2
   refine seg ha 1 [(2, .pointer (some ⟨g3, 0, none⟩)), (3, .int .i64 (4 : Int))] (by kernel_rfl) fun a ha => ?_
   refine hK28 _ _ ?_; try clear hK28 K28
   refine wp_ret ?_
   try simp only [Exit.then, Exit.inBlock]
   have o1 : Ok [] (blkL ao8 ++ ([g3] ++ (M))) w29.heap.size := Ok.nil _ _
   have o2 : Ok (M) (blkL ao8 ++ ([g3] ++ (M))) w29.heap.size := (fun _ h => .inl (mr (mr (h))))
   have hG := hG.chg (Chg.refl [] _) o1 o2
   have hBg3 := hBg3.chg (Chg.refl [] _) (fun h => nomatch h)
   have hM : MS (M) w29 := (fun x h => hM.chg (Chg.refl [] _) x (mr (mr (h))))
   have hC := hC.trans (Chg.refl [] _) (Ok.nil _ _)
   obtain rfl := Option.some.inj H
   refine rtr ha (res2 rfl (roA ha rfl hBg3 (by kernel_rfl)) (roT ha rfl)) ?_
   exact ⟨rfl, hC, hM⟩
  ·have H := ite_f hc27 H
   refine wp_skip ?_
   refine hK24 _ _ ?_; try clear hK24 K24
   refine wp_seq_k fun K31 hK31 => ?_
   refine wp_region_lit ?_
   refine ldA (cs := (cA .u8 8 t21)) ha rfl (by kernel_rfl) rfl rfl rfl (cells_sub (Box.cells hBg3) (all := (cA .u8 8 t21)) [] [] (by kernel_rfl)) fun a ha => ?_
   refine stA (l := (cA .u8 8 t21)) ha rfl rfl rfl (by kernel_rfl) rfl rfl hBg3 rfl fun a w32 ha hb2 hc33 _ => ?_
   have o1 : Ok [g3] (blkL ao8 ++ ([g3] ++ (M))) w26.heap.size := (fun _ h => .inl (mr (ml h)))
   have o2 : Ok (blkL ao8 ++ ([g3] ++ (M))) (blkL ao8 ++ ([g3] ++ (M))) w26.heap.size := (Ok.refl _ _)
   have hG := hG.chg hc33 o1 o2
   have hM : MS (blkL ao8 ++ ([g3] ++ (M))) w32 := (hM.chg hc33)
   have hC := hC.trans hc33 (fun x h => .inr (e_i5 x h))
   have hBg3 : Box w32 g3 (cA .u8 8 t21) := hb2
   refine seg ha 1 [(2, .pointer (some ⟨g3, 0, none⟩)), (3, .int .i64 (0 : Int))] (by kernel_rfl) fun a ha => ?_
   refine hK31 _ _ ?_; try clear hK31 K31
   refine wp_ret ?_
   try simp only [Exit.then, Exit.inBlock]
   have o1 : Ok [] (blkL ao8 ++ ([g3] ++ (M))) w32.heap.size := Ok.nil _ _
   have o2 : Ok (M) (blkL ao8 ++ ([g3] ++ (M))) w32.heap.size := (fun _ h => .inl (mr (mr (h))))
   have hG := hG.chg (Chg.refl [] _) o1 o2
   have hBg3 := hBg3.chg (Chg.refl [] _) (fun h => nomatch h)
   have hM : MS (M) w32 := (fun x h => hM.chg (Chg.refl [] _) x (mr (mr (h))))
   have hC := hC.trans (Chg.refl [] _) (Ok.nil _ _)
   obtain rfl := Option.some.inj H
   refine rtr ha (res2 rfl (roA ha rfl hBg3 (by kernel_rfl)) (roT ha rfl)) ?_
   exact ⟨rfl, hC, hM⟩
 ·have H := ite_f hc13 H
  refine wp_seq_k fun K34 hK34 => ?_
  refine wp_region_lit ?_
  refine seg ha 2 [(0, .string (bstr a0)), (2, .pointer (some ⟨g3, 0, none⟩)), (4, .slice ao8 t7.length cap8), (16, .bool ((t7.length : Int) == (3 : Int)))] (by kernel_rfl) fun a ha => ?_
  refine hK34 _ _ ?_; try clear hK34 K34
  refine cnd ha rfl (fun hc35 => ?_) (fun hc35 => ?_)
  ·have H := ite_t hc35 H
   have okS : Ok ([g3]) (blkL ao8 ++ ([g3] ++ (M))) w7.heap.size := (fun _ h => .inl (mr (ml h)))
   have z_f8 := Own.toRSl (M' := ([g3])) f8 okS p_i8_i5
   refine drw (fun w' => Chg ([g3]) w7 w') (by kernel_rfl) fun w36 hc37 _ => ?_
   have hS : Chg ([g3]) w7 w36 := (Chg.refl ([g3]) _).trans hc37 (Ok.nil _ _)
   have o1 : Ok [] (blkL ao8 ++ ([g3] ++ (M))) w7.heap.size := Ok.nil _ _
   have o2 : Ok (blkL ao8 ++ ([g3] ++ (M))) (blkL ao8 ++ ([g3] ++ (M))) w7.heap.size := (Ok.refl _ _)
   have hG := hG.chg hc37 o1 o2
   have f8 := f8.chg hc37 o1 o2 (fun _ _ h => nomatch h) (fun _ h => ml h)
   have hBg3 := hBg3.chg hc37 (fun h => nomatch h)
   have hM : MS (blkL ao8 ++ ([g3] ++ (M))) w36 := (hM.chg hc37)
   have hC := hC.trans hc37 (Ok.nil _ _)
   refine tkpz 0 0 (.slice ao8 t7.length cap8) ha (s := hS) (q := fun a ha => ?_)
   obtain ⟨⟨hx38, hx38'⟩, H⟩ := ite_some H
   obtain ⟨ge39, oe400, cs41, hx38eq, hn44, hR42, hE43⟩ := RSl.elem z_f8 (Int.toNat (0 : Int)) (by omega)
   rw [rd_get] at hR42
   obtain rfl := hR42
   have hE43 : ∀ j v, ([.string (bstr (rd t7 (0 : Int)))] : List Value)[j]? = some v → w7.cell? ⟨ge39, (oe400 + (Int.toNat (0 : Int)) * rStr.sz) + j, none⟩ = some v := hE43
   refine tkz 1 ha (v := .pointer (some ⟨ge39, (oe400 + (Int.toNat (0 : Int)) * rStr.sz), none⟩)) (y := fun w' _ => ix_run (r := rStr) (T := 9) ha (by kernel_rfl) (by kernel_rfl) (by rfl) (by rfl) hx38eq hx38 hx38') (s := hS) (q := fun a ha => ?_)
   refine tkz 2 ha (v := .string (bstr (rd t7 (0 : Int)))) (y := fun w' hs => ld_run ha rfl (by kernel_rfl) (cell_keep hs (Ok.refl _ _) hn44 (hE43 0 (.string (bstr (rd t7 (0 : Int)))) (by kernel_rfl)))) (s := hS) (q := fun a ha => ?_)
   refine tkpz 3 0 (.slice ao8 t7.length cap8) ha (s := hS) (q := fun a ha => ?_)
   obtain ⟨⟨hx45, hx45'⟩, H⟩ := ite_some H
   obtain ⟨ge46, oe470, cs48, hx45eq, hn51, hR49, hE50⟩ := RSl.elem z_f8 (Int.toNat (1 : Int)) (by omega)
   rw [rd_get] at hR49
   obtain rfl := hR49
   have hE50 : ∀ j v, ([.string (bstr (rd t7 (1 : Int)))] : List Value)[j]? = some v → w7.cell? ⟨ge46, (oe470 + (Int.toNat (1 : Int)) * rStr.sz) + j, none⟩ = some v := hE50
   refine tkz 4 ha (v := .pointer (some ⟨ge46, (oe470 + (Int.toNat (1 : Int)) * rStr.sz), none⟩)) (y := fun w' _ => ix_run (r := rStr) (T := 9) ha (by kernel_rfl) (by kernel_rfl) (by rfl) (by rfl) hx45eq hx45 hx45') (s := hS) (q := fun a ha => ?_)
   refine tkz 5 ha (v := .string (bstr (rd t7 (1 : Int)))) (y := fun w' hs => ld_run ha rfl (by kernel_rfl) (cell_keep hs (Ok.refl _ _) hn51 (hE50 0 (.string (bstr (rd t7 (1 : Int)))) (by kernel_rfl)))) (s := hS) (q := fun a ha => ?_)
   refine tkpz 6 0 (.slice ao8 t7.length cap8) ha (s := hS) (q := fun a ha => ?_)
   obtain ⟨⟨hx52, hx52'⟩, H⟩ := ite_some H
   obtain ⟨ge53, oe540, cs55, hx52eq, hn58, hR56, hE57⟩ := RSl.elem z_f8 (Int.toNat (2 : Int)) (by omega)
   rw [rd_get] at hR56
   obtain rfl := hR56
   have hE57 : ∀ j v, ([.string (bstr (rd t7 (2 : Int)))] : List Value)[j]? = some v → w7.cell? ⟨ge53, (oe540 + (Int.toNat (2 : Int)) * rStr.sz) + j, none⟩ = some v := hE57
   refine tkz 7 ha (v := .pointer (some ⟨ge53, (oe540 + (Int.toNat (2 : Int)) * rStr.sz), none⟩)) (y := fun w' _ => ix_run (r := rStr) (T := 9) ha (by kernel_rfl) (by kernel_rfl) (by rfl) (by rfl) hx52eq hx52 hx52') (s := hS) (q := fun a ha => ?_)
   refine tkz 8 ha (v := .string (bstr (rd t7 (2 : Int)))) (y := fun w' hs => ld_run ha rfl (by kernel_rfl) (cell_keep hs (Ok.refl _ _) hn58 (hE57 0 (.string (bstr (rd t7 (2 : Int)))) (by kernel_rfl)))) (s := hS) (q := fun a ha => ?_)
   refine ac 9 (by kernel_rfl) (by rfl) fun K59 hK59 => ?_
   obtain ⟨t60, H60, H⟩ := bind_some H
   refine cl ha (by rfl) (by kernel_rfl) (by rfl) (by rfl) (by rfl) (rd_known.walk w36 _ hM hG (rd t7 (0 : Int)) (rd t7 (1 : Int)) (rd t7 (2 : Int)) k _ H60) ?_
   rintro _ w60 ⟨rfl, hc60, hMn⟩ a ha
   have o1 : Ok [] (blkL ao8 ++ ([g3] ++ (M))) w36.heap.size := Ok.nil _ _
   have o2 : Ok (blkL ao8 ++ ([g3] ++ (M))) (blkL ao8 ++ ([g3] ++ (M))) w36.heap.size := (Ok.refl _ _)
   have hG := hG.chg hc60 o1 o2
   have f8 := f8.chg hc60 o1 o2 (fun _ _ h => nomatch h) (fun _ h => ml h)
   have hBg3 := hBg3.chg hc60 (fun h => nomatch h)
   have hM : MS (blkL ao8 ++ ([g3] ++ (M))) w60 := (hM.chg hc60)
   have hC := hC.trans hc60 (Ok.nil _ _)
   have hS := hS.trans hc60 (Ok.nil _ _)
   refine ae hK59 hS ?_; clear hK59 K59
   refine tkpz 10 0 (.tuple #[.agg (cA .u8 8 t60.1).toArray, .bool t60.2]) ha (s := hS) (q := fun a ha => ?_)
   refine tkpz 11 0 (.agg (cA .u8 8 t60.1).toArray) ha (s := hS) (q := fun a ha => ?_)
   refine tkpz 12 0 (.bool t60.2) ha (s := hS) (q := fun a ha => ?_)
   refine ac 13 (by kernel_rfl) (by rfl) fun K61 hK61 => ?_
   refine stA (l := (cA .u8 8 t60.1)) ha rfl rfl rfl (by kernel_rfl) rfl rfl hBg3 rfl fun a w62 ha hb2 hc63 _ => ?_
   have o1 : Ok [g3] (blkL ao8 ++ ([g3] ++ (M))) w60.heap.size := (fun _ h => .inl (mr (ml h)))
   have o2 : Ok (blkL ao8 ++ ([g3] ++ (M))) (blkL ao8 ++ ([g3] ++ (M))) w60.heap.size := (Ok.refl _ _)
   have hG := hG.chg hc63 o1 o2
   have f8 := f8.chg hc63 o1 o2 p_i8_i5 (fun _ h => ml h)
   have hM : MS (blkL ao8 ++ ([g3] ++ (M))) w62 := (hM.chg hc63)
   have hC := hC.trans hc63 (fun x h => .inr (e_i5 x h))
   have hS := hS.trans hc63 (fun x h => .inl (h))
   have hBg3 : Box w62 g3 (cA .u8 8 t60.1) := hb2
   refine ae hK61 hS ?_; clear hK61 K61
   refine tkpz 14 0 (.bool t60.2) ha (s := hS) (q := fun a ha => ?_)
   refine dn (by kernel_rfl) ?_
   refine hK10 _ _ ?_; try clear hK10 K10
   refine wp_seq_k fun K64 hK64 => ?_
   refine wp_seq_k fun K65 hK65 => ?_
   refine wp_region_lit ?_
   obtain ⟨s66, H66, H⟩ := bind_some H
   have J66 : ∀ (a : Act) (w66 : World), Has a Tryd.f8.ntmps [(2, .pointer (some ⟨g3, 0, none⟩)), (38, .bool s66)] → (Box w66 g3 (cA .u8 8 t60.1)) → (GF w66 ([g3] ++ (M))) → (Chg [] w w66) → (MS ([g3] ++ (M)) w66) → K65 a w66 := by
    intro a w66 ha hBg3 hG hC hM
    refine hK65 _ _ ?_; try clear hK65 K65
    refine cnd ha rfl (fun hc67 => ?_) (fun hc67 => ?_)
    ·have H := ite_t hc67 H
     refine wp_seq_k fun K68 hK68 => ?_
     refine wp_region_lit ?_
     refine opk (v := .agg (cA .u8 8 ([(0 : Int), (0 : Int), (0 : Int), (0 : Int), (0 : Int), (0 : Int), (0 : Int), (0 : Int)] : List Int)).toArray) ha rfl rfl rfl rfl rfl (fun w => by kernel_rfl) fun a ha => ?_
     refine stA (l := (cA .u8 8 ([(0 : Int), (0 : Int), (0 : Int), (0 : Int), (0 : Int), (0 : Int), (0 : Int), (0 : Int)] : List Int))) ha rfl rfl rfl (by kernel_rfl) rfl rfl hBg3 rfl fun a w69 ha hb2 hc70 _ => ?_
     have o1 : Ok [g3] ([g3] ++ (M)) w66.heap.size := (fun _ h => .inl (ml h))
     have o2 : Ok ([g3] ++ (M)) ([g3] ++ (M)) w66.heap.size := (Ok.refl _ _)
     have hG := hG.chg hc70 o1 o2
     have hM : MS ([g3] ++ (M)) w69 := (hM.chg hc70)
     have hC := hC.trans hc70 (fun x h => .inr (e_i5 x h))
     have hBg3 : Box w69 g3 (cA .u8 8 ([(0 : Int), (0 : Int), (0 : Int), (0 : Int), (0 : Int), (0 : Int), (0 : Int), (0 : Int)] : List Int)) := hb2
     refine seg ha 1 [(2, .pointer (some ⟨g3, 0, none⟩)), (3, .int .i64 (4 : Int))] (by kernel_rfl) fun a ha => ?_
     refine hK68 _ _ ?_; try clear hK68 K68
     refine wp_ret ?_
     try simp only [Exit.then, Exit.inBlock]
     have o1 : Ok [] ([g3] ++ (M)) w69.heap.size := Ok.nil _ _
     have o2 : Ok (M) ([g3] ++ (M)) w69.heap.size := (fun _ h => .inl (mr (h)))
     have hG := hG.chg (Chg.refl [] _) o1 o2
     have hBg3 := hBg3.chg (Chg.refl [] _) (fun h => nomatch h)
     have hM : MS (M) w69 := (fun x h => hM.chg (Chg.refl [] _) x (mr (h)))
     have hC := hC.trans (Chg.refl [] _) (Ok.nil _ _)
     obtain rfl := Option.some.inj H
     refine rtr ha (res2 rfl (roA ha rfl hBg3 (by kernel_rfl)) (roT ha rfl)) ?_
     exact ⟨rfl, hC, hM⟩
    ·have H := ite_f hc67 H
     refine wp_skip ?_
     refine hK64 _ _ ?_; try clear hK64 K64
     refine wp_seq_k fun K71 hK71 => ?_
     refine wp_region_lit ?_
     refine ldA (cs := (cA .u8 8 t60.1)) ha rfl (by kernel_rfl) rfl rfl rfl (cells_sub (Box.cells hBg3) (all := (cA .u8 8 t60.1)) [] [] (by kernel_rfl)) fun a ha => ?_
     refine stA (l := (cA .u8 8 t60.1)) ha rfl rfl rfl (by kernel_rfl) rfl rfl hBg3 rfl fun a w72 ha hb2 hc73 _ => ?_
     have o1 : Ok [g3] ([g3] ++ (M)) w66.heap.size := (fun _ h => .inl (ml h))
     have o2 : Ok ([g3] ++ (M)) ([g3] ++ (M)) w66.heap.size := (Ok.refl _ _)
     have hG := hG.chg hc73 o1 o2
     have hM : MS ([g3] ++ (M)) w72 := (hM.chg hc73)
     have hC := hC.trans hc73 (fun x h => .inr (e_i5 x h))
     have hBg3 : Box w72 g3 (cA .u8 8 t60.1) := hb2
     refine seg ha 1 [(2, .pointer (some ⟨g3, 0, none⟩)), (3, .int .i64 (0 : Int))] (by kernel_rfl) fun a ha => ?_
     refine hK71 _ _ ?_; try clear hK71 K71
     refine wp_ret ?_
     try simp only [Exit.then, Exit.inBlock]
     have o1 : Ok [] ([g3] ++ (M)) w72.heap.size := Ok.nil _ _
     have o2 : Ok (M) ([g3] ++ (M)) w72.heap.size := (fun _ h => .inl (mr (h)))
     have hG := hG.chg (Chg.refl [] _) o1 o2
     have hBg3 := hBg3.chg (Chg.refl [] _) (fun h => nomatch h)
     have hM : MS (M) w72 := (fun x h => hM.chg (Chg.refl [] _) x (mr (h)))
     have hC := hC.trans (Chg.refl [] _) (Ok.nil _ _)
     obtain rfl := Option.some.inj H
     refine rtr ha (res2 rfl (roA ha rfl hBg3 (by kernel_rfl)) (roT ha rfl)) ?_
     exact ⟨rfl, hC, hM⟩
   have H := H66
   refine seg ha 3 [(33, .bool (!t60.2)), (0, .string (bstr a0)), (2, .pointer (some ⟨g3, 0, none⟩))] (by kernel_rfl) fun a ha => ?_
   rcases Bool.eq_false_or_eq_true (!t60.2) with hb74 | hb74
   ·have ha := ha.lit hb74
    have H := ite_t hb74 H
    refine sgh ha 5 [1, 1, 1, 1, 3] [(2, .pointer (some ⟨g3, 0, none⟩)), (38, .bool true)] (by kernel_rfl) fun a ha => ?_
    obtain rfl := Option.some.inj H
    have o1 : Ok [] (blkL ao8 ++ ([g3] ++ (M))) w62.heap.size := Ok.nil _ _
    have o2 : Ok ([g3] ++ (M)) (blkL ao8 ++ ([g3] ++ (M))) w62.heap.size := (fun _ h => .inl (mr (h)))
    have hG := hG.chg (Chg.refl [] _) o1 o2
    have hBg3 := hBg3.chg (Chg.refl [] _) (fun h => nomatch h)
    have hM : MS ([g3] ++ (M)) w62 := (fun x h => hM.chg (Chg.refl [] _) x (mr (h)))
    have hC := hC.trans (Chg.refl [] _) (Ok.nil _ _)
    exact J66 _ _ (ha.sel (by kernel_rfl)) hBg3 hG hC hM
   ·have ha := ha.lit hb74
    have H := ite_f hb74 H
    refine ldA (cs := (cA .u8 8 t60.1)) ha rfl (by kernel_rfl) rfl rfl rfl (cells_sub (Box.cells hBg3) (all := (cA .u8 8 t60.1)) [] [] (by kernel_rfl)) fun a ha => ?_
    obtain ⟨t75, H75, H⟩ := bind_some H
    refine cl ha (by rfl) (by kernel_rfl) (by rfl) (by rfl) (by rfl) (rd_Text.walk w62 _ hM hG t60.1 k _ H75) ?_
    rintro _ w75 ⟨rfl, hc75, hMn⟩ a ha
    have o1 : Ok [] (blkL ao8 ++ ([g3] ++ (M))) w62.heap.size := Ok.nil _ _
    have o2 : Ok (blkL ao8 ++ ([g3] ++ (M))) (blkL ao8 ++ ([g3] ++ (M))) w62.heap.size := (Ok.refl _ _)
    have hG := hG.chg hc75 o1 o2
    have hBg3 := hBg3.chg hc75 (fun h => nomatch h)
    have hM : MS (blkL ao8 ++ ([g3] ++ (M))) w75 := (hM.chg hc75)
    have hC := hC.trans hc75 (Ok.nil _ _)
    refine sgh ha 3 [2, 2, 4] [(2, .pointer (some ⟨g3, 0, none⟩)), (38, .bool (!((bstr t75).toList == (bstr a0).toList)))] (by kernel_rfl) fun a ha => ?_
    obtain rfl := Option.some.inj H
    have o1 : Ok [] (blkL ao8 ++ ([g3] ++ (M))) w75.heap.size := Ok.nil _ _
    have o2 : Ok ([g3] ++ (M)) (blkL ao8 ++ ([g3] ++ (M))) w75.heap.size := (fun _ h => .inl (mr (h)))
    have hG := hG.chg (Chg.refl [] _) o1 o2
    have hBg3 := hBg3.chg (Chg.refl [] _) (fun h => nomatch h)
    have hM : MS ([g3] ++ (M)) w75 := (fun x h => hM.chg (Chg.refl [] _) x (mr (h)))
    have hC := hC.trans (Chg.refl [] _) (Ok.nil _ _)
    exact J66 _ _ (ha.sel (by kernel_rfl)) hBg3 hG hC hM
  ·have H := ite_f hc35 H
   refine wp_region_lit ?_
   refine seg ha 1 [(0, .string (bstr a0)), (2, .pointer (some ⟨g3, 0, none⟩)), (5, .bool false)] (by kernel_rfl) fun a ha => ?_
   refine hK10 _ _ ?_; try clear hK10 K10
   refine wp_seq_k fun K76 hK76 => ?_
   refine wp_seq_k fun K77 hK77 => ?_
   refine wp_region_lit ?_
   refine sgh ha 8 [0, 0, 0, 1, 1, 1, 1, 3] [(2, .pointer (some ⟨g3, 0, none⟩)), (38, .bool true)] (by kernel_rfl) fun a ha => ?_
   refine hK77 _ _ ?_; try clear hK77 K77
   refine cnd ha rfl (fun _ => ?_) (fun h => nomatch h)
   refine wp_seq_k fun K79 hK79 => ?_
   refine wp_region_lit ?_
   refine opk (v := .agg (cA .u8 8 ([(0 : Int), (0 : Int), (0 : Int), (0 : Int), (0 : Int), (0 : Int), (0 : Int), (0 : Int)] : List Int)).toArray) ha rfl rfl rfl rfl rfl (fun w => by kernel_rfl) fun a ha => ?_
   refine stA (l := (cA .u8 8 ([(0 : Int), (0 : Int), (0 : Int), (0 : Int), (0 : Int), (0 : Int), (0 : Int), (0 : Int)] : List Int))) ha rfl rfl rfl (by kernel_rfl) rfl rfl hBg3 rfl fun a w80 ha hb2 hc81 _ => ?_
   have o1 : Ok [g3] (blkL ao8 ++ ([g3] ++ (M))) w7.heap.size := (fun _ h => .inl (mr (ml h)))
   have o2 : Ok (blkL ao8 ++ ([g3] ++ (M))) (blkL ao8 ++ ([g3] ++ (M))) w7.heap.size := (Ok.refl _ _)
   have hG := hG.chg hc81 o1 o2
   have hM : MS (blkL ao8 ++ ([g3] ++ (M))) w80 := (hM.chg hc81)
   have hC := hC.trans hc81 (fun x h => .inr (e_i5 x h))
   have hBg3 : Box w80 g3 (cA .u8 8 ([(0 : Int), (0 : Int), (0 : Int), (0 : Int), (0 : Int), (0 : Int), (0 : Int), (0 : Int)] : List Int)) := hb2
   refine seg ha 1 [(2, .pointer (some ⟨g3, 0, none⟩)), (3, .int .i64 (4 : Int))] (by kernel_rfl) fun a ha => ?_
   refine hK79 _ _ ?_; try clear hK79 K79
   refine wp_ret ?_
   try simp only [Exit.then, Exit.inBlock]
   have o1 : Ok [] (blkL ao8 ++ ([g3] ++ (M))) w80.heap.size := Ok.nil _ _
   have o2 : Ok (M) (blkL ao8 ++ ([g3] ++ (M))) w80.heap.size := (fun _ h => .inl (mr (mr (h))))
   have hG := hG.chg (Chg.refl [] _) o1 o2
   have hBg3 := hBg3.chg (Chg.refl [] _) (fun h => nomatch h)
   have hM : MS (M) w80 := (fun x h => hM.chg (Chg.refl [] _) x (mr (mr (h))))
   have hC := hC.trans (Chg.refl [] _) (Ok.nil _ _)
   obtain rfl := Option.some.inj H
   refine rtr ha (res2 rfl (roA ha rfl hBg3 (by kernel_rfl)) (roT ha rfl)) ?_
   exact ⟨rfl, hC, hM⟩
def vinerylaw03_small.f (k : Nat) : Option (Bool) := (rd_Make.f k (1 : Int) (167772161 : Int) (7 : Int)).bind fun t3 => (rd_Make.f k (0 : Int) (65536 : Int) (0 : Int)).bind fun t11 => (rd_Parse.f k ([48, 58, 54, 53, 48, 48, 48, 58, 55, 55] : List UInt8)).bind fun t19 => ((if (t3.2 == (0 : Int)) = true then (rd_Text.f k t3.1).bind fun t29 => (if ((bstr t29).toList == (bstr ([49, 58, 49, 48, 46, 48, 46, 48, 46, 49, 58, 55] : List UInt8)).toList) = true then (if (t11.2 == (5 : Int)) = true then (if (t19.2 == (0 : Int)) = true then (if (eqA 8 t19.1 ([(0 : Int), (0 : Int), (253 : Int), (232 : Int), (0 : Int), (0 : Int), (0 : Int), (77 : Int)] : List Int)) = true then (rd_Text.f k ([(0 : Int), (9 : Int), (0 : Int), (0 : Int), (0 : Int), (0 : Int), (0 : Int), (1 : Int)] : List Int)).bind fun t34 => some ((bstr t34).toList == (bstr ([63, 58, 48, 48, 48, 57, 48, 48, 48, 48, 48, 48, 48, 48, 48, 48, 48, 49] : List UInt8)).toList : Bool) else some (false : Bool)) else some (false : Bool)) else some (false : Bool)) else some (false : Bool)) else some (false : Bool))).bind fun s27 => some ((s27 : Bool))
set_option maxRecDepth 100000 in
theorem vinerylaw03_small.walk (w : World) (M : List Nat) (hM : MS M w) (hG : GF w M)  (k : Nat) (r : Bool) (H : vinerylaw03_small.f k = some r) :
    To Tryd.prog 7 [] w fun v w' => v = .bool r ∧ Chg [] w w' ∧ MS (M) w' := by
 unfold vinerylaw03_small.f at H
 refine ent Tryd.func7 rfl [] rfl (by rfl) fun a ha => ?_
 have hC : Chg [] w w := Chg.refl _ _
 refine wp_seq_k fun K1 hK1 => ?_
 refine wp_region_lit ?_
 refine seg ha 1 [] (by kernel_rfl) fun a ha => ?_
 refine hK1 _ _ ?_; try clear hK1 K1
 refine wp_seq_k fun K2 hK2 => ?_
 refine wp_region_lit ?_
 obtain ⟨t3, H3, H⟩ := bind_some H
 refine cl ha (by rfl) (by kernel_rfl) (by rfl) (by rfl) (by rfl) (rd_Make.walk w _ hM (1 : Int) (167772161 : Int) (7 : Int) k _ H3) ?_
 rintro _ w3 ⟨rfl, hc3, hMn⟩ a ha
 have o1 : Ok [] (M) w.heap.size := Ok.nil _ _
 have o2 : Ok (M) (M) w.heap.size := (Ok.refl _ _)
 have hG := hG.chg hc3 o1 o2
 have hM : MS (M) w3 := (hM.chg hc3)
 have hC := hC.trans hc3 (Ok.nil _ _)
 refine seg ha 3 [(9, .agg (cA .u8 8 t3.1).toArray), (10, .int .i64 t3.2)] (by kernel_rfl) fun a ha => ?_
 refine al (cs := (cA .u8 8 (List.replicate 8 (0 : Int)))) (z := .agg (cA .u8 8 (List.replicate 8 (0 : Int))).toArray) ha (fun w => by kernel_rfl) rfl rfl rfl rfl fun a w4 g5 hN6 ha => ?_
 have o1 : Ok [] (M) w3.heap.size := Ok.nil _ _
 have o2 : Ok ([g5] ++ (M)) (M) w3.heap.size := (Ok.app (hN6.ok _) (Ok.refl _ _))
 have hG := hG.chg hN6.chg o1 o2
 have p_i7_M : ∀ x ∈ [g5], x ∉ M := fun x hx hy => absurd (hM x (hy)) (Nat.not_lt.2 ((hN6.ge1) x hx))
 have e_i7 : ∀ x ∈ [g5], w.heap.size ≤ x := fun x hx => Nat.le_trans hC.size ((hN6.ge1) x hx)
 have hM : MS ([g5] ++ (M)) w4 := (MS.app hN6.ms (hM.chg hN6.chg))
 have hC := hC.trans hN6.chg (Ok.nil _ _)
 have hBg5 : Box w4 g5 (cA .u8 8 (List.replicate 8 (0 : Int))) := hN6.box
 refine stA (l := (cA .u8 8 t3.1)) ha rfl rfl rfl (by kernel_rfl) rfl rfl hBg5 rfl fun a w8 ha hb2 hc9 _ => ?_
 have o1 : Ok [g5] ([g5] ++ (M)) w4.heap.size := (fun _ h => .inl (ml h))
 have o2 : Ok ([g5] ++ (M)) ([g5] ++ (M)) w4.heap.size := (Ok.refl _ _)
 have hG := hG.chg hc9 o1 o2
 have hM : MS ([g5] ++ (M)) w8 := (hM.chg hc9)
 have hC := hC.trans hc9 (fun x h => .inr (e_i7 x h))
 have hBg5 : Box w8 g5 (cA .u8 8 t3.1) := hb2
 refine seg ha 1 [(1, .pointer (some ⟨g5, 0, none⟩)), (2, .int .i64 t3.2)] (by kernel_rfl) fun a ha => ?_
 refine hK2 _ _ ?_; try clear hK2 K2
 refine wp_seq_k fun K10 hK10 => ?_
 refine wp_region_lit ?_
 obtain ⟨t11, H11, H⟩ := bind_some H
 refine cl ha (by rfl) (by kernel_rfl) (by rfl) (by rfl) (by rfl) (rd_Make.walk w8 _ hM (0 : Int) (65536 : Int) (0 : Int) k _ H11) ?_
 rintro _ w11 ⟨rfl, hc11, hMn⟩ a ha
 have o1 : Ok [] ([g5] ++ (M)) w8.heap.size := Ok.nil _ _
 have o2 : Ok ([g5] ++ (M)) ([g5] ++ (M)) w8.heap.size := (Ok.refl _ _)
 have hG := hG.chg hc11 o1 o2
 have hBg5 := hBg5.chg hc11 (fun h => nomatch h)
 have hM : MS ([g5] ++ (M)) w11 := (hM.chg hc11)
 have hC := hC.trans hc11 (Ok.nil _ _)
 refine seg ha 3 [(1, .pointer (some ⟨g5, 0, none⟩)), (2, .int .i64 t3.2), (13, .agg (cA .u8 8 t11.1).toArray), (14, .int .i64 t11.2)] (by kernel_rfl) fun a ha => ?_
 refine al (cs := (cA .u8 8 (List.replicate 8 (0 : Int)))) (z := .agg (cA .u8 8 (List.replicate 8 (0 : Int))).toArray) ha (fun w => by kernel_rfl) rfl rfl rfl rfl fun a w12 g13 hN14 ha => ?_
 have o1 : Ok [] ([g5] ++ (M)) w11.heap.size := Ok.nil _ _
 have o2 : Ok ([g13] ++ ([g5] ++ (M))) ([g5] ++ (M)) w11.heap.size := (Ok.app (hN14.ok _) (Ok.refl _ _))
 have hG := hG.chg hN14.chg o1 o2
 have hBg5 := hBg5.chg hN14.chg (fun h => nomatch h)
 have p_i15_i7 : ∀ x ∈ [g13], x ∉ ([g5]) := fun x hx hy => absurd (hM x (ml hy)) (Nat.not_lt.2 ((hN14.ge1) x hx))
 have p_i15_M : ∀ x ∈ [g13], x ∉ M := fun x hx hy => absurd (hM x (mr (hy))) (Nat.not_lt.2 ((hN14.ge1) x hx))
 have e_i15 : ∀ x ∈ [g13], w.heap.size ≤ x := fun x hx => Nat.le_trans hC.size ((hN14.ge1) x hx)
 have hM : MS ([g13] ++ ([g5] ++ (M))) w12 := (MS.app hN14.ms (hM.chg hN14.chg))
 have hC := hC.trans hN14.chg (Ok.nil _ _)
 have hBg13 : Box w12 g13 (cA .u8 8 (List.replicate 8 (0 : Int))) := hN14.box
 refine stA (l := (cA .u8 8 t11.1)) ha rfl rfl rfl (by kernel_rfl) rfl rfl hBg13 rfl fun a w16 ha hb2 hc17 _ => ?_
 have o1 : Ok [g13] ([g13] ++ ([g5] ++ (M))) w12.heap.size := (fun _ h => .inl (ml h))
 have o2 : Ok ([g13] ++ ([g5] ++ (M))) ([g13] ++ ([g5] ++ (M))) w12.heap.size := (Ok.refl _ _)
 have hG := hG.chg hc17 o1 o2
 have hBg5 := hBg5.chg hc17 ((fun x (hx : x ∈ [g5]) (hy : x ∈ [g13]) => p_i15_i7 x hy hx) g5 (by simp))
 have hM : MS ([g13] ++ ([g5] ++ (M))) w16 := (hM.chg hc17)
 have hC := hC.trans hc17 (fun x h => .inr (e_i15 x h))
 have hBg13 : Box w16 g13 (cA .u8 8 t11.1) := hb2
 refine seg ha 1 [(1, .pointer (some ⟨g5, 0, none⟩)), (2, .int .i64 t3.2), (4, .int .i64 t11.2)] (by kernel_rfl) fun a ha => ?_
 refine hK10 _ _ ?_; try clear hK10 K10
 refine wp_seq_k fun K18 hK18 => ?_
 refine wp_region_lit ?_
 obtain ⟨t19, H19, H⟩ := bind_some H
 refine cl ha (by rfl) (by kernel_rfl) (by rfl) (by rfl) (by rfl) (rd_Parse.walk w16 _ hM hG ([48, 58, 54, 53, 48, 48, 48, 58, 55, 55] : List UInt8) k _ H19) ?_
 rintro _ w19 ⟨rfl, hc19, hMn⟩ a ha
 have o1 : Ok [] ([g13] ++ ([g5] ++ (M))) w16.heap.size := Ok.nil _ _
 have o2 : Ok ([g13] ++ ([g5] ++ (M))) ([g13] ++ ([g5] ++ (M))) w16.heap.size := (Ok.refl _ _)
 have hG := hG.chg hc19 o1 o2
 have hBg5 := hBg5.chg hc19 (fun h => nomatch h)
 have hBg13 := hBg13.chg hc19 (fun h => nomatch h)
 have hM : MS ([g13] ++ ([g5] ++ (M))) w19 := (hM.chg hc19)
 have hC := hC.trans hc19 (Ok.nil _ _)
 refine seg ha 3 [(1, .pointer (some ⟨g5, 0, none⟩)), (2, .int .i64 t3.2), (4, .int .i64 t11.2), (17, .agg (cA .u8 8 t19.1).toArray), (18, .int .i64 t19.2)] (by kernel_rfl) fun a ha => ?_
 refine al (cs := (cA .u8 8 (List.replicate 8 (0 : Int)))) (z := .agg (cA .u8 8 (List.replicate 8 (0 : Int))).toArray) ha (fun w => by kernel_rfl) rfl rfl rfl rfl fun a w20 g21 hN22 ha => ?_
 have o1 : Ok [] ([g13] ++ ([g5] ++ (M))) w19.heap.size := Ok.nil _ _
 have o2 : Ok ([g21] ++ ([g13] ++ ([g5] ++ (M)))) ([g13] ++ ([g5] ++ (M))) w19.heap.size := (Ok.app (hN22.ok _) (Ok.refl _ _))
 have hG := hG.chg hN22.chg o1 o2
 have hBg5 := hBg5.chg hN22.chg (fun h => nomatch h)
 have hBg13 := hBg13.chg hN22.chg (fun h => nomatch h)
 have p_i23_i15 : ∀ x ∈ [g21], x ∉ ([g13]) := fun x hx hy => absurd (hM x (ml hy)) (Nat.not_lt.2 ((hN22.ge1) x hx))
 have p_i23_i7 : ∀ x ∈ [g21], x ∉ ([g5]) := fun x hx hy => absurd (hM x (mr (ml hy))) (Nat.not_lt.2 ((hN22.ge1) x hx))
 have p_i23_M : ∀ x ∈ [g21], x ∉ M := fun x hx hy => absurd (hM x (mr (mr (hy)))) (Nat.not_lt.2 ((hN22.ge1) x hx))
 have e_i23 : ∀ x ∈ [g21], w.heap.size ≤ x := fun x hx => Nat.le_trans hC.size ((hN22.ge1) x hx)
 have hM : MS ([g21] ++ ([g13] ++ ([g5] ++ (M)))) w20 := (MS.app hN22.ms (hM.chg hN22.chg))
 have hC := hC.trans hN22.chg (Ok.nil _ _)
 have hBg21 : Box w20 g21 (cA .u8 8 (List.replicate 8 (0 : Int))) := hN22.box
 refine stA (l := (cA .u8 8 t19.1)) ha rfl rfl rfl (by kernel_rfl) rfl rfl hBg21 rfl fun a w24 ha hb2 hc25 _ => ?_
 have o1 : Ok [g21] ([g21] ++ ([g13] ++ ([g5] ++ (M)))) w20.heap.size := (fun _ h => .inl (ml h))
 have o2 : Ok ([g21] ++ ([g13] ++ ([g5] ++ (M)))) ([g21] ++ ([g13] ++ ([g5] ++ (M)))) w20.heap.size := (Ok.refl _ _)
 have hG := hG.chg hc25 o1 o2
 have hBg5 := hBg5.chg hc25 ((fun x (hx : x ∈ [g5]) (hy : x ∈ [g21]) => p_i23_i7 x hy hx) g5 (by simp))
 have hBg13 := hBg13.chg hc25 ((fun x (hx : x ∈ [g13]) (hy : x ∈ [g21]) => p_i23_i15 x hy hx) g13 (by simp))
 have hM : MS ([g21] ++ ([g13] ++ ([g5] ++ (M)))) w24 := (hM.chg hc25)
 have hC := hC.trans hc25 (fun x h => .inr (e_i23 x h))
 have hBg21 : Box w24 g21 (cA .u8 8 t19.1) := hb2
 refine seg ha 1 [(1, .pointer (some ⟨g5, 0, none⟩)), (2, .int .i64 t3.2), (4, .int .i64 t11.2), (5, .pointer (some ⟨g21, 0, none⟩)), (6, .int .i64 t19.2)] (by kernel_rfl) fun a ha => ?_
 refine hK18 _ _ ?_; try clear hK18 K18
 refine wp_seq_k fun K26 hK26 => ?_
 refine wp_region_lit ?_
 obtain ⟨s27, H27, H⟩ := bind_some H
 have J27 : ∀ (a : Act) (w27 : World), Has a Tryd.f7.ntmps [(0, .bool s27)] → (Box w27 g5 (cA .u8 8 t3.1)) → (Box w27 g13 (cA .u8 8 t11.1)) → (Box w27 g21 (cA .u8 8 t19.1)) → (GF w27 ([g21] ++ ([g13] ++ ([g5] ++ (M))))) → (Chg [] w w27) → (MS ([g21] ++ ([g13] ++ ([g5] ++ (M)))) w27) → K26 a w27 := by
  intro a w27 ha hBg5 hBg13 hBg21 hG hC hM
  refine hK26 _ _ ?_; try clear hK26 K26
  refine wp_ret ?_
  try simp only [Exit.then, Exit.inBlock]
  have o1 : Ok [] ([g21] ++ ([g13] ++ ([g5] ++ (M)))) w27.heap.size := Ok.nil _ _
  have o2 : Ok (M) ([g21] ++ ([g13] ++ ([g5] ++ (M)))) w27.heap.size := (fun _ h => .inl (mr (mr (mr (h)))))
  have hG := hG.chg (Chg.refl [] _) o1 o2
  have hBg5 := hBg5.chg (Chg.refl [] _) (fun h => nomatch h)
  have hBg13 := hBg13.chg (Chg.refl [] _) (fun h => nomatch h)
  have hBg21 := hBg21.chg (Chg.refl [] _) (fun h => nomatch h)
  have hM : MS (M) w27 := (fun x h => hM.chg (Chg.refl [] _) x (mr (mr (mr (h)))))
  have hC := hC.trans (Chg.refl [] _) (Ok.nil _ _)
  obtain rfl := Option.some.inj H
  refine rt1 ha rfl rfl ?_
  exact ⟨rfl, hC, hM⟩
 have H := H27
 refine seg ha 3 [(21, .bool (t3.2 == (0 : Int))), (1, .pointer (some ⟨g5, 0, none⟩)), (4, .int .i64 t11.2), (5, .pointer (some ⟨g21, 0, none⟩)), (6, .int .i64 t19.2)] (by kernel_rfl) fun a ha => ?_
 rcases Bool.eq_false_or_eq_true (t3.2 == (0 : Int)) with hb28 | hb28
 ·have ha := ha.lit hb28
  have H := ite_t hb28 H
  refine ldA (cs := (cA .u8 8 t3.1)) ha rfl (by kernel_rfl) rfl rfl rfl (cells_sub (Box.cells hBg5) (all := (cA .u8 8 t3.1)) [] [] (by kernel_rfl)) fun a ha => ?_
  obtain ⟨t29, H29, H⟩ := bind_some H
  refine cl ha (by rfl) (by kernel_rfl) (by rfl) (by rfl) (by rfl) (rd_Text.walk w24 _ hM hG t3.1 k _ H29) ?_
  rintro _ w29 ⟨rfl, hc29, hMn⟩ a ha
  have o1 : Ok [] ([g21] ++ ([g13] ++ ([g5] ++ (M)))) w24.heap.size := Ok.nil _ _
  have o2 : Ok ([g21] ++ ([g13] ++ ([g5] ++ (M)))) ([g21] ++ ([g13] ++ ([g5] ++ (M)))) w24.heap.size := (Ok.refl _ _)
  have hG := hG.chg hc29 o1 o2
  have hBg5 := hBg5.chg hc29 (fun h => nomatch h)
  have hBg13 := hBg13.chg hc29 (fun h => nomatch h)
  have hBg21 := hBg21.chg hc29 (fun h => nomatch h)
  have hM : MS ([g21] ++ ([g13] ++ ([g5] ++ (M)))) w29 := (hM.chg hc29)
  have hC := hC.trans hc29 (Ok.nil _ _)
  refine sgh ha 3 [2, 3, 0] [(26, .bool ((bstr t29).toList == (bstr ([49, 58, 49, 48, 46, 48, 46, 48, 46, 49, 58, 55] : List UInt8)).toList)), (4, .int .i64 t11.2), (5, .pointer (some ⟨g21, 0, none⟩)), (6, .int .i64 t19.2)] (by kernel_rfl) fun a ha => ?_
  rcases Bool.eq_false_or_eq_true ((bstr t29).toList == (bstr ([49, 58, 49, 48, 46, 48, 46, 48, 46, 49, 58, 55] : List UInt8)).toList) with hb30 | hb30
  ·have ha := ha.lit hb30
   have H := ite_t hb30 H
   refine sgh ha 4 [2, 2, 3, 0] [(30, .bool (t11.2 == (5 : Int))), (5, .pointer (some ⟨g21, 0, none⟩)), (6, .int .i64 t19.2)] (by kernel_rfl) fun a ha => ?_
   rcases Bool.eq_false_or_eq_true (t11.2 == (5 : Int)) with hb31 | hb31
   ·have ha := ha.lit hb31
    have H := ite_t hb31 H
    refine sgh ha 4 [2, 2, 3, 0] [(34, .bool (t19.2 == (0 : Int))), (5, .pointer (some ⟨g21, 0, none⟩))] (by kernel_rfl) fun a ha => ?_
    rcases Bool.eq_false_or_eq_true (t19.2 == (0 : Int)) with hb32 | hb32
    ·have ha := ha.lit hb32
     have H := ite_t hb32 H
     refine ldA (cs := (cA .u8 8 t19.1)) ha rfl (by kernel_rfl) rfl rfl rfl (cells_sub (Box.cells hBg21) (all := (cA .u8 8 t19.1)) [] [] (by kernel_rfl)) fun a ha => ?_
     refine opk (v := .agg (cA .u8 8 ([(0 : Int), (0 : Int), (253 : Int), (232 : Int), (0 : Int), (0 : Int), (0 : Int), (77 : Int)] : List Int)).toArray) ha rfl rfl rfl rfl rfl (fun w => by kernel_rfl) fun a ha => ?_
     refine hop (v := .bool (eqA 8 t19.1 ([(0 : Int), (0 : Int), (253 : Int), (232 : Int), (0 : Int), (0 : Int), (0 : Int), (77 : Int)] : List Int))) (w' := w29) ha rfl rfl rfl (eqs_run (r := (eqA 8 t19.1 ([(0 : Int), (0 : Int), (253 : Int), (232 : Int), (0 : Int), (0 : Int), (0 : Int), (77 : Int)] : List Int))) (m := 9) ha rfl rfl (by kernel_rfl) rfl (by kernel_rfl) _) fun a ha => ?_
     refine sgh ha 2 [3, 0] [(39, .bool (eqA 8 t19.1 ([(0 : Int), (0 : Int), (253 : Int), (232 : Int), (0 : Int), (0 : Int), (0 : Int), (77 : Int)] : List Int)))] (by kernel_rfl) fun a ha => ?_
     rcases Bool.eq_false_or_eq_true ((eqA 8 t19.1 ([(0 : Int), (0 : Int), (253 : Int), (232 : Int), (0 : Int), (0 : Int), (0 : Int), (77 : Int)] : List Int))) with hb33 | hb33
     ·have ha := ha.lit hb33
      have H := ite_t hb33 H
      refine opk (v := .agg (cA .u8 8 ([(0 : Int), (9 : Int), (0 : Int), (0 : Int), (0 : Int), (0 : Int), (0 : Int), (1 : Int)] : List Int)).toArray) ha rfl rfl rfl rfl rfl (fun w => by kernel_rfl) fun a ha => ?_
      obtain ⟨t34, H34, H⟩ := bind_some H
      refine cl ha (by rfl) (by kernel_rfl) (by rfl) (by rfl) (by rfl) (rd_Text.walk w29 _ hM hG ([(0 : Int), (9 : Int), (0 : Int), (0 : Int), (0 : Int), (0 : Int), (0 : Int), (1 : Int)] : List Int) k _ H34) ?_
      rintro _ w34 ⟨rfl, hc34, hMn⟩ a ha
      have o1 : Ok [] ([g21] ++ ([g13] ++ ([g5] ++ (M)))) w29.heap.size := Ok.nil _ _
      have o2 : Ok ([g21] ++ ([g13] ++ ([g5] ++ (M)))) ([g21] ++ ([g13] ++ ([g5] ++ (M)))) w29.heap.size := (Ok.refl _ _)
      have hG := hG.chg hc34 o1 o2
      have hBg5 := hBg5.chg hc34 (fun h => nomatch h)
      have hBg13 := hBg13.chg hc34 (fun h => nomatch h)
      have hBg21 := hBg21.chg hc34 (fun h => nomatch h)
      have hM : MS ([g21] ++ ([g13] ++ ([g5] ++ (M)))) w34 := (hM.chg hc34)
      have hC := hC.trans hc34 (Ok.nil _ _)
      refine sgh ha 3 [2, 3, 0] [(0, .bool ((bstr t34).toList == (bstr ([63, 58, 48, 48, 48, 57, 48, 48, 48, 48, 48, 48, 48, 48, 48, 48, 48, 49] : List UInt8)).toList))] (by kernel_rfl) fun a ha => ?_
      obtain rfl := Option.some.inj H
      exact J27 _ _ (ha.sel (by kernel_rfl)) hBg5 hBg13 hBg21 hG hC hM
     ·have ha := ha.lit hb33
      have H := ite_f hb33 H
      refine sgh ha 5 [1, 1, 1, 4, 0] [(0, .bool false)] (by kernel_rfl) fun a ha => ?_
      obtain rfl := Option.some.inj H
      exact J27 _ _ (ha.sel (by kernel_rfl)) hBg5 hBg13 hBg21 hG hC hM
    ·have ha := ha.lit hb32
     have H := ite_f hb32 H
     refine sgh ha 10 [1, 1, 1, 4, 0, 1, 1, 1, 4, 0] [(0, .bool false)] (by kernel_rfl) fun a ha => ?_
     obtain rfl := Option.some.inj H
     exact J27 _ _ (ha.sel (by kernel_rfl)) hBg5 hBg13 hBg21 hG hC hM
   ·have ha := ha.lit hb31
    have H := ite_f hb31 H
    refine sgh ha 14 [1, 1, 4, 0, 1, 1, 1, 4, 0, 1, 1, 1, 4, 0] [(0, .bool false)] (by kernel_rfl) fun a ha => ?_
    obtain rfl := Option.some.inj H
    exact J27 _ _ (ha.sel (by kernel_rfl)) hBg5 hBg13 hBg21 hG hC hM
  ·have ha := ha.lit hb30
   have H := ite_f hb30 H
   refine sgh ha 18 [1, 1, 4, 0, 1, 1, 4, 0, 1, 1, 1, 4, 0, 1, 1, 1, 4, 0] [(0, .bool false)] (by kernel_rfl) fun a ha => ?_
   obtain rfl := Option.some.inj H
   exact J27 _ _ (ha.sel (by kernel_rfl)) hBg5 hBg13 hBg21 hG hC hM
 ·have ha := ha.lit hb28
  have H := ite_f hb28 H
  refine sgh ha 23 [1, 1, 1, 4, 0, 1, 1, 4, 0, 1, 1, 4, 0, 1, 1, 1, 4, 0, 1, 1, 1, 4, 0] [(0, .bool false)] (by kernel_rfl) fun a ha => ?_
  obtain rfl := Option.some.inj H
  exact J27 _ _ (ha.sel (by kernel_rfl)) hBg5 hBg13 hBg21 hG hC hM
def vinerylaw03_RdKinds.f (k : Nat) (a0 : Int) (a1 : Int) (a2 : Int) (a3 : Int) (a4 : Int) (a5 : Int) : Option (Bool) := (vinerylaw03_small.f k ).bind fun t3 => (rd_Make.f k a0 a1 a2).bind fun t5 => (rd_Make.f k a3 a4 a5).bind fun t13 => (rd_Parts.f k t5.1).bind fun t21 => (if (if (t5.2 != (0 : Int)) = true then true else (t13.2 != (0 : Int))) = true then ((if t3 = true then (if (t5.2 == (0 : Int)) = true then some (true : Bool) else some ((eqA 8 t5.1 ([(0 : Int), (0 : Int), (0 : Int), (0 : Int), (0 : Int), (0 : Int), (0 : Int), (0 : Int)] : List Int)) : Bool)) else some (false : Bool))).bind fun s26 => some ((s26 : Bool)) else ((if t3 = true then (if t21.2.2.2 = true then (if (a0 == a3) = true then (if (a1 == a4) = true then (if ((eqA 8 t5.1 t13.1) == (a2 == a5)) = true then (rd_Text.f k t5.1).bind fun t36 => (rd_Text.f k t13.1).bind fun t37 => some (((bstr t36).toList == (bstr t37).toList) == (eqA 8 t5.1 t13.1) : Bool) else some (false : Bool)) else (if ((eqA 8 t5.1 t13.1) == false) = true then (rd_Text.f k t5.1).bind fun t43 => (rd_Text.f k t13.1).bind fun t44 => some (((bstr t43).toList == (bstr t44).toList) == (eqA 8 t5.1 t13.1) : Bool) else some (false : Bool))) else (if ((eqA 8 t5.1 t13.1) == false) = true then (rd_Text.f k t5.1).bind fun t50 => (rd_Text.f k t13.1).bind fun t51 => some (((bstr t50).toList == (bstr t51).toList) == (eqA 8 t5.1 t13.1) : Bool) else some (false : Bool))) else some (false : Bool)) else some (false : Bool))).bind fun s30 => some ((s30 : Bool)))
set_option maxRecDepth 100000 in
theorem vinerylaw03_RdKinds.walk (w : World) (M : List Nat) (hM : MS M w) (hG : GF w M) (a0 : Int) (a1 : Int) (a2 : Int) (a3 : Int) (a4 : Int) (a5 : Int) (k : Nat) (r : Bool) (H : vinerylaw03_RdKinds.f k a0 a1 a2 a3 a4 a5 = some r) :
    To Tryd.prog 4 [.int .i64 a0, .int .i64 a1, .int .i64 a2, .int .i64 a3, .int .i64 a4, .int .i64 a5] w fun v w' => v = .bool r ∧ Chg [] w w' ∧ MS (M) w' := by
 unfold vinerylaw03_RdKinds.f at H
 refine ent Tryd.func4 rfl [(0, .int .i64 a0), (1, .int .i64 a1), (2, .int .i64 a2), (3, .int .i64 a3), (4, .int .i64 a4), (5, .int .i64 a5)] rfl (by rfl) fun a ha => ?_
 have hC : Chg [] w w := Chg.refl _ _
 refine wp_seq_k fun K1 hK1 => ?_
 refine wp_region_lit ?_
 refine seg ha 1 [(0, .int .i64 a0), (1, .int .i64 a1), (2, .int .i64 a2), (3, .int .i64 a3), (4, .int .i64 a4), (5, .int .i64 a5)] (by kernel_rfl) fun a ha => ?_
 refine hK1 _ _ ?_; try clear hK1 K1
 refine wp_seq_k fun K2 hK2 => ?_
 refine wp_region_lit ?_
 obtain ⟨t3, H3, H⟩ := bind_some H
 refine cl ha (by rfl) (by kernel_rfl) (by rfl) (by rfl) (by rfl) (vinerylaw03_small.walk w _ hM hG  k _ H3) ?_
 rintro _ w3 ⟨rfl, hc3, hMn⟩ a ha
 have o1 : Ok [] (M) w.heap.size := Ok.nil _ _
 have o2 : Ok (M) (M) w.heap.size := (Ok.refl _ _)
 have hG := hG.chg hc3 o1 o2
 have hM : MS (M) w3 := (hM.chg hc3)
 have hC := hC.trans hc3 (Ok.nil _ _)
 refine seg ha 1 [(0, .int .i64 a0), (1, .int .i64 a1), (2, .int .i64 a2), (3, .int .i64 a3), (4, .int .i64 a4), (5, .int .i64 a5), (13, .bool t3)] (by kernel_rfl) fun a ha => ?_
 refine hK2 _ _ ?_; try clear hK2 K2
 refine wp_seq_k fun K4 hK4 => ?_
 refine wp_region_lit ?_
 refine seg ha 3 [(0, .int .i64 a0), (1, .int .i64 a1), (2, .int .i64 a2), (3, .int .i64 a3), (4, .int .i64 a4), (5, .int .i64 a5), (13, .bool t3), (24, .int .i64 a0), (25, .int .i64 a1), (26, .int .i64 a2)] (by kernel_rfl) fun a ha => ?_
 obtain ⟨t5, H5, H⟩ := bind_some H
 refine cl ha (by rfl) (by kernel_rfl) (by rfl) (by rfl) (by rfl) (rd_Make.walk w3 _ hM a0 a1 a2 k _ H5) ?_
 rintro _ w5 ⟨rfl, hc5, hMn⟩ a ha
 have o1 : Ok [] (M) w3.heap.size := Ok.nil _ _
 have o2 : Ok (M) (M) w3.heap.size := (Ok.refl _ _)
 have hG := hG.chg hc5 o1 o2
 have hM : MS (M) w5 := (hM.chg hc5)
 have hC := hC.trans hc5 (Ok.nil _ _)
 refine seg ha 3 [(0, .int .i64 a0), (1, .int .i64 a1), (2, .int .i64 a2), (3, .int .i64 a3), (4, .int .i64 a4), (5, .int .i64 a5), (13, .bool t3), (28, .agg (cA .u8 8 t5.1).toArray), (29, .int .i64 t5.2)] (by kernel_rfl) fun a ha => ?_
 refine al (cs := (cA .u8 8 (List.replicate 8 (0 : Int)))) (z := .agg (cA .u8 8 (List.replicate 8 (0 : Int))).toArray) ha (fun w => by kernel_rfl) rfl rfl rfl rfl fun a w6 g7 hN8 ha => ?_
 have o1 : Ok [] (M) w5.heap.size := Ok.nil _ _
 have o2 : Ok ([g7] ++ (M)) (M) w5.heap.size := (Ok.app (hN8.ok _) (Ok.refl _ _))
 have hG := hG.chg hN8.chg o1 o2
 have p_i9_M : ∀ x ∈ [g7], x ∉ M := fun x hx hy => absurd (hM x (hy)) (Nat.not_lt.2 ((hN8.ge1) x hx))
 have e_i9 : ∀ x ∈ [g7], w.heap.size ≤ x := fun x hx => Nat.le_trans hC.size ((hN8.ge1) x hx)
 have hM : MS ([g7] ++ (M)) w6 := (MS.app hN8.ms (hM.chg hN8.chg))
 have hC := hC.trans hN8.chg (Ok.nil _ _)
 have hBg7 : Box w6 g7 (cA .u8 8 (List.replicate 8 (0 : Int))) := hN8.box
 refine stA (l := (cA .u8 8 t5.1)) ha rfl rfl rfl (by kernel_rfl) rfl rfl hBg7 rfl fun a w10 ha hb2 hc11 _ => ?_
 have o1 : Ok [g7] ([g7] ++ (M)) w6.heap.size := (fun _ h => .inl (ml h))
 have o2 : Ok ([g7] ++ (M)) ([g7] ++ (M)) w6.heap.size := (Ok.refl _ _)
 have hG := hG.chg hc11 o1 o2
 have hM : MS ([g7] ++ (M)) w10 := (hM.chg hc11)
 have hC := hC.trans hc11 (fun x h => .inr (e_i9 x h))
 have hBg7 : Box w10 g7 (cA .u8 8 t5.1) := hb2
 refine seg ha 1 [(0, .int .i64 a0), (1, .int .i64 a1), (2, .int .i64 a2), (3, .int .i64 a3), (4, .int .i64 a4), (5, .int .i64 a5), (13, .bool t3), (14, .pointer (some ⟨g7, 0, none⟩)), (15, .int .i64 t5.2)] (by kernel_rfl) fun a ha => ?_
 refine hK4 _ _ ?_; try clear hK4 K4
 refine wp_seq_k fun K12 hK12 => ?_
 refine wp_region_lit ?_
 refine seg ha 3 [(0, .int .i64 a0), (1, .int .i64 a1), (2, .int .i64 a2), (3, .int .i64 a3), (4, .int .i64 a4), (5, .int .i64 a5), (13, .bool t3), (14, .pointer (some ⟨g7, 0, none⟩)), (15, .int .i64 t5.2), (31, .int .i64 a3), (32, .int .i64 a4), (33, .int .i64 a5)] (by kernel_rfl) fun a ha => ?_
 obtain ⟨t13, H13, H⟩ := bind_some H
 refine cl ha (by rfl) (by kernel_rfl) (by rfl) (by rfl) (by rfl) (rd_Make.walk w10 _ hM a3 a4 a5 k _ H13) ?_
 rintro _ w13 ⟨rfl, hc13, hMn⟩ a ha
 have o1 : Ok [] ([g7] ++ (M)) w10.heap.size := Ok.nil _ _
 have o2 : Ok ([g7] ++ (M)) ([g7] ++ (M)) w10.heap.size := (Ok.refl _ _)
 have hG := hG.chg hc13 o1 o2
 have hBg7 := hBg7.chg hc13 (fun h => nomatch h)
 have hM : MS ([g7] ++ (M)) w13 := (hM.chg hc13)
 have hC := hC.trans hc13 (Ok.nil _ _)
 refine seg ha 3 [(0, .int .i64 a0), (1, .int .i64 a1), (2, .int .i64 a2), (3, .int .i64 a3), (4, .int .i64 a4), (5, .int .i64 a5), (13, .bool t3), (14, .pointer (some ⟨g7, 0, none⟩)), (15, .int .i64 t5.2), (35, .agg (cA .u8 8 t13.1).toArray), (36, .int .i64 t13.2)] (by kernel_rfl) fun a ha => ?_
 refine al (cs := (cA .u8 8 (List.replicate 8 (0 : Int)))) (z := .agg (cA .u8 8 (List.replicate 8 (0 : Int))).toArray) ha (fun w => by kernel_rfl) rfl rfl rfl rfl fun a w14 g15 hN16 ha => ?_
 have o1 : Ok [] ([g7] ++ (M)) w13.heap.size := Ok.nil _ _
 have o2 : Ok ([g15] ++ ([g7] ++ (M))) ([g7] ++ (M)) w13.heap.size := (Ok.app (hN16.ok _) (Ok.refl _ _))
 have hG := hG.chg hN16.chg o1 o2
 have hBg7 := hBg7.chg hN16.chg (fun h => nomatch h)
 have p_i17_i9 : ∀ x ∈ [g15], x ∉ ([g7]) := fun x hx hy => absurd (hM x (ml hy)) (Nat.not_lt.2 ((hN16.ge1) x hx))
 have p_i17_M : ∀ x ∈ [g15], x ∉ M := fun x hx hy => absurd (hM x (mr (hy))) (Nat.not_lt.2 ((hN16.ge1) x hx))
 have e_i17 : ∀ x ∈ [g15], w.heap.size ≤ x := fun x hx => Nat.le_trans hC.size ((hN16.ge1) x hx)
 have hM : MS ([g15] ++ ([g7] ++ (M))) w14 := (MS.app hN16.ms (hM.chg hN16.chg))
 have hC := hC.trans hN16.chg (Ok.nil _ _)
 have hBg15 : Box w14 g15 (cA .u8 8 (List.replicate 8 (0 : Int))) := hN16.box
 refine stA (l := (cA .u8 8 t13.1)) ha rfl rfl rfl (by kernel_rfl) rfl rfl hBg15 rfl fun a w18 ha hb2 hc19 _ => ?_
 have o1 : Ok [g15] ([g15] ++ ([g7] ++ (M))) w14.heap.size := (fun _ h => .inl (ml h))
 have o2 : Ok ([g15] ++ ([g7] ++ (M))) ([g15] ++ ([g7] ++ (M))) w14.heap.size := (Ok.refl _ _)
 have hG := hG.chg hc19 o1 o2
 have hBg7 := hBg7.chg hc19 ((fun x (hx : x ∈ [g7]) (hy : x ∈ [g15]) => p_i17_i9 x hy hx) g7 (by simp))
 have hM : MS ([g15] ++ ([g7] ++ (M))) w18 := (hM.chg hc19)
 have hC := hC.trans hc19 (fun x h => .inr (e_i17 x h))
 have hBg15 : Box w18 g15 (cA .u8 8 t13.1) := hb2
 refine seg ha 1 [(0, .int .i64 a0), (1, .int .i64 a1), (2, .int .i64 a2), (3, .int .i64 a3), (4, .int .i64 a4), (5, .int .i64 a5), (13, .bool t3), (14, .pointer (some ⟨g7, 0, none⟩)), (15, .int .i64 t5.2), (16, .pointer (some ⟨g15, 0, none⟩)), (17, .int .i64 t13.2)] (by kernel_rfl) fun a ha => ?_
 refine hK12 _ _ ?_; try clear hK12 K12
 refine wp_seq_k fun K20 hK20 => ?_
 refine wp_region_lit ?_
 refine ldA (cs := (cA .u8 8 t5.1)) ha rfl (by kernel_rfl) rfl rfl rfl (cells_sub (Box.cells hBg7) (all := (cA .u8 8 t5.1)) [] [] (by kernel_rfl)) fun a ha => ?_
 obtain ⟨t21, H21, H⟩ := bind_some H
 refine cl ha (by rfl) (by kernel_rfl) (by rfl) (by rfl) (by rfl) (rd_Parts.walk w18 _ hM t5.1 k _ H21) ?_
 rintro _ w21 ⟨rfl, hc21, hMn⟩ a ha
 have o1 : Ok [] ([g15] ++ ([g7] ++ (M))) w18.heap.size := Ok.nil _ _
 have o2 : Ok ([g15] ++ ([g7] ++ (M))) ([g15] ++ ([g7] ++ (M))) w18.heap.size := (Ok.refl _ _)
 have hG := hG.chg hc21 o1 o2
 have hBg7 := hBg7.chg hc21 (fun h => nomatch h)
 have hBg15 := hBg15.chg hc21 (fun h => nomatch h)
 have hM : MS ([g15] ++ ([g7] ++ (M))) w21 := (hM.chg hc21)
 have hC := hC.trans hc21 (Ok.nil _ _)
 refine seg ha 9 [(0, .int .i64 a0), (1, .int .i64 a1), (2, .int .i64 a2), (3, .int .i64 a3), (4, .int .i64 a4), (5, .int .i64 a5), (13, .bool t3), (14, .pointer (some ⟨g7, 0, none⟩)), (15, .int .i64 t5.2), (16, .pointer (some ⟨g15, 0, none⟩)), (17, .int .i64 t13.2), (21, .bool t21.2.2.2)] (by kernel_rfl) fun a ha => ?_
 refine hK20 _ _ ?_; try clear hK20 K20
 refine wp_seq_k fun K22 hK22 => ?_
 refine wp_seq_k fun K23 hK23 => ?_
 refine wp_region_lit ?_
 refine seg ha 6 [(0, .int .i64 a0), (1, .int .i64 a1), (2, .int .i64 a2), (3, .int .i64 a3), (4, .int .i64 a4), (5, .int .i64 a5), (13, .bool t3), (14, .pointer (some ⟨g7, 0, none⟩)), (15, .int .i64 t5.2), (16, .pointer (some ⟨g15, 0, none⟩)), (21, .bool t21.2.2.2), (49, .bool (if (t5.2 != (0 : Int)) = true then true else (t13.2 != (0 : Int))))] (by kernel_rfl) fun a ha => ?_
 refine hK23 _ _ ?_; try clear hK23 K23
 refine cnd ha rfl (fun hc24 => ?_) (fun hc24 => ?_)
 ·have H := ite_t hc24 H
  refine wp_seq_k fun K25 hK25 => ?_
  refine wp_region_lit ?_
  obtain ⟨s26, H26, H⟩ := bind_some H
  have J26 : ∀ (a : Act) (w26 : World), Has a Tryd.f4.ntmps [(12, .bool s26)] → (Box w26 g7 (cA .u8 8 t5.1)) → (Box w26 g15 (cA .u8 8 t13.1)) → (GF w26 ([g15] ++ ([g7] ++ (M)))) → (Chg [] w w26) → (MS ([g15] ++ ([g7] ++ (M))) w26) → K25 a w26 := by
   intro a w26 ha hBg7 hBg15 hG hC hM
   refine hK25 _ _ ?_; try clear hK25 K25
   refine wp_ret ?_
   try simp only [Exit.then, Exit.inBlock]
   have o1 : Ok [] ([g15] ++ ([g7] ++ (M))) w26.heap.size := Ok.nil _ _
   have o2 : Ok (M) ([g15] ++ ([g7] ++ (M))) w26.heap.size := (fun _ h => .inl (mr (mr (h))))
   have hG := hG.chg (Chg.refl [] _) o1 o2
   have hBg7 := hBg7.chg (Chg.refl [] _) (fun h => nomatch h)
   have hBg15 := hBg15.chg (Chg.refl [] _) (fun h => nomatch h)
   have hM : MS (M) w26 := (fun x h => hM.chg (Chg.refl [] _) x (mr (mr (h))))
   have hC := hC.trans (Chg.refl [] _) (Ok.nil _ _)
   obtain rfl := Option.some.inj H
   refine rt1 ha rfl rfl ?_
   exact ⟨rfl, hC, hM⟩
  have H := H26
  refine seg ha 2 [(51, .bool t3), (14, .pointer (some ⟨g7, 0, none⟩)), (15, .int .i64 t5.2)] (by kernel_rfl) fun a ha => ?_
  rcases Bool.eq_false_or_eq_true (t3) with hb27 | hb27
  ·have ha := ha.lit hb27
   have H := ite_t hb27 H
   refine sgh ha 3 [2, 2, 2] [(54, .bool (t5.2 == (0 : Int))), (14, .pointer (some ⟨g7, 0, none⟩)), (51, .bool true)] (by kernel_rfl) fun a ha => ?_
   rcases Bool.eq_false_or_eq_true (t5.2 == (0 : Int)) with hb28 | hb28
   ·have ha := ha.lit hb28
    have H := ite_t hb28 H
    refine sgh ha 6 [1, 1, 1, 5, 3, 0] [(12, .bool true)] (by kernel_rfl) fun a ha => ?_
    obtain rfl := Option.some.inj H
    exact J26 _ _ (ha.sel (by kernel_rfl)) hBg7 hBg15 hG hC hM
   ·have ha := ha.lit hb28
    have H := ite_f hb28 H
    refine ldA (cs := (cA .u8 8 t5.1)) ha rfl (by kernel_rfl) rfl rfl rfl (cells_sub (Box.cells hBg7) (all := (cA .u8 8 t5.1)) [] [] (by kernel_rfl)) fun a ha => ?_
    refine opk (v := .agg (cA .u8 8 ([(0 : Int), (0 : Int), (0 : Int), (0 : Int), (0 : Int), (0 : Int), (0 : Int), (0 : Int)] : List Int)).toArray) ha rfl rfl rfl rfl rfl (fun w => by kernel_rfl) fun a ha => ?_
    refine hop (v := .bool (eqA 8 t5.1 ([(0 : Int), (0 : Int), (0 : Int), (0 : Int), (0 : Int), (0 : Int), (0 : Int), (0 : Int)] : List Int))) (w' := w21) ha rfl rfl rfl (eqs_run (r := (eqA 8 t5.1 ([(0 : Int), (0 : Int), (0 : Int), (0 : Int), (0 : Int), (0 : Int), (0 : Int), (0 : Int)] : List Int))) (m := 9) ha rfl rfl (by kernel_rfl) rfl (by kernel_rfl) _) fun a ha => ?_
    refine sgh ha 3 [6, 3, 0] [(12, .bool (eqA 8 t5.1 ([(0 : Int), (0 : Int), (0 : Int), (0 : Int), (0 : Int), (0 : Int), (0 : Int), (0 : Int)] : List Int)))] (by kernel_rfl) fun a ha => ?_
    obtain rfl := Option.some.inj H
    exact J26 _ _ (ha.sel (by kernel_rfl)) hBg7 hBg15 hG hC hM
  ·have ha := ha.lit hb27
   have H := ite_f hb27 H
   refine sgh ha 9 [1, 1, 1, 1, 1, 1, 1, 4, 0] [(12, .bool false)] (by kernel_rfl) fun a ha => ?_
   obtain rfl := Option.some.inj H
   exact J26 _ _ (ha.sel (by kernel_rfl)) hBg7 hBg15 hG hC hM
 ·have H := ite_f hc24 H
  refine wp_skip ?_
  refine hK22 _ _ ?_; try clear hK22 K22
  refine wp_seq_k fun K29 hK29 => ?_
  refine drq0 (fun w' => Chg [] w21 w') (by kernel_rfl) (by kernel_rfl) (fun _ h => h) ?_
  obtain ⟨s30, H30, H⟩ := bind_some H
  have J30 : ∀ (a : Act) (w30 : World), Has a Tryd.f4.ntmps [(12, .bool s30)] → (Box w30 g7 (cA .u8 8 t5.1)) → (Box w30 g15 (cA .u8 8 t13.1)) → (GF w30 ([g15] ++ ([g7] ++ (M)))) → (Chg [] w w30) → (MS ([g15] ++ ([g7] ++ (M))) w30) → K29 a w30 := by
   intro a w30 ha hBg7 hBg15 hG hC hM
   refine hK29 _ _ ?_; try clear hK29 K29
   refine wp_ret ?_
   try simp only [Exit.then, Exit.inBlock]
   have o1 : Ok [] ([g15] ++ ([g7] ++ (M))) w30.heap.size := Ok.nil _ _
   have o2 : Ok (M) ([g15] ++ ([g7] ++ (M))) w30.heap.size := (fun _ h => .inl (mr (mr (h))))
   have hG := hG.chg (Chg.refl [] _) o1 o2
   have hBg7 := hBg7.chg (Chg.refl [] _) (fun h => nomatch h)
   have hBg15 := hBg15.chg (Chg.refl [] _) (fun h => nomatch h)
   have hM : MS (M) w30 := (fun x h => hM.chg (Chg.refl [] _) x (mr (mr (h))))
   have hC := hC.trans (Chg.refl [] _) (Ok.nil _ _)
   obtain rfl := Option.some.inj H
   refine rt1 ha rfl rfl ?_
   exact ⟨rfl, hC, hM⟩
  have H := H30
  refine qp 0 (.bool t3) ha rfl rfl rfl (by kernel_rfl) fun a ha => ?_
  refine qp 0 (.bool t3) ha rfl rfl rfl (by kernel_rfl) fun a ha => ?_
  have ha := ha.sel (env' := [(61, .bool t3), (0, .int .i64 a0), (1, .int .i64 a1), (2, .int .i64 a2), (3, .int .i64 a3), (4, .int .i64 a4), (5, .int .i64 a5), (14, .pointer (some ⟨g7, 0, none⟩)), (16, .pointer (some ⟨g15, 0, none⟩)), (21, .bool t21.2.2.2)]) (by kernel_rfl)
  rcases Bool.eq_false_or_eq_true (t3) with hb31 | hb31
  ·have ha := ha.lit hb31
   have H := ite_t hb31 H
   refine qp 0 (.bool t21.2.2.2) ha rfl rfl rfl (by kernel_rfl) fun a ha => ?_
   refine qp 3 (.bool t21.2.2.2) ha rfl rfl rfl (by kernel_rfl) fun a ha => ?_
   refine qp 0 (.bool t21.2.2.2) ha rfl rfl rfl (by kernel_rfl) fun a ha => ?_
   have ha := ha.sel (env' := [(64, .bool t21.2.2.2), (0, .int .i64 a0), (1, .int .i64 a1), (2, .int .i64 a2), (3, .int .i64 a3), (4, .int .i64 a4), (5, .int .i64 a5), (14, .pointer (some ⟨g7, 0, none⟩)), (16, .pointer (some ⟨g15, 0, none⟩))]) (by kernel_rfl)
   rcases Bool.eq_false_or_eq_true (t21.2.2.2) with hb32 | hb32
   ·have ha := ha.lit hb32
    have H := ite_t hb32 H
    refine qv (v := .agg (cA .u8 8 t5.1).toArray) ha rfl rfl rfl (fun w' hs => ldA_run (cs := (cA .u8 8 t5.1)) ha rfl (by kernel_rfl) (cells_sub (Box.cells (Box.chg hBg7 hs (fun h => nomatch h))) (all := (cA .u8 8 t5.1)) [] [] (by kernel_rfl))) fun a ha => ?_
    refine qv (v := .agg (cA .u8 8 t13.1).toArray) ha rfl rfl rfl (fun w' hs => ldA_run (cs := (cA .u8 8 t13.1)) ha rfl (by kernel_rfl) (cells_sub (Box.cells (Box.chg hBg15 hs (fun h => nomatch h))) (all := (cA .u8 8 t13.1)) [] [] (by kernel_rfl))) fun a ha => ?_
    refine qv (v := .bool (eqA 8 t5.1 t13.1)) ha rfl rfl rfl (fun w' hs => eqs_run (r := (eqA 8 t5.1 t13.1)) (m := 9) ha rfl rfl (by kernel_rfl) rfl (by kernel_rfl) w') fun a ha => ?_
    refine qp 0 (.int .i64 a0) ha rfl rfl rfl (by kernel_rfl) fun a ha => ?_
    refine qp 0 (.int .i64 a3) ha rfl rfl rfl (by kernel_rfl) fun a ha => ?_
    refine qp 0 (.bool (a0 == a3)) ha rfl rfl rfl (by kernel_rfl) fun a ha => ?_
    refine qp 0 (.bool (a0 == a3)) ha rfl rfl rfl (by kernel_rfl) fun a ha => ?_
    have ha := ha.sel (env' := [(71, .bool (a0 == a3)), (1, .int .i64 a1), (2, .int .i64 a2), (4, .int .i64 a4), (5, .int .i64 a5), (14, .pointer (some ⟨g7, 0, none⟩)), (16, .pointer (some ⟨g15, 0, none⟩)), (64, .bool true), (67, .bool (eqA 8 t5.1 t13.1))]) (by kernel_rfl)
    rcases Bool.eq_false_or_eq_true (a0 == a3) with hb33 | hb33
    ·have ha := ha.lit hb33
     have H := ite_t hb33 H
     refine qp 0 (.int .i64 a1) ha rfl rfl rfl (by kernel_rfl) fun a ha => ?_
     refine qp 0 (.int .i64 a4) ha rfl rfl rfl (by kernel_rfl) fun a ha => ?_
     refine qp 0 (.bool (a1 == a4)) ha rfl rfl rfl (by kernel_rfl) fun a ha => ?_
     refine qp 3 (.bool (a1 == a4)) ha rfl rfl rfl (by kernel_rfl) fun a ha => ?_
     refine qp 0 (.bool (a1 == a4)) ha rfl rfl rfl (by kernel_rfl) fun a ha => ?_
     have ha := ha.sel (env' := [(76, .bool (a1 == a4)), (2, .int .i64 a2), (5, .int .i64 a5), (14, .pointer (some ⟨g7, 0, none⟩)), (16, .pointer (some ⟨g15, 0, none⟩)), (64, .bool true), (67, .bool (eqA 8 t5.1 t13.1))]) (by kernel_rfl)
     rcases Bool.eq_false_or_eq_true (a1 == a4) with hb34 | hb34
     ·have ha := ha.lit hb34
      have H := ite_t hb34 H
      refine qp 0 (.int .i64 a2) ha rfl rfl rfl (by kernel_rfl) fun a ha => ?_
      refine qp 0 (.int .i64 a5) ha rfl rfl rfl (by kernel_rfl) fun a ha => ?_
      refine qp 0 (.bool (a2 == a5)) ha rfl rfl rfl (by kernel_rfl) fun a ha => ?_
      refine qp 3 (.bool (a2 == a5)) ha rfl rfl rfl (by kernel_rfl) fun a ha => ?_
      refine qp 0 (.bool ((eqA 8 t5.1 t13.1) == (a2 == a5))) ha rfl rfl rfl (by kernel_rfl) fun a ha => ?_
      refine qp 3 (.bool ((eqA 8 t5.1 t13.1) == (a2 == a5))) ha rfl rfl rfl (by kernel_rfl) fun a ha => ?_
      refine qp 0 (.bool ((eqA 8 t5.1 t13.1) == (a2 == a5))) ha rfl rfl rfl (by kernel_rfl) fun a ha => ?_
      have ha := ha.sel (env' := [(83, .bool ((eqA 8 t5.1 t13.1) == (a2 == a5))), (14, .pointer (some ⟨g7, 0, none⟩)), (16, .pointer (some ⟨g15, 0, none⟩))]) (by kernel_rfl)
      rcases Bool.eq_false_or_eq_true ((eqA 8 t5.1 t13.1) == (a2 == a5)) with hb35 | hb35
      ·have ha := ha.lit hb35
       have H := ite_t hb35 H
       refine qv (v := .agg (cA .u8 8 t5.1).toArray) ha rfl rfl rfl (fun w' hs => ldA_run (cs := (cA .u8 8 t5.1)) ha rfl (by kernel_rfl) (cells_sub (Box.cells (Box.chg hBg7 hs (fun h => nomatch h))) (all := (cA .u8 8 t5.1)) [] [] (by kernel_rfl))) fun a ha => ?_
       obtain ⟨t36, H36, H⟩ := bind_some H
       refine qc (.string (bstr t36)) ha (by rfl) (by kernel_rfl) (by rfl) (by rfl) (by rfl) (fun w' hs => (rd_Text.walk w' [] (MS.nil _) (hG.chg (M' := []) hs (Ok.nil _ _) (Ok.nil _ _)) t5.1 k _ H36).mono fun v w'' ⟨hv, hc, _⟩ => ⟨hv, hs.trans hc (Ok.nil _ _)⟩) fun a ha => ?_
       refine qv (v := .agg (cA .u8 8 t13.1).toArray) ha rfl rfl rfl (fun w' hs => ldA_run (cs := (cA .u8 8 t13.1)) ha rfl (by kernel_rfl) (cells_sub (Box.cells (Box.chg hBg15 hs (fun h => nomatch h))) (all := (cA .u8 8 t13.1)) [] [] (by kernel_rfl))) fun a ha => ?_
       obtain ⟨t37, H37, H⟩ := bind_some H
       refine qc (.string (bstr t37)) ha (by rfl) (by kernel_rfl) (by rfl) (by rfl) (by rfl) (fun w' hs => (rd_Text.walk w' [] (MS.nil _) (hG.chg (M' := []) hs (Ok.nil _ _) (Ok.nil _ _)) t13.1 k _ H37).mono fun v w'' ⟨hv, hc, _⟩ => ⟨hv, hs.trans hc (Ok.nil _ _)⟩) fun a ha => ?_
       refine qp 0 (.bool ((bstr t36).toList == (bstr t37).toList)) ha rfl rfl rfl (by kernel_rfl) fun a ha => ?_
       refine qv (v := .agg (cA .u8 8 t5.1).toArray) ha rfl rfl rfl (fun w' hs => ldA_run (cs := (cA .u8 8 t5.1)) ha rfl (by kernel_rfl) (cells_sub (Box.cells (Box.chg hBg7 hs (fun h => nomatch h))) (all := (cA .u8 8 t5.1)) [] [] (by kernel_rfl))) fun a ha => ?_
       refine qv (v := .agg (cA .u8 8 t13.1).toArray) ha rfl rfl rfl (fun w' hs => ldA_run (cs := (cA .u8 8 t13.1)) ha rfl (by kernel_rfl) (cells_sub (Box.cells (Box.chg hBg15 hs (fun h => nomatch h))) (all := (cA .u8 8 t13.1)) [] [] (by kernel_rfl))) fun a ha => ?_
       refine qv (v := .bool (eqA 8 t5.1 t13.1)) ha rfl rfl rfl (fun w' hs => eqs_run (r := (eqA 8 t5.1 t13.1)) (m := 9) ha rfl rfl (by kernel_rfl) rfl (by kernel_rfl) w') fun a ha => ?_
       refine qp 0 (.bool (((bstr t36).toList == (bstr t37).toList) == (eqA 8 t5.1 t13.1))) ha rfl rfl rfl (by kernel_rfl) fun a ha => ?_
       refine qp 3 (.bool (((bstr t36).toList == (bstr t37).toList) == (eqA 8 t5.1 t13.1))) ha rfl rfl rfl (by kernel_rfl) fun a ha => ?_
       refine qp 0 (.bool (((bstr t36).toList == (bstr t37).toList) == (eqA 8 t5.1 t13.1))) ha rfl rfl rfl (by kernel_rfl) fun a ha => ?_
       refine wpQuiet_nil ?_
       intro w38 hc39
       have o1 : Ok [] ([g15] ++ ([g7] ++ (M))) w21.heap.size := Ok.nil _ _
       have o2 : Ok ([g15] ++ ([g7] ++ (M))) ([g15] ++ ([g7] ++ (M))) w21.heap.size := (Ok.refl _ _)
       have hG := hG.chg hc39 o1 o2
       have hBg7 := hBg7.chg hc39 (fun h => nomatch h)
       have hBg15 := hBg15.chg hc39 (fun h => nomatch h)
       have hM : MS ([g15] ++ ([g7] ++ (M))) w38 := (hM.chg hc39)
       have hC := hC.trans hc39 (Ok.nil _ _)
       refine wpl_end ?_
       obtain rfl := Option.some.inj H
       exact J30 _ _ (ha.sel (by kernel_rfl)) hBg7 hBg15 hG hC hM
      ·have ha := ha.lit hb35
       have H := ite_f hb35 H
       refine qo ha rfl rfl rfl fun a ha => ?_
       refine qo ha rfl rfl rfl fun a ha => ?_
       refine qo ha rfl rfl rfl fun a ha => ?_
       refine qo ha rfl rfl rfl fun a ha => ?_
       refine qo ha rfl rfl rfl fun a ha => ?_
       refine qo ha rfl rfl rfl fun a ha => ?_
       refine qo ha rfl rfl rfl fun a ha => ?_
       refine qo ha rfl rfl rfl fun a ha => ?_
       refine qo ha rfl rfl rfl fun a ha => ?_
       refine qp 4 (.bool false) ha rfl rfl rfl (by kernel_rfl) fun a ha => ?_
       refine qp 0 (.bool false) ha rfl rfl rfl (by kernel_rfl) fun a ha => ?_
       refine wpQuiet_nil ?_
       intro w40 hc41
       have o1 : Ok [] ([g15] ++ ([g7] ++ (M))) w21.heap.size := Ok.nil _ _
       have o2 : Ok ([g15] ++ ([g7] ++ (M))) ([g15] ++ ([g7] ++ (M))) w21.heap.size := (Ok.refl _ _)
       have hG := hG.chg hc41 o1 o2
       have hBg7 := hBg7.chg hc41 (fun h => nomatch h)
       have hBg15 := hBg15.chg hc41 (fun h => nomatch h)
       have hM : MS ([g15] ++ ([g7] ++ (M))) w40 := (hM.chg hc41)
       have hC := hC.trans hc41 (Ok.nil _ _)
       refine wpl_end ?_
       obtain rfl := Option.some.inj H
       exact J30 _ _ (ha.sel (by kernel_rfl)) hBg7 hBg15 hG hC hM
     ·have ha := ha.lit hb34
      have H := ite_f hb34 H
      refine qo ha rfl rfl rfl fun a ha => ?_
      refine qo ha rfl rfl rfl fun a ha => ?_
      refine qo ha rfl rfl rfl fun a ha => ?_
      refine qp 4 (.bool false) ha rfl rfl rfl (by kernel_rfl) fun a ha => ?_
      refine qp 0 (.bool ((eqA 8 t5.1 t13.1) == false)) ha rfl rfl rfl (by kernel_rfl) fun a ha => ?_
      refine qp 3 (.bool ((eqA 8 t5.1 t13.1) == false)) ha rfl rfl rfl (by kernel_rfl) fun a ha => ?_
      refine qp 0 (.bool ((eqA 8 t5.1 t13.1) == false)) ha rfl rfl rfl (by kernel_rfl) fun a ha => ?_
      have ha := ha.sel (env' := [(83, .bool ((eqA 8 t5.1 t13.1) == false)), (14, .pointer (some ⟨g7, 0, none⟩)), (16, .pointer (some ⟨g15, 0, none⟩))]) (by kernel_rfl)
      rcases Bool.eq_false_or_eq_true ((eqA 8 t5.1 t13.1) == false) with hb42 | hb42
      ·have ha := ha.lit hb42
       have H := ite_t hb42 H
       refine qv (v := .agg (cA .u8 8 t5.1).toArray) ha rfl rfl rfl (fun w' hs => ldA_run (cs := (cA .u8 8 t5.1)) ha rfl (by kernel_rfl) (cells_sub (Box.cells (Box.chg hBg7 hs (fun h => nomatch h))) (all := (cA .u8 8 t5.1)) [] [] (by kernel_rfl))) fun a ha => ?_
       obtain ⟨t43, H43, H⟩ := bind_some H
       refine qc (.string (bstr t43)) ha (by rfl) (by kernel_rfl) (by rfl) (by rfl) (by rfl) (fun w' hs => (rd_Text.walk w' [] (MS.nil _) (hG.chg (M' := []) hs (Ok.nil _ _) (Ok.nil _ _)) t5.1 k _ H43).mono fun v w'' ⟨hv, hc, _⟩ => ⟨hv, hs.trans hc (Ok.nil _ _)⟩) fun a ha => ?_
       refine qv (v := .agg (cA .u8 8 t13.1).toArray) ha rfl rfl rfl (fun w' hs => ldA_run (cs := (cA .u8 8 t13.1)) ha rfl (by kernel_rfl) (cells_sub (Box.cells (Box.chg hBg15 hs (fun h => nomatch h))) (all := (cA .u8 8 t13.1)) [] [] (by kernel_rfl))) fun a ha => ?_
       obtain ⟨t44, H44, H⟩ := bind_some H
       refine qc (.string (bstr t44)) ha (by rfl) (by kernel_rfl) (by rfl) (by rfl) (by rfl) (fun w' hs => (rd_Text.walk w' [] (MS.nil _) (hG.chg (M' := []) hs (Ok.nil _ _) (Ok.nil _ _)) t13.1 k _ H44).mono fun v w'' ⟨hv, hc, _⟩ => ⟨hv, hs.trans hc (Ok.nil _ _)⟩) fun a ha => ?_
       refine qp 0 (.bool ((bstr t43).toList == (bstr t44).toList)) ha rfl rfl rfl (by kernel_rfl) fun a ha => ?_
       refine qv (v := .agg (cA .u8 8 t5.1).toArray) ha rfl rfl rfl (fun w' hs => ldA_run (cs := (cA .u8 8 t5.1)) ha rfl (by kernel_rfl) (cells_sub (Box.cells (Box.chg hBg7 hs (fun h => nomatch h))) (all := (cA .u8 8 t5.1)) [] [] (by kernel_rfl))) fun a ha => ?_
       refine qv (v := .agg (cA .u8 8 t13.1).toArray) ha rfl rfl rfl (fun w' hs => ldA_run (cs := (cA .u8 8 t13.1)) ha rfl (by kernel_rfl) (cells_sub (Box.cells (Box.chg hBg15 hs (fun h => nomatch h))) (all := (cA .u8 8 t13.1)) [] [] (by kernel_rfl))) fun a ha => ?_
       refine qv (v := .bool (eqA 8 t5.1 t13.1)) ha rfl rfl rfl (fun w' hs => eqs_run (r := (eqA 8 t5.1 t13.1)) (m := 9) ha rfl rfl (by kernel_rfl) rfl (by kernel_rfl) w') fun a ha => ?_
       refine qp 0 (.bool (((bstr t43).toList == (bstr t44).toList) == (eqA 8 t5.1 t13.1))) ha rfl rfl rfl (by kernel_rfl) fun a ha => ?_
       refine qp 3 (.bool (((bstr t43).toList == (bstr t44).toList) == (eqA 8 t5.1 t13.1))) ha rfl rfl rfl (by kernel_rfl) fun a ha => ?_
       refine qp 0 (.bool (((bstr t43).toList == (bstr t44).toList) == (eqA 8 t5.1 t13.1))) ha rfl rfl rfl (by kernel_rfl) fun a ha => ?_
       refine wpQuiet_nil ?_
       intro w45 hc46
       have o1 : Ok [] ([g15] ++ ([g7] ++ (M))) w21.heap.size := Ok.nil _ _
       have o2 : Ok ([g15] ++ ([g7] ++ (M))) ([g15] ++ ([g7] ++ (M))) w21.heap.size := (Ok.refl _ _)
       have hG := hG.chg hc46 o1 o2
       have hBg7 := hBg7.chg hc46 (fun h => nomatch h)
       have hBg15 := hBg15.chg hc46 (fun h => nomatch h)
       have hM : MS ([g15] ++ ([g7] ++ (M))) w45 := (hM.chg hc46)
       have hC := hC.trans hc46 (Ok.nil _ _)
       refine wpl_end ?_
       obtain rfl := Option.some.inj H
       exact J30 _ _ (ha.sel (by kernel_rfl)) hBg7 hBg15 hG hC hM
      ·have ha := ha.lit hb42
       have H := ite_f hb42 H
       refine qo ha rfl rfl rfl fun a ha => ?_
       refine qo ha rfl rfl rfl fun a ha => ?_
       refine qo ha rfl rfl rfl fun a ha => ?_
       refine qo ha rfl rfl rfl fun a ha => ?_
       refine qo ha rfl rfl rfl fun a ha => ?_
       refine qo ha rfl rfl rfl fun a ha => ?_
       refine qo ha rfl rfl rfl fun a ha => ?_
       refine qo ha rfl rfl rfl fun a ha => ?_
       refine qo ha rfl rfl rfl fun a ha => ?_
       refine qp 4 (.bool false) ha rfl rfl rfl (by kernel_rfl) fun a ha => ?_
       refine qp 0 (.bool false) ha rfl rfl rfl (by kernel_rfl) fun a ha => ?_
       refine wpQuiet_nil ?_
       intro w47 hc48
       have o1 : Ok [] ([g15] ++ ([g7] ++ (M))) w21.heap.size := Ok.nil _ _
       have o2 : Ok ([g15] ++ ([g7] ++ (M))) ([g15] ++ ([g7] ++ (M))) w21.heap.size := (Ok.refl _ _)
       have hG := hG.chg hc48 o1 o2
       have hBg7 := hBg7.chg hc48 (fun h => nomatch h)
       have hBg15 := hBg15.chg hc48 (fun h => nomatch h)
       have hM : MS ([g15] ++ ([g7] ++ (M))) w47 := (hM.chg hc48)
       have hC := hC.trans hc48 (Ok.nil _ _)
       refine wpl_end ?_
       obtain rfl := Option.some.inj H
       exact J30 _ _ (ha.sel (by kernel_rfl)) hBg7 hBg15 hG hC hM
    ·have ha := ha.lit hb33
     have H := ite_f hb33 H
     refine qo ha rfl rfl rfl fun a ha => ?_
     refine qo ha rfl rfl rfl fun a ha => ?_
     refine qo ha rfl rfl rfl fun a ha => ?_
     refine qp 4 (.bool false) ha rfl rfl rfl (by kernel_rfl) fun a ha => ?_
     refine qp 0 (.bool false) ha rfl rfl rfl (by kernel_rfl) fun a ha => ?_
     refine qo ha rfl rfl rfl fun a ha => ?_
     refine qo ha rfl rfl rfl fun a ha => ?_
     refine qo ha rfl rfl rfl fun a ha => ?_
     refine qp 4 (.bool false) ha rfl rfl rfl (by kernel_rfl) fun a ha => ?_
     refine qp 0 (.bool ((eqA 8 t5.1 t13.1) == false)) ha rfl rfl rfl (by kernel_rfl) fun a ha => ?_
     refine qp 3 (.bool ((eqA 8 t5.1 t13.1) == false)) ha rfl rfl rfl (by kernel_rfl) fun a ha => ?_
     refine qp 0 (.bool ((eqA 8 t5.1 t13.1) == false)) ha rfl rfl rfl (by kernel_rfl) fun a ha => ?_
     have ha := ha.sel (env' := [(83, .bool ((eqA 8 t5.1 t13.1) == false)), (14, .pointer (some ⟨g7, 0, none⟩)), (16, .pointer (some ⟨g15, 0, none⟩))]) (by kernel_rfl)
     rcases Bool.eq_false_or_eq_true ((eqA 8 t5.1 t13.1) == false) with hb49 | hb49
     ·have ha := ha.lit hb49
      have H := ite_t hb49 H
      refine qv (v := .agg (cA .u8 8 t5.1).toArray) ha rfl rfl rfl (fun w' hs => ldA_run (cs := (cA .u8 8 t5.1)) ha rfl (by kernel_rfl) (cells_sub (Box.cells (Box.chg hBg7 hs (fun h => nomatch h))) (all := (cA .u8 8 t5.1)) [] [] (by kernel_rfl))) fun a ha => ?_
      obtain ⟨t50, H50, H⟩ := bind_some H
      refine qc (.string (bstr t50)) ha (by rfl) (by kernel_rfl) (by rfl) (by rfl) (by rfl) (fun w' hs => (rd_Text.walk w' [] (MS.nil _) (hG.chg (M' := []) hs (Ok.nil _ _) (Ok.nil _ _)) t5.1 k _ H50).mono fun v w'' ⟨hv, hc, _⟩ => ⟨hv, hs.trans hc (Ok.nil _ _)⟩) fun a ha => ?_
      refine qv (v := .agg (cA .u8 8 t13.1).toArray) ha rfl rfl rfl (fun w' hs => ldA_run (cs := (cA .u8 8 t13.1)) ha rfl (by kernel_rfl) (cells_sub (Box.cells (Box.chg hBg15 hs (fun h => nomatch h))) (all := (cA .u8 8 t13.1)) [] [] (by kernel_rfl))) fun a ha => ?_
      obtain ⟨t51, H51, H⟩ := bind_some H
      refine qc (.string (bstr t51)) ha (by rfl) (by kernel_rfl) (by rfl) (by rfl) (by rfl) (fun w' hs => (rd_Text.walk w' [] (MS.nil _) (hG.chg (M' := []) hs (Ok.nil _ _) (Ok.nil _ _)) t13.1 k _ H51).mono fun v w'' ⟨hv, hc, _⟩ => ⟨hv, hs.trans hc (Ok.nil _ _)⟩) fun a ha => ?_
      refine qp 0 (.bool ((bstr t50).toList == (bstr t51).toList)) ha rfl rfl rfl (by kernel_rfl) fun a ha => ?_
      refine qv (v := .agg (cA .u8 8 t5.1).toArray) ha rfl rfl rfl (fun w' hs => ldA_run (cs := (cA .u8 8 t5.1)) ha rfl (by kernel_rfl) (cells_sub (Box.cells (Box.chg hBg7 hs (fun h => nomatch h))) (all := (cA .u8 8 t5.1)) [] [] (by kernel_rfl))) fun a ha => ?_
      refine qv (v := .agg (cA .u8 8 t13.1).toArray) ha rfl rfl rfl (fun w' hs => ldA_run (cs := (cA .u8 8 t13.1)) ha rfl (by kernel_rfl) (cells_sub (Box.cells (Box.chg hBg15 hs (fun h => nomatch h))) (all := (cA .u8 8 t13.1)) [] [] (by kernel_rfl))) fun a ha => ?_
      refine qv (v := .bool (eqA 8 t5.1 t13.1)) ha rfl rfl rfl (fun w' hs => eqs_run (r := (eqA 8 t5.1 t13.1)) (m := 9) ha rfl rfl (by kernel_rfl) rfl (by kernel_rfl) w') fun a ha => ?_
      refine qp 0 (.bool (((bstr t50).toList == (bstr t51).toList) == (eqA 8 t5.1 t13.1))) ha rfl rfl rfl (by kernel_rfl) fun a ha => ?_
      refine qp 3 (.bool (((bstr t50).toList == (bstr t51).toList) == (eqA 8 t5.1 t13.1))) ha rfl rfl rfl (by kernel_rfl) fun a ha => ?_
      refine qp 0 (.bool (((bstr t50).toList == (bstr t51).toList) == (eqA 8 t5.1 t13.1))) ha rfl rfl rfl (by kernel_rfl) fun a ha => ?_
      refine wpQuiet_nil ?_
      intro w52 hc53
      have o1 : Ok [] ([g15] ++ ([g7] ++ (M))) w21.heap.size := Ok.nil _ _
      have o2 : Ok ([g15] ++ ([g7] ++ (M))) ([g15] ++ ([g7] ++ (M))) w21.heap.size := (Ok.refl _ _)
      have hG := hG.chg hc53 o1 o2
      have hBg7 := hBg7.chg hc53 (fun h => nomatch h)
      have hBg15 := hBg15.chg hc53 (fun h => nomatch h)
      have hM : MS ([g15] ++ ([g7] ++ (M))) w52 := (hM.chg hc53)
      have hC := hC.trans hc53 (Ok.nil _ _)
      refine wpl_end ?_
      obtain rfl := Option.some.inj H
      exact J30 _ _ (ha.sel (by kernel_rfl)) hBg7 hBg15 hG hC hM
     ·have ha := ha.lit hb49
      have H := ite_f hb49 H
      refine qo ha rfl rfl rfl fun a ha => ?_
      refine qo ha rfl rfl rfl fun a ha => ?_
      refine qo ha rfl rfl rfl fun a ha => ?_
      refine qo ha rfl rfl rfl fun a ha => ?_
      refine qo ha rfl rfl rfl fun a ha => ?_
      refine qo ha rfl rfl rfl fun a ha => ?_
      refine qo ha rfl rfl rfl fun a ha => ?_
      refine qo ha rfl rfl rfl fun a ha => ?_
      refine qo ha rfl rfl rfl fun a ha => ?_
      refine qp 4 (.bool false) ha rfl rfl rfl (by kernel_rfl) fun a ha => ?_
      refine qp 0 (.bool false) ha rfl rfl rfl (by kernel_rfl) fun a ha => ?_
      refine wpQuiet_nil ?_
      intro w54 hc55
      have o1 : Ok [] ([g15] ++ ([g7] ++ (M))) w21.heap.size := Ok.nil _ _
      have o2 : Ok ([g15] ++ ([g7] ++ (M))) ([g15] ++ ([g7] ++ (M))) w21.heap.size := (Ok.refl _ _)
      have hG := hG.chg hc55 o1 o2
      have hBg7 := hBg7.chg hc55 (fun h => nomatch h)
      have hBg15 := hBg15.chg hc55 (fun h => nomatch h)
      have hM : MS ([g15] ++ ([g7] ++ (M))) w54 := (hM.chg hc55)
      have hC := hC.trans hc55 (Ok.nil _ _)
      refine wpl_end ?_
      obtain rfl := Option.some.inj H
      exact J30 _ _ (ha.sel (by kernel_rfl)) hBg7 hBg15 hG hC hM
   ·have ha := ha.lit hb32
    have H := ite_f hb32 H
    refine qo ha rfl rfl rfl fun a ha => ?_
    refine qo ha rfl rfl rfl fun a ha => ?_
    refine qo ha rfl rfl rfl fun a ha => ?_
    refine qo ha rfl rfl rfl fun a ha => ?_
    refine qo ha rfl rfl rfl fun a ha => ?_
    refine qo ha rfl rfl rfl fun a ha => ?_
    refine qo ha rfl rfl rfl fun a ha => ?_
    refine qo ha rfl rfl rfl fun a ha => ?_
    refine qo ha rfl rfl rfl fun a ha => ?_
    refine qo ha rfl rfl rfl fun a ha => ?_
    refine qo ha rfl rfl rfl fun a ha => ?_
    refine qo ha rfl rfl rfl fun a ha => ?_
    refine qo ha rfl rfl rfl fun a ha => ?_
    refine qo ha rfl rfl rfl fun a ha => ?_
    refine qo ha rfl rfl rfl fun a ha => ?_
    refine qo ha rfl rfl rfl fun a ha => ?_
    refine qo ha rfl rfl rfl fun a ha => ?_
    refine qp 4 (.bool false) ha rfl rfl rfl (by kernel_rfl) fun a ha => ?_
    refine qp 0 (.bool false) ha rfl rfl rfl (by kernel_rfl) fun a ha => ?_
    refine qo ha rfl rfl rfl fun a ha => ?_
    refine qo ha rfl rfl rfl fun a ha => ?_
    refine qo ha rfl rfl rfl fun a ha => ?_
    refine qo ha rfl rfl rfl fun a ha => ?_
    refine qo ha rfl rfl rfl fun a ha => ?_
    refine qo ha rfl rfl rfl fun a ha => ?_
    refine qo ha rfl rfl rfl fun a ha => ?_
    refine qo ha rfl rfl rfl fun a ha => ?_
    refine qo ha rfl rfl rfl fun a ha => ?_
    refine qp 4 (.bool false) ha rfl rfl rfl (by kernel_rfl) fun a ha => ?_
    refine qp 0 (.bool false) ha rfl rfl rfl (by kernel_rfl) fun a ha => ?_
    refine wpQuiet_nil ?_
    intro w56 hc57
    have o1 : Ok [] ([g15] ++ ([g7] ++ (M))) w21.heap.size := Ok.nil _ _
    have o2 : Ok ([g15] ++ ([g7] ++ (M))) ([g15] ++ ([g7] ++ (M))) w21.heap.size := (Ok.refl _ _)
    have hG := hG.chg hc57 o1 o2
    have hBg7 := hBg7.chg hc57 (fun h => nomatch h)
    have hBg15 := hBg15.chg hc57 (fun h => nomatch h)
    have hM : MS ([g15] ++ ([g7] ++ (M))) w56 := (hM.chg hc57)
    have hC := hC.trans hc57 (Ok.nil _ _)
    refine wpl_end ?_
    obtain rfl := Option.some.inj H
    exact J30 _ _ (ha.sel (by kernel_rfl)) hBg7 hBg15 hG hC hM
  ·have ha := ha.lit hb31
   have H := ite_f hb31 H
   refine qo ha rfl rfl rfl fun a ha => ?_
   refine qp 4 (.bool false) ha rfl rfl rfl (by kernel_rfl) fun a ha => ?_
   refine qp 0 (.bool false) ha rfl rfl rfl (by kernel_rfl) fun a ha => ?_
   refine qo ha rfl rfl rfl fun a ha => ?_
   refine qo ha rfl rfl rfl fun a ha => ?_
   refine qo ha rfl rfl rfl fun a ha => ?_
   refine qo ha rfl rfl rfl fun a ha => ?_
   refine qo ha rfl rfl rfl fun a ha => ?_
   refine qo ha rfl rfl rfl fun a ha => ?_
   refine qo ha rfl rfl rfl fun a ha => ?_
   refine qo ha rfl rfl rfl fun a ha => ?_
   refine qo ha rfl rfl rfl fun a ha => ?_
   refine qo ha rfl rfl rfl fun a ha => ?_
   refine qo ha rfl rfl rfl fun a ha => ?_
   refine qo ha rfl rfl rfl fun a ha => ?_
   refine qo ha rfl rfl rfl fun a ha => ?_
   refine qo ha rfl rfl rfl fun a ha => ?_
   refine qo ha rfl rfl rfl fun a ha => ?_
   refine qo ha rfl rfl rfl fun a ha => ?_
   refine qo ha rfl rfl rfl fun a ha => ?_
   refine qp 4 (.bool false) ha rfl rfl rfl (by kernel_rfl) fun a ha => ?_
   refine qp 0 (.bool false) ha rfl rfl rfl (by kernel_rfl) fun a ha => ?_
   refine qo ha rfl rfl rfl fun a ha => ?_
   refine qo ha rfl rfl rfl fun a ha => ?_
   refine qo ha rfl rfl rfl fun a ha => ?_
   refine qo ha rfl rfl rfl fun a ha => ?_
   refine qo ha rfl rfl rfl fun a ha => ?_
   refine qo ha rfl rfl rfl fun a ha => ?_
   refine qo ha rfl rfl rfl fun a ha => ?_
   refine qo ha rfl rfl rfl fun a ha => ?_
   refine qo ha rfl rfl rfl fun a ha => ?_
   refine qp 4 (.bool false) ha rfl rfl rfl (by kernel_rfl) fun a ha => ?_
   refine qp 0 (.bool false) ha rfl rfl rfl (by kernel_rfl) fun a ha => ?_
   refine wpQuiet_nil ?_
   intro w58 hc59
   have o1 : Ok [] ([g15] ++ ([g7] ++ (M))) w21.heap.size := Ok.nil _ _
   have o2 : Ok ([g15] ++ ([g7] ++ (M))) ([g15] ++ ([g7] ++ (M))) w21.heap.size := (Ok.refl _ _)
   have hG := hG.chg hc59 o1 o2
   have hBg7 := hBg7.chg hc59 (fun h => nomatch h)
   have hBg15 := hBg15.chg hc59 (fun h => nomatch h)
   have hM : MS ([g15] ++ ([g7] ++ (M))) w58 := (hM.chg hc59)
   have hC := hC.trans hc59 (Ok.nil _ _)
   refine wpl_end ?_
   obtain rfl := Option.some.inj H
   exact J30 _ _ (ha.sel (by kernel_rfl)) hBg7 hBg15 hG hC hM
end Go.E
