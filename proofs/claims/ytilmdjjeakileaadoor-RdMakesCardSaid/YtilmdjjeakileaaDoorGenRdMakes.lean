/- What the functions that the law reaches compute, and the walks that show it. -/
import Derived.Test.YtilmdjjeakileaaDoorEngU
import Derived.Test.YtilmdjjeakileaaDoorShelf
import Derived.Test.YtilmdjjeakileaaDoorProg
import Derived.Test.YtilmdjjeakileaaDoorGenRdMakesP1
set_option linter.unusedVariables false
set_option linter.unusedSimpArgs false
namespace Go.E
open Go.RowKit Go.Proofs
def rd_Parse.f (k : Nat) (a0 : List UInt8) : Option (List Int × Int) := (strings_Split.f a0 ([58] : List UInt8)).bind fun t7 => (if ((t7.length : Int) == (2 : Int)) = true then (if 0 ≤ (1 : Int) ∧ (1 : Int) < (t7.length : Int) then (rd_strange.f k (rd t7 (1 : Int))).bind fun t21 => (rd_Text.f k t21).bind fun t26 => (if (!((bstr t26).toList == (bstr a0).toList)) = true then some ((([(0 : Int), (0 : Int), (0 : Int), (0 : Int), (0 : Int), (0 : Int), (0 : Int), (0 : Int)] : List Int) : List Int), ((4 : Int) : Int)) else some ((t21 : List Int), ((0 : Int) : Int))) else none) else (if ((t7.length : Int) == (3 : Int)) = true then (if 0 ≤ (0 : Int) ∧ (0 : Int) < (t7.length : Int) then (if 0 ≤ (1 : Int) ∧ (1 : Int) < (t7.length : Int) then (if 0 ≤ (2 : Int) ∧ (2 : Int) < (t7.length : Int) then (rd_known.f k (rd t7 (0 : Int)) (rd t7 (1 : Int)) (rd t7 (2 : Int))).bind fun t60 => ((if (!t60.2) = true then some (true : Bool) else (rd_Text.f k t60.1).bind fun t75 => some (!((bstr t75).toList == (bstr a0).toList) : Bool))).bind fun s66 => (if s66 = true then some ((([(0 : Int), (0 : Int), (0 : Int), (0 : Int), (0 : Int), (0 : Int), (0 : Int), (0 : Int)] : List Int) : List Int), ((4 : Int) : Int)) else some ((t60.1 : List Int), ((0 : Int) : Int))) else none) else none) else none) else some ((([(0 : Int), (0 : Int), (0 : Int), (0 : Int), (0 : Int), (0 : Int), (0 : Int), (0 : Int)] : List Int) : List Int), ((4 : Int) : Int))))
set_option maxRecDepth 100000 in
theorem rd_Parse.walk (w : World) (M : List Nat) (hM : MS M w) (hG : GF w M) (a0 : List UInt8) (k : Nat) (r : List Int × Int) (H : rd_Parse.f k a0 = some r) :
    To Tryd.prog 8 [.string (bstr a0)] w fun v w' => v = .tuple #[.agg (cA .u8 8 r.1).toArray, .int .i64 r.2] ∧ Chg [] w w' ∧ MS (M) w' := by
 unfold rd_Parse.f at H
 refine ent Tryd.func8 rfl [(0, .string (bstr a0))] rfl (by rfl) fun a ha => ?_
 have hC : Chg [] w w := Chg.refl _ _
 refine wp_seq_k fun K1 hK1 => ?_
 refine wp_region_lit ?_
 refine al (cs := (cA .u8 8 (List.replicate 8 (0 : Int)))) (z := .agg (cA .u8 8 (List.replicate 8 (0 : Int))).toArray) ha (fun w => by kernel_rfl) rfl rfl rfl rfl fun a w2 g3 hN4 ha => ?_
 have o1 : Ok [] (M) w.heap.size := Ok.nil _ _
 have o2 : Ok ([g3] ++ (M)) (M) w.heap.size := (Ok.app (hN4.ok _) (Ok.refl _ _))
 have hG := hG.chg hN4.chg o1 o2
 have p_i5_M : ∀ x ∈ [g3], x ∉ M := fun x hx hy => absurd (hM x (hy)) (Nat.not_lt.2 ((hN4.ge1) x hx))
 have e_i5 : ∀ x ∈ [g3], w.heap.size ≤ x := fun x hx => Nat.le_trans hC.size ((hN4.ge1) x hx)
 have hM : MS ([g3] ++ (M)) w2 := (MS.app hN4.ms (hM.chg hN4.chg))
 have hC := hC.trans hN4.chg (Ok.nil _ _)
 have hBg3 : Box w2 g3 (cA .u8 8 (List.replicate 8 (0 : Int))) := hN4.box
 refine seg ha 1 [(0, .string (bstr a0)), (2, .pointer (some ⟨g3, 0, none⟩))] (by kernel_rfl) fun a ha => ?_
 refine hK1 _ _ ?_; try clear hK1 K1
 refine wp_seq_k fun K6 hK6 => ?_
 refine wp_region_lit ?_
 refine seg ha 1 [(0, .string (bstr a0)), (2, .pointer (some ⟨g3, 0, none⟩)), (6, .string (bstr a0))] (by kernel_rfl) fun a ha => ?_
 obtain ⟨t7, H7, H⟩ := bind_some H
 refine cl ha (by rfl) (by kernel_rfl) (by rfl) (by rfl) (by rfl) (strings_Split.walk w2 _ hM hG a0 ([58] : List UInt8) _ H7) ?_
 rintro _ w7 ⟨ao8, cap8, rfl, f8, ne_i8, hc7, hMn⟩ a ha
 have o1 : Ok [] ([g3] ++ (M)) w2.heap.size := Ok.nil _ _
 have o2 : Ok (blkL ao8 ++ ([g3] ++ (M))) ([g3] ++ (M)) w2.heap.size := (Ok.app (fun x h => .inr (ne_i8 x h)) (Ok.refl _ _))
 have hG := hG.chg hc7 o1 o2
 have hBg3 := hBg3.chg hc7 (fun h => nomatch h)
 have p_i8_i5 : ∀ x ∈ blkL ao8, x ∉ ([g3]) := fun x hx hy => absurd (hM x (ml hy)) (Nat.not_lt.2 (ne_i8 x hx))
 have p_i8_M : ∀ x ∈ blkL ao8, x ∉ M := fun x hx hy => absurd (hM x (mr (hy))) (Nat.not_lt.2 (ne_i8 x hx))
 have e_i8 : ∀ x ∈ blkL ao8, w.heap.size ≤ x := fun x hx => Nat.le_trans hC.size (ne_i8 x hx)
 have hM : MS (blkL ao8 ++ ([g3] ++ (M))) w7 := (MS.app (fun x h => hMn x (ml h)) (hM.chg hc7))
 have hC := hC.trans hc7 (Ok.nil _ _)
 refine seg ha 1 [(0, .string (bstr a0)), (2, .pointer (some ⟨g3, 0, none⟩)), (4, .slice ao8 t7.length cap8)] (by kernel_rfl) fun a ha => ?_
 refine hK6 _ _ ?_; try clear hK6 K6
 refine wp_seq_k fun K9 hK9 => ?_
 refine wp_region_lit ?_
 refine seg ha 1 [(0, .string (bstr a0)), (2, .pointer (some ⟨g3, 0, none⟩)), (4, .slice ao8 t7.length cap8), (5, .bool true)] (by kernel_rfl) fun a ha => ?_
 refine hK9 _ _ ?_; try clear hK9 K9
 refine wp_seq_k fun K10 hK10 => ?_
 refine wp_seq_k fun K11 hK11 => ?_
 refine wp_region_lit ?_
 refine seg ha 2 [(0, .string (bstr a0)), (2, .pointer (some ⟨g3, 0, none⟩)), (4, .slice ao8 t7.length cap8), (5, .bool true), (9, .int .i64 (t7.length : Int))] (by kernel_rfl) fun a ha => ?_
 refine hK11 _ _ ?_; try clear hK11 K11
 refine wp_block ?_
 refine wp_seq_k fun K12 hK12 => ?_
 refine wp_region_lit ?_
 refine seg ha 2 [(0, .string (bstr a0)), (2, .pointer (some ⟨g3, 0, none⟩)), (4, .slice ao8 t7.length cap8), (5, .bool true), (9, .int .i64 (t7.length : Int)), (10, .bool ((t7.length : Int) == (2 : Int)))] (by kernel_rfl) fun a ha => ?_
 refine hK12 _ _ ?_; try clear hK12 K12
 refine cnd ha rfl (fun hc13 => ?_) (fun hc13 => ?_)
 ·have H := ite_t hc13 H
  refine wp_region_lit ?_
  refine seg ha 1 [(0, .string (bstr a0)), (2, .pointer (some ⟨g3, 0, none⟩)), (5, .bool true), (12, .slice ao8 t7.length cap8)] (by kernel_rfl) fun a ha => ?_
  obtain ⟨⟨hx14, hx14'⟩, H⟩ := ite_some H
  refine ix (r := rStr) ha (by kernel_rfl) (by kernel_rfl) rfl rfl rfl rfl rfl (Own.toRSl (M' := []) f8 (Ok.nil _ _) (fun _ _ h => nomatch h)) hx14 hx14' fun a ge15 oe16 cs17 hn20 hR18 hE19 ha => ?_
  rw [rd_get] at hR18
  obtain rfl := hR18
  have hE19 : ∀ j v, ([.string (bstr (rd t7 (1 : Int)))] : List Value)[j]? = some v → w7.cell? ⟨ge15, oe16 + j, none⟩ = some v := hE19
  refine ld ha rfl (by kernel_rfl) rfl rfl rfl (hE19 0 (.string (bstr (rd t7 (1 : Int)))) (by kernel_rfl)) fun a ha => ?_
  obtain ⟨t21, H21, H⟩ := bind_some H
  refine cl ha (by rfl) (by kernel_rfl) (by rfl) (by rfl) (by rfl) (rd_strange.walk w7 _ hM (rd t7 (1 : Int)) k _ H21) ?_
  rintro _ w21 ⟨rfl, hc21, hMn⟩ a ha
  have o1 : Ok [] (blkL ao8 ++ ([g3] ++ (M))) w7.heap.size := Ok.nil _ _
  have o2 : Ok (blkL ao8 ++ ([g3] ++ (M))) (blkL ao8 ++ ([g3] ++ (M))) w7.heap.size := (Ok.refl _ _)
  have hG := hG.chg hc21 o1 o2
  have hBg3 := hBg3.chg hc21 (fun h => nomatch h)
  have hM : MS (blkL ao8 ++ ([g3] ++ (M))) w21 := (hM.chg hc21)
  have hC := hC.trans hc21 (Ok.nil _ _)
  refine stA (l := (cA .u8 8 t21)) ha rfl rfl rfl (by kernel_rfl) rfl rfl hBg3 rfl fun a w22 ha hb2 hc23 _ => ?_
  have o1 : Ok [g3] (blkL ao8 ++ ([g3] ++ (M))) w21.heap.size := (fun _ h => .inl (mr (ml h)))
  have o2 : Ok (blkL ao8 ++ ([g3] ++ (M))) (blkL ao8 ++ ([g3] ++ (M))) w21.heap.size := (Ok.refl _ _)
  have hG := hG.chg hc23 o1 o2
  have hM : MS (blkL ao8 ++ ([g3] ++ (M))) w22 := (hM.chg hc23)
  have hC := hC.trans hc23 (fun x h => .inr (e_i5 x h))
  have hBg3 : Box w22 g3 (cA .u8 8 t21) := hb2
  refine hK10 _ _ ?_; try clear hK10 K10
  refine wp_seq_k fun K24 hK24 => ?_
  refine wp_seq_k fun K25 hK25 => ?_
  refine wp_region_lit ?_
  refine seg ha 3 [(0, .string (bstr a0)), (2, .pointer (some ⟨g3, 0, none⟩)), (33, .bool false)] (by kernel_rfl) fun a ha => ?_
  refine ldA (cs := (cA .u8 8 t21)) ha rfl (by kernel_rfl) rfl rfl rfl (cells_sub (Box.cells hBg3) (all := (cA .u8 8 t21)) [] [] (by kernel_rfl)) fun a ha => ?_
  obtain ⟨t26, H26, H⟩ := bind_some H
  refine cl ha (by rfl) (by kernel_rfl) (by rfl) (by rfl) (by rfl) (rd_Text.walk w22 _ hM hG t21 k _ H26) ?_
  rintro _ w26 ⟨rfl, hc26, hMn⟩ a ha
  have o1 : Ok [] (blkL ao8 ++ ([g3] ++ (M))) w22.heap.size := Ok.nil _ _
  have o2 : Ok (blkL ao8 ++ ([g3] ++ (M))) (blkL ao8 ++ ([g3] ++ (M))) w22.heap.size := (Ok.refl _ _)
  have hG := hG.chg hc26 o1 o2
  have hBg3 := hBg3.chg hc26 (fun h => nomatch h)
  have hM : MS (blkL ao8 ++ ([g3] ++ (M))) w26 := (hM.chg hc26)
  have hC := hC.trans hc26 (Ok.nil _ _)
  refine sgh ha 3 [2, 2, 4] [(2, .pointer (some ⟨g3, 0, none⟩)), (38, .bool (!((bstr t26).toList == (bstr a0).toList)))] (by kernel_rfl) fun a ha => ?_
  refine hK25 _ _ ?_; try clear hK25 K25
  refine cnd ha rfl (fun hc27 => ?_) (fun hc27 => ?_)
  ·have H := ite_t hc27 H
   refine wp_seq_k fun K28 hK28 => ?_
   refine wp_region_lit ?_
   refine opk (v := .agg (cA .u8 8 ([(0 : Int), (0 : Int), (0 : Int), (0 : Int), (0 : Int), (0 : Int), (0 : Int), (0 : Int)] : List Int)).toArray) ha rfl rfl rfl rfl rfl (fun w => by kernel_rfl) fun a ha => ?_
   refine stA (l := (cA .u8 8 ([(0 : Int), (0 : Int), (0 : Int), (0 : Int), (0 : Int), (0 : Int), (0 : Int), (0 : Int)] : List Int))) ha rfl rfl rfl (by kernel_rfl) rfl rfl hBg3 rfl fun a w29 ha hb2 hc30 _ => ?_
   have o1 : Ok [g3] (blkL ao8 ++ ([g3] ++ (M))) w26.heap.size := (fun _ h => .inl (mr (ml h)))
   have o2 : Ok (blkL ao8 ++ ([g3] ++ (M))) (blkL ao8 ++ ([g3] ++ (M))) w26.heap.size := (Ok.refl _ _)
   have hG := hG.chg hc30 o1 o2
   have hM : MS (blkL ao8 ++ ([g3] ++ (M))) w29 := (hM.chg hc30)
   have hC := hC.trans hc30 (fun x h => .inr (e_i5 x h))
   have hBg3 : Box w29 g3 (cA .u8 8 ([(0 : Int), (0 : Int), (0 : Int), (0 : Int), (0 : Int), (0 : Int), (0 : Int), (0 : Int)] : List Int)) := hb2
   refine seg ha 1 [(2, .pointer (some ⟨g3, 0, none⟩)), (3, .int .i64 (4 : Int))] (by kernel_rfl) fun a ha => ?_
   refine hK28 _ _ ?_; try clear hK28 K28
   refine wp_ret ?_
   try simp only [Exit.then, Exit.inBlock]
   have o1 : Ok [] (blkL ao8 ++ ([g3] ++ (M))) w29.heap.size := Ok.nil _ _
   have o2 : Ok (M) (blkL ao8 ++ ([g3] ++ (M))) w29.heap.size := (fun _ h => .inl (mr (mr (h))))
   have hG := hG.chg (Chg.refl [] _) o1 o2
   have hBg3 := hBg3.chg (Chg.refl [] _) (fun h => nomatch h)
   have hM : MS (M) w29 := (fun x h => hM.chg (Chg.refl [] _) x (mr (mr (h))))
   have hC := hC.trans (Chg.refl [] _) (Ok.nil _ _)
   obtain rfl := Option.some.inj H
   refine rtr ha (res2 rfl (roA ha rfl hBg3 (by kernel_rfl)) (roT ha rfl)) ?_
   exact ⟨rfl, hC, hM⟩
  ·have H := ite_f hc27 H
   refine wp_skip ?_
   refine hK24 _ _ ?_; try clear hK24 K24
   refine wp_seq_k fun K31 hK31 => ?_
   refine wp_region_lit ?_
   refine ldA (cs := (cA .u8 8 t21)) ha rfl (by kernel_rfl) rfl rfl rfl (cells_sub (Box.cells hBg3) (all := (cA .u8 8 t21)) [] [] (by kernel_rfl)) fun a ha => ?_
   refine stA (l := (cA .u8 8 t21)) ha rfl rfl rfl (by kernel_rfl) rfl rfl hBg3 rfl fun a w32 ha hb2 hc33 _ => ?_
   have o1 : Ok [g3] (blkL ao8 ++ ([g3] ++ (M))) w26.heap.size := (fun _ h => .inl (mr (ml h)))
   have o2 : Ok (blkL ao8 ++ ([g3] ++ (M))) (blkL ao8 ++ ([g3] ++ (M))) w26.heap.size := (Ok.refl _ _)
   have hG := hG.chg hc33 o1 o2
   have hM : MS (blkL ao8 ++ ([g3] ++ (M))) w32 := (hM.chg hc33)
   have hC := hC.trans hc33 (fun x h => .inr (e_i5 x h))
   have hBg3 : Box w32 g3 (cA .u8 8 t21) := hb2
   refine seg ha 1 [(2, .pointer (some ⟨g3, 0, none⟩)), (3, .int .i64 (0 : Int))] (by kernel_rfl) fun a ha => ?_
   refine hK31 _ _ ?_; try clear hK31 K31
   refine wp_ret ?_
   try simp only [Exit.then, Exit.inBlock]
   have o1 : Ok [] (blkL ao8 ++ ([g3] ++ (M))) w32.heap.size := Ok.nil _ _
   have o2 : Ok (M) (blkL ao8 ++ ([g3] ++ (M))) w32.heap.size := (fun _ h => .inl (mr (mr (h))))
   have hG := hG.chg (Chg.refl [] _) o1 o2
   have hBg3 := hBg3.chg (Chg.refl [] _) (fun h => nomatch h)
   have hM : MS (M) w32 := (fun x h => hM.chg (Chg.refl [] _) x (mr (mr (h))))
   have hC := hC.trans (Chg.refl [] _) (Ok.nil _ _)
   obtain rfl := Option.some.inj H
   refine rtr ha (res2 rfl (roA ha rfl hBg3 (by kernel_rfl)) (roT ha rfl)) ?_
   exact ⟨rfl, hC, hM⟩
 ·have H := ite_f hc13 H
  refine wp_seq_k fun K34 hK34 => ?_
  refine wp_region_lit ?_
  refine seg ha 2 [(0, .string (bstr a0)), (2, .pointer (some ⟨g3, 0, none⟩)), (4, .slice ao8 t7.length cap8), (16, .bool ((t7.length : Int) == (3 : Int)))] (by kernel_rfl) fun a ha => ?_
  refine hK34 _ _ ?_; try clear hK34 K34
  refine cnd ha rfl (fun hc35 => ?_) (fun hc35 => ?_)
  ·have H := ite_t hc35 H
   have okS : Ok ([g3]) (blkL ao8 ++ ([g3] ++ (M))) w7.heap.size := (fun _ h => .inl (mr (ml h)))
   have z_f8 := Own.toRSl (M' := ([g3])) f8 okS p_i8_i5
   refine drw (fun w' => Chg ([g3]) w7 w') (by kernel_rfl) fun w36 hc37 _ => ?_
   have hS : Chg ([g3]) w7 w36 := (Chg.refl ([g3]) _).trans hc37 (Ok.nil _ _)
   have o1 : Ok [] (blkL ao8 ++ ([g3] ++ (M))) w7.heap.size := Ok.nil _ _
   have o2 : Ok (blkL ao8 ++ ([g3] ++ (M))) (blkL ao8 ++ ([g3] ++ (M))) w7.heap.size := (Ok.refl _ _)
   have hG := hG.chg hc37 o1 o2
   have f8 := f8.chg hc37 o1 o2 (fun _ _ h => nomatch h) (fun _ h => ml h)
   have hBg3 := hBg3.chg hc37 (fun h => nomatch h)
   have hM : MS (blkL ao8 ++ ([g3] ++ (M))) w36 := (hM.chg hc37)
   have hC := hC.trans hc37 (Ok.nil _ _)
   refine tkpz 0 0 (.slice ao8 t7.length cap8) ha (s := hS) (q := fun a ha => ?_)
   obtain ⟨⟨hx38, hx38'⟩, H⟩ := ite_some H
   obtain ⟨ge39, oe400, cs41, hx38eq, hn44, hR42, hE43⟩ := RSl.elem z_f8 (Int.toNat (0 : Int)) (by omega)
   rw [rd_get] at hR42
   obtain rfl := hR42
   have hE43 : ∀ j v, ([.string (bstr (rd t7 (0 : Int)))] : List Value)[j]? = some v → w7.cell? ⟨ge39, (oe400 + (Int.toNat (0 : Int)) * rStr.sz) + j, none⟩ = some v := hE43
   refine tkz 1 ha (v := .pointer (some ⟨ge39, (oe400 + (Int.toNat (0 : Int)) * rStr.sz), none⟩)) (y := fun w' _ => ix_run (r := rStr) (T := 9) ha (by kernel_rfl) (by kernel_rfl) (by rfl) (by rfl) hx38eq hx38 hx38') (s := hS) (q := fun a ha => ?_)
   refine tkz 2 ha (v := .string (bstr (rd t7 (0 : Int)))) (y := fun w' hs => ld_run ha rfl (by kernel_rfl) (cell_keep hs (Ok.refl _ _) hn44 (hE43 0 (.string (bstr (rd t7 (0 : Int)))) (by kernel_rfl)))) (s := hS) (q := fun a ha => ?_)
   refine tkpz 3 0 (.slice ao8 t7.length cap8) ha (s := hS) (q := fun a ha => ?_)
   obtain ⟨⟨hx45, hx45'⟩, H⟩ := ite_some H
   obtain ⟨ge46, oe470, cs48, hx45eq, hn51, hR49, hE50⟩ := RSl.elem z_f8 (Int.toNat (1 : Int)) (by omega)
   rw [rd_get] at hR49
   obtain rfl := hR49
   have hE50 : ∀ j v, ([.string (bstr (rd t7 (1 : Int)))] : List Value)[j]? = some v → w7.cell? ⟨ge46, (oe470 + (Int.toNat (1 : Int)) * rStr.sz) + j, none⟩ = some v := hE50
   refine tkz 4 ha (v := .pointer (some ⟨ge46, (oe470 + (Int.toNat (1 : Int)) * rStr.sz), none⟩)) (y := fun w' _ => ix_run (r := rStr) (T := 9) ha (by kernel_rfl) (by kernel_rfl) (by rfl) (by rfl) hx45eq hx45 hx45') (s := hS) (q := fun a ha => ?_)
   refine tkz 5 ha (v := .string (bstr (rd t7 (1 : Int)))) (y := fun w' hs => ld_run ha rfl (by kernel_rfl) (cell_keep hs (Ok.refl _ _) hn51 (hE50 0 (.string (bstr (rd t7 (1 : Int)))) (by kernel_rfl)))) (s := hS) (q := fun a ha => ?_)
   refine tkpz 6 0 (.slice ao8 t7.length cap8) ha (s := hS) (q := fun a ha => ?_)
   obtain ⟨⟨hx52, hx52'⟩, H⟩ := ite_some H
   obtain ⟨ge53, oe540, cs55, hx52eq, hn58, hR56, hE57⟩ := RSl.elem z_f8 (Int.toNat (2 : Int)) (by omega)
   rw [rd_get] at hR56
   obtain rfl := hR56
   have hE57 : ∀ j v, ([.string (bstr (rd t7 (2 : Int)))] : List Value)[j]? = some v → w7.cell? ⟨ge53, (oe540 + (Int.toNat (2 : Int)) * rStr.sz) + j, none⟩ = some v := hE57
   refine tkz 7 ha (v := .pointer (some ⟨ge53, (oe540 + (Int.toNat (2 : Int)) * rStr.sz), none⟩)) (y := fun w' _ => ix_run (r := rStr) (T := 9) ha (by kernel_rfl) (by kernel_rfl) (by rfl) (by rfl) hx52eq hx52 hx52') (s := hS) (q := fun a ha => ?_)
   refine tkz 8 ha (v := .string (bstr (rd t7 (2 : Int)))) (y := fun w' hs => ld_run ha rfl (by kernel_rfl) (cell_keep hs (Ok.refl _ _) hn58 (hE57 0 (.string (bstr (rd t7 (2 : Int)))) (by kernel_rfl)))) (s := hS) (q := fun a ha => ?_)
   refine ac 9 (by kernel_rfl) (by rfl) fun K59 hK59 => ?_
   obtain ⟨t60, H60, H⟩ := bind_some H
   refine cl ha (by rfl) (by kernel_rfl) (by rfl) (by rfl) (by rfl) (rd_known.walk w36 _ hM hG (rd t7 (0 : Int)) (rd t7 (1 : Int)) (rd t7 (2 : Int)) k _ H60) ?_
   rintro _ w60 ⟨rfl, hc60, hMn⟩ a ha
   have o1 : Ok [] (blkL ao8 ++ ([g3] ++ (M))) w36.heap.size := Ok.nil _ _
   have o2 : Ok (blkL ao8 ++ ([g3] ++ (M))) (blkL ao8 ++ ([g3] ++ (M))) w36.heap.size := (Ok.refl _ _)
   have hG := hG.chg hc60 o1 o2
   have f8 := f8.chg hc60 o1 o2 (fun _ _ h => nomatch h) (fun _ h => ml h)
   have hBg3 := hBg3.chg hc60 (fun h => nomatch h)
   have hM : MS (blkL ao8 ++ ([g3] ++ (M))) w60 := (hM.chg hc60)
   have hC := hC.trans hc60 (Ok.nil _ _)
   have hS := hS.trans hc60 (Ok.nil _ _)
   refine ae hK59 hS ?_; clear hK59 K59
   refine tkpz 10 0 (.tuple #[.agg (cA .u8 8 t60.1).toArray, .bool t60.2]) ha (s := hS) (q := fun a ha => ?_)
   refine tkpz 11 0 (.agg (cA .u8 8 t60.1).toArray) ha (s := hS) (q := fun a ha => ?_)
   refine tkpz 12 0 (.bool t60.2) ha (s := hS) (q := fun a ha => ?_)
   refine ac 13 (by kernel_rfl) (by rfl) fun K61 hK61 => ?_
   refine stA (l := (cA .u8 8 t60.1)) ha rfl rfl rfl (by kernel_rfl) rfl rfl hBg3 rfl fun a w62 ha hb2 hc63 _ => ?_
   have o1 : Ok [g3] (blkL ao8 ++ ([g3] ++ (M))) w60.heap.size := (fun _ h => .inl (mr (ml h)))
   have o2 : Ok (blkL ao8 ++ ([g3] ++ (M))) (blkL ao8 ++ ([g3] ++ (M))) w60.heap.size := (Ok.refl _ _)
   have hG := hG.chg hc63 o1 o2
   have f8 := f8.chg hc63 o1 o2 p_i8_i5 (fun _ h => ml h)
   have hM : MS (blkL ao8 ++ ([g3] ++ (M))) w62 := (hM.chg hc63)
   have hC := hC.trans hc63 (fun x h => .inr (e_i5 x h))
   have hS := hS.trans hc63 (fun x h => .inl (h))
   have hBg3 : Box w62 g3 (cA .u8 8 t60.1) := hb2
   refine ae hK61 hS ?_; clear hK61 K61
   refine tkpz 14 0 (.bool t60.2) ha (s := hS) (q := fun a ha => ?_)
   refine dn (by kernel_rfl) ?_
   refine hK10 _ _ ?_; try clear hK10 K10
   refine wp_seq_k fun K64 hK64 => ?_
   refine wp_seq_k fun K65 hK65 => ?_
   refine wp_region_lit ?_
   obtain ⟨s66, H66, H⟩ := bind_some H
   have J66 : ∀ (a : Act) (w66 : World), Has a Tryd.f8.ntmps [(2, .pointer (some ⟨g3, 0, none⟩)), (38, .bool s66)] → (Box w66 g3 (cA .u8 8 t60.1)) → (GF w66 ([g3] ++ (M))) → (Chg [] w w66) → (MS ([g3] ++ (M)) w66) → K65 a w66 := by
    intro a w66 ha hBg3 hG hC hM
    refine hK65 _ _ ?_; try clear hK65 K65
    refine cnd ha rfl (fun hc67 => ?_) (fun hc67 => ?_)
    ·have H := ite_t hc67 H
     refine wp_seq_k fun K68 hK68 => ?_
     refine wp_region_lit ?_
     refine opk (v := .agg (cA .u8 8 ([(0 : Int), (0 : Int), (0 : Int), (0 : Int), (0 : Int), (0 : Int), (0 : Int), (0 : Int)] : List Int)).toArray) ha rfl rfl rfl rfl rfl (fun w => by kernel_rfl) fun a ha => ?_
     refine stA (l := (cA .u8 8 ([(0 : Int), (0 : Int), (0 : Int), (0 : Int), (0 : Int), (0 : Int), (0 : Int), (0 : Int)] : List Int))) ha rfl rfl rfl (by kernel_rfl) rfl rfl hBg3 rfl fun a w69 ha hb2 hc70 _ => ?_
     have o1 : Ok [g3] ([g3] ++ (M)) w66.heap.size := (fun _ h => .inl (ml h))
     have o2 : Ok ([g3] ++ (M)) ([g3] ++ (M)) w66.heap.size := (Ok.refl _ _)
     have hG := hG.chg hc70 o1 o2
     have hM : MS ([g3] ++ (M)) w69 := (hM.chg hc70)
     have hC := hC.trans hc70 (fun x h => .inr (e_i5 x h))
     have hBg3 : Box w69 g3 (cA .u8 8 ([(0 : Int), (0 : Int), (0 : Int), (0 : Int), (0 : Int), (0 : Int), (0 : Int), (0 : Int)] : List Int)) := hb2
     refine seg ha 1 [(2, .pointer (some ⟨g3, 0, none⟩)), (3, .int .i64 (4 : Int))] (by kernel_rfl) fun a ha => ?_
     refine hK68 _ _ ?_; try clear hK68 K68
     refine wp_ret ?_
     try simp only [Exit.then, Exit.inBlock]
     have o1 : Ok [] ([g3] ++ (M)) w69.heap.size := Ok.nil _ _
     have o2 : Ok (M) ([g3] ++ (M)) w69.heap.size := (fun _ h => .inl (mr (h)))
     have hG := hG.chg (Chg.refl [] _) o1 o2
     have hBg3 := hBg3.chg (Chg.refl [] _) (fun h => nomatch h)
     have hM : MS (M) w69 := (fun x h => hM.chg (Chg.refl [] _) x (mr (h)))
     have hC := hC.trans (Chg.refl [] _) (Ok.nil _ _)
     obtain rfl := Option.some.inj H
     refine rtr ha (res2 rfl (roA ha rfl hBg3 (by kernel_rfl)) (roT ha rfl)) ?_
     exact ⟨rfl, hC, hM⟩
    ·have H := ite_f hc67 H
     refine wp_skip ?_
     refine hK64 _ _ ?_; try clear hK64 K64
     refine wp_seq_k fun K71 hK71 => ?_
     refine wp_region_lit ?_
     refine ldA (cs := (cA .u8 8 t60.1)) ha rfl (by kernel_rfl) rfl rfl rfl (cells_sub (Box.cells hBg3) (all := (cA .u8 8 t60.1)) [] [] (by kernel_rfl)) fun a ha => ?_
     refine stA (l := (cA .u8 8 t60.1)) ha rfl rfl rfl (by kernel_rfl) rfl rfl hBg3 rfl fun a w72 ha hb2 hc73 _ => ?_
     have o1 : Ok [g3] ([g3] ++ (M)) w66.heap.size := (fun _ h => .inl (ml h))
     have o2 : Ok ([g3] ++ (M)) ([g3] ++ (M)) w66.heap.size := (Ok.refl _ _)
     have hG := hG.chg hc73 o1 o2
     have hM : MS ([g3] ++ (M)) w72 := (hM.chg hc73)
     have hC := hC.trans hc73 (fun x h => .inr (e_i5 x h))
     have hBg3 : Box w72 g3 (cA .u8 8 t60.1) := hb2
     refine seg ha 1 [(2, .pointer (some ⟨g3, 0, none⟩)), (3, .int .i64 (0 : Int))] (by kernel_rfl) fun a ha => ?_
     refine hK71 _ _ ?_; try clear hK71 K71
     refine wp_ret ?_
     try simp only [Exit.then, Exit.inBlock]
     have o1 : Ok [] ([g3] ++ (M)) w72.heap.size := Ok.nil _ _
     have o2 : Ok (M) ([g3] ++ (M)) w72.heap.size := (fun _ h => .inl (mr (h)))
     have hG := hG.chg (Chg.refl [] _) o1 o2
     have hBg3 := hBg3.chg (Chg.refl [] _) (fun h => nomatch h)
     have hM : MS (M) w72 := (fun x h => hM.chg (Chg.refl [] _) x (mr (h)))
     have hC := hC.trans (Chg.refl [] _) (Ok.nil _ _)
     obtain rfl := Option.some.inj H
     refine rtr ha (res2 rfl (roA ha rfl hBg3 (by kernel_rfl)) (roT ha rfl)) ?_
     exact ⟨rfl, hC, hM⟩
   have H := H66
   refine seg ha 3 [(33, .bool (!t60.2)), (0, .string (bstr a0)), (2, .pointer (some ⟨g3, 0, none⟩))] (by kernel_rfl) fun a ha => ?_
   rcases Bool.eq_false_or_eq_true (!t60.2) with hb74 | hb74
   ·have ha := ha.lit hb74
    have H := ite_t hb74 H
    refine sgh ha 5 [1, 1, 1, 1, 3] [(2, .pointer (some ⟨g3, 0, none⟩)), (38, .bool true)] (by kernel_rfl) fun a ha => ?_
    obtain rfl := Option.some.inj H
    have o1 : Ok [] (blkL ao8 ++ ([g3] ++ (M))) w62.heap.size := Ok.nil _ _
    have o2 : Ok ([g3] ++ (M)) (blkL ao8 ++ ([g3] ++ (M))) w62.heap.size := (fun _ h => .inl (mr (h)))
    have hG := hG.chg (Chg.refl [] _) o1 o2
    have hBg3 := hBg3.chg (Chg.refl [] _) (fun h => nomatch h)
    have hM : MS ([g3] ++ (M)) w62 := (fun x h => hM.chg (Chg.refl [] _) x (mr (h)))
    have hC := hC.trans (Chg.refl [] _) (Ok.nil _ _)
    exact J66 _ _ (ha.sel (by kernel_rfl)) hBg3 hG hC hM
   ·have ha := ha.lit hb74
    have H := ite_f hb74 H
    refine ldA (cs := (cA .u8 8 t60.1)) ha rfl (by kernel_rfl) rfl rfl rfl (cells_sub (Box.cells hBg3) (all := (cA .u8 8 t60.1)) [] [] (by kernel_rfl)) fun a ha => ?_
    obtain ⟨t75, H75, H⟩ := bind_some H
    refine cl ha (by rfl) (by kernel_rfl) (by rfl) (by rfl) (by rfl) (rd_Text.walk w62 _ hM hG t60.1 k _ H75) ?_
    rintro _ w75 ⟨rfl, hc75, hMn⟩ a ha
    have o1 : Ok [] (blkL ao8 ++ ([g3] ++ (M))) w62.heap.size := Ok.nil _ _
    have o2 : Ok (blkL ao8 ++ ([g3] ++ (M))) (blkL ao8 ++ ([g3] ++ (M))) w62.heap.size := (Ok.refl _ _)
    have hG := hG.chg hc75 o1 o2
    have hBg3 := hBg3.chg hc75 (fun h => nomatch h)
    have hM : MS (blkL ao8 ++ ([g3] ++ (M))) w75 := (hM.chg hc75)
    have hC := hC.trans hc75 (Ok.nil _ _)
    refine sgh ha 3 [2, 2, 4] [(2, .pointer (some ⟨g3, 0, none⟩)), (38, .bool (!((bstr t75).toList == (bstr a0).toList)))] (by kernel_rfl) fun a ha => ?_
    obtain rfl := Option.some.inj H
    have o1 : Ok [] (blkL ao8 ++ ([g3] ++ (M))) w75.heap.size := Ok.nil _ _
    have o2 : Ok ([g3] ++ (M)) (blkL ao8 ++ ([g3] ++ (M))) w75.heap.size := (fun _ h => .inl (mr (h)))
    have hG := hG.chg (Chg.refl [] _) o1 o2
    have hBg3 := hBg3.chg (Chg.refl [] _) (fun h => nomatch h)
    have hM : MS ([g3] ++ (M)) w75 := (fun x h => hM.chg (Chg.refl [] _) x (mr (h)))
    have hC := hC.trans (Chg.refl [] _) (Ok.nil _ _)
    exact J66 _ _ (ha.sel (by kernel_rfl)) hBg3 hG hC hM
  ·have H := ite_f hc35 H
   refine wp_region_lit ?_
   refine seg ha 1 [(0, .string (bstr a0)), (2, .pointer (some ⟨g3, 0, none⟩)), (5, .bool false)] (by kernel_rfl) fun a ha => ?_
   refine hK10 _ _ ?_; try clear hK10 K10
   refine wp_seq_k fun K76 hK76 => ?_
   refine wp_seq_k fun K77 hK77 => ?_
   refine wp_region_lit ?_
   refine sgh ha 8 [0, 0, 0, 1, 1, 1, 1, 3] [(2, .pointer (some ⟨g3, 0, none⟩)), (38, .bool true)] (by kernel_rfl) fun a ha => ?_
   refine hK77 _ _ ?_; try clear hK77 K77
   refine cnd ha rfl (fun _ => ?_) (fun h => nomatch h)
   refine wp_seq_k fun K79 hK79 => ?_
   refine wp_region_lit ?_
   refine opk (v := .agg (cA .u8 8 ([(0 : Int), (0 : Int), (0 : Int), (0 : Int), (0 : Int), (0 : Int), (0 : Int), (0 : Int)] : List Int)).toArray) ha rfl rfl rfl rfl rfl (fun w => by kernel_rfl) fun a ha => ?_
   refine stA (l := (cA .u8 8 ([(0 : Int), (0 : Int), (0 : Int), (0 : Int), (0 : Int), (0 : Int), (0 : Int), (0 : Int)] : List Int))) ha rfl rfl rfl (by kernel_rfl) rfl rfl hBg3 rfl fun a w80 ha hb2 hc81 _ => ?_
   have o1 : Ok [g3] (blkL ao8 ++ ([g3] ++ (M))) w7.heap.size := (fun _ h => .inl (mr (ml h)))
   have o2 : Ok (blkL ao8 ++ ([g3] ++ (M))) (blkL ao8 ++ ([g3] ++ (M))) w7.heap.size := (Ok.refl _ _)
   have hG := hG.chg hc81 o1 o2
   have hM : MS (blkL ao8 ++ ([g3] ++ (M))) w80 := (hM.chg hc81)
   have hC := hC.trans hc81 (fun x h => .inr (e_i5 x h))
   have hBg3 : Box w80 g3 (cA .u8 8 ([(0 : Int), (0 : Int), (0 : Int), (0 : Int), (0 : Int), (0 : Int), (0 : Int), (0 : Int)] : List Int)) := hb2
   refine seg ha 1 [(2, .pointer (some ⟨g3, 0, none⟩)), (3, .int .i64 (4 : Int))] (by kernel_rfl) fun a ha => ?_
   refine hK79 _ _ ?_; try clear hK79 K79
   refine wp_ret ?_
   try simp only [Exit.then, Exit.inBlock]
   have o1 : Ok [] (blkL ao8 ++ ([g3] ++ (M))) w80.heap.size := Ok.nil _ _
   have o2 : Ok (M) (blkL ao8 ++ ([g3] ++ (M))) w80.heap.size := (fun _ h => .inl (mr (mr (h))))
   have hG := hG.chg (Chg.refl [] _) o1 o2
   have hBg3 := hBg3.chg (Chg.refl [] _) (fun h => nomatch h)
   have hM : MS (M) w80 := (fun x h => hM.chg (Chg.refl [] _) x (mr (mr (h))))
   have hC := hC.trans (Chg.refl [] _) (Ok.nil _ _)
   obtain rfl := Option.some.inj H
   refine rtr ha (res2 rfl (roA ha rfl hBg3 (by kernel_rfl)) (roT ha rfl)) ?_
   exact ⟨rfl, hC, hM⟩
def vinerylaw03_small.f (k : Nat) : Option (Bool) := (rd_Make.f k (1 : Int) (167772161 : Int) (7 : Int)).bind fun t3 => (rd_Make.f k (0 : Int) (65536 : Int) (0 : Int)).bind fun t11 => (rd_Parse.f k ([48, 58, 54, 53, 48, 48, 48, 58, 55, 55] : List UInt8)).bind fun t19 => ((if (t3.2 == (0 : Int)) = true then (rd_Text.f k t3.1).bind fun t29 => (if ((bstr t29).toList == (bstr ([49, 58, 49, 48, 46, 48, 46, 48, 46, 49, 58, 55] : List UInt8)).toList) = true then (if (t11.2 == (5 : Int)) = true then (if (t19.2 == (0 : Int)) = true then (if (eqA 8 t19.1 ([(0 : Int), (0 : Int), (253 : Int), (232 : Int), (0 : Int), (0 : Int), (0 : Int), (77 : Int)] : List Int)) = true then (rd_Text.f k ([(0 : Int), (9 : Int), (0 : Int), (0 : Int), (0 : Int), (0 : Int), (0 : Int), (1 : Int)] : List Int)).bind fun t34 => some ((bstr t34).toList == (bstr ([63, 58, 48, 48, 48, 57, 48, 48, 48, 48, 48, 48, 48, 48, 48, 48, 48, 49] : List UInt8)).toList : Bool) else some (false : Bool)) else some (false : Bool)) else some (false : Bool)) else some (false : Bool)) else some (false : Bool))).bind fun s27 => some ((s27 : Bool))
set_option maxRecDepth 100000 in
theorem vinerylaw03_small.walk (w : World) (M : List Nat) (hM : MS M w) (hG : GF w M)  (k : Nat) (r : Bool) (H : vinerylaw03_small.f k = some r) :
    To Tryd.prog 7 [] w fun v w' => v = .bool r ∧ Chg [] w w' ∧ MS (M) w' := by
 unfold vinerylaw03_small.f at H
 refine ent Tryd.func7 rfl [] rfl (by rfl) fun a ha => ?_
 have hC : Chg [] w w := Chg.refl _ _
 refine wp_seq_k fun K1 hK1 => ?_
 refine wp_region_lit ?_
 refine seg ha 1 [] (by kernel_rfl) fun a ha => ?_
 refine hK1 _ _ ?_; try clear hK1 K1
 refine wp_seq_k fun K2 hK2 => ?_
 refine wp_region_lit ?_
 obtain ⟨t3, H3, H⟩ := bind_some H
 refine cl ha (by rfl) (by kernel_rfl) (by rfl) (by rfl) (by rfl) (rd_Make.walk w _ hM (1 : Int) (167772161 : Int) (7 : Int) k _ H3) ?_
 rintro _ w3 ⟨rfl, hc3, hMn⟩ a ha
 have o1 : Ok [] (M) w.heap.size := Ok.nil _ _
 have o2 : Ok (M) (M) w.heap.size := (Ok.refl _ _)
 have hG := hG.chg hc3 o1 o2
 have hM : MS (M) w3 := (hM.chg hc3)
 have hC := hC.trans hc3 (Ok.nil _ _)
 refine seg ha 3 [(9, .agg (cA .u8 8 t3.1).toArray), (10, .int .i64 t3.2)] (by kernel_rfl) fun a ha => ?_
 refine al (cs := (cA .u8 8 (List.replicate 8 (0 : Int)))) (z := .agg (cA .u8 8 (List.replicate 8 (0 : Int))).toArray) ha (fun w => by kernel_rfl) rfl rfl rfl rfl fun a w4 g5 hN6 ha => ?_
 have o1 : Ok [] (M) w3.heap.size := Ok.nil _ _
 have o2 : Ok ([g5] ++ (M)) (M) w3.heap.size := (Ok.app (hN6.ok _) (Ok.refl _ _))
 have hG := hG.chg hN6.chg o1 o2
 have p_i7_M : ∀ x ∈ [g5], x ∉ M := fun x hx hy => absurd (hM x (hy)) (Nat.not_lt.2 ((hN6.ge1) x hx))
 have e_i7 : ∀ x ∈ [g5], w.heap.size ≤ x := fun x hx => Nat.le_trans hC.size ((hN6.ge1) x hx)
 have hM : MS ([g5] ++ (M)) w4 := (MS.app hN6.ms (hM.chg hN6.chg))
 have hC := hC.trans hN6.chg (Ok.nil _ _)
 have hBg5 : Box w4 g5 (cA .u8 8 (List.replicate 8 (0 : Int))) := hN6.box
 refine stA (l := (cA .u8 8 t3.1)) ha rfl rfl rfl (by kernel_rfl) rfl rfl hBg5 rfl fun a w8 ha hb2 hc9 _ => ?_
 have o1 : Ok [g5] ([g5] ++ (M)) w4.heap.size := (fun _ h => .inl (ml h))
 have o2 : Ok ([g5] ++ (M)) ([g5] ++ (M)) w4.heap.size := (Ok.refl _ _)
 have hG := hG.chg hc9 o1 o2
 have hM : MS ([g5] ++ (M)) w8 := (hM.chg hc9)
 have hC := hC.trans hc9 (fun x h => .inr (e_i7 x h))
 have hBg5 : Box w8 g5 (cA .u8 8 t3.1) := hb2
 refine seg ha 1 [(1, .pointer (some ⟨g5, 0, none⟩)), (2, .int .i64 t3.2)] (by kernel_rfl) fun a ha => ?_
 refine hK2 _ _ ?_; try clear hK2 K2
 refine wp_seq_k fun K10 hK10 => ?_
 refine wp_region_lit ?_
 obtain ⟨t11, H11, H⟩ := bind_some H
 refine cl ha (by rfl) (by kernel_rfl) (by rfl) (by rfl) (by rfl) (rd_Make.walk w8 _ hM (0 : Int) (65536 : Int) (0 : Int) k _ H11) ?_
 rintro _ w11 ⟨rfl, hc11, hMn⟩ a ha
 have o1 : Ok [] ([g5] ++ (M)) w8.heap.size := Ok.nil _ _
 have o2 : Ok ([g5] ++ (M)) ([g5] ++ (M)) w8.heap.size := (Ok.refl _ _)
 have hG := hG.chg hc11 o1 o2
 have hBg5 := hBg5.chg hc11 (fun h => nomatch h)
 have hM : MS ([g5] ++ (M)) w11 := (hM.chg hc11)
 have hC := hC.trans hc11 (Ok.nil _ _)
 refine seg ha 3 [(1, .pointer (some ⟨g5, 0, none⟩)), (2, .int .i64 t3.2), (13, .agg (cA .u8 8 t11.1).toArray), (14, .int .i64 t11.2)] (by kernel_rfl) fun a ha => ?_
 refine al (cs := (cA .u8 8 (List.replicate 8 (0 : Int)))) (z := .agg (cA .u8 8 (List.replicate 8 (0 : Int))).toArray) ha (fun w => by kernel_rfl) rfl rfl rfl rfl fun a w12 g13 hN14 ha => ?_
 have o1 : Ok [] ([g5] ++ (M)) w11.heap.size := Ok.nil _ _
 have o2 : Ok ([g13] ++ ([g5] ++ (M))) ([g5] ++ (M)) w11.heap.size := (Ok.app (hN14.ok _) (Ok.refl _ _))
 have hG := hG.chg hN14.chg o1 o2
 have hBg5 := hBg5.chg hN14.chg (fun h => nomatch h)
 have p_i15_i7 : ∀ x ∈ [g13], x ∉ ([g5]) := fun x hx hy => absurd (hM x (ml hy)) (Nat.not_lt.2 ((hN14.ge1) x hx))
 have p_i15_M : ∀ x ∈ [g13], x ∉ M := fun x hx hy => absurd (hM x (mr (hy))) (Nat.not_lt.2 ((hN14.ge1) x hx))
 have e_i15 : ∀ x ∈ [g13], w.heap.size ≤ x := fun x hx => Nat.le_trans hC.size ((hN14.ge1) x hx)
 have hM : MS ([g13] ++ ([g5] ++ (M))) w12 := (MS.app hN14.ms (hM.chg hN14.chg))
 have hC := hC.trans hN14.chg (Ok.nil _ _)
 have hBg13 : Box w12 g13 (cA .u8 8 (List.replicate 8 (0 : Int))) := hN14.box
 refine stA (l := (cA .u8 8 t11.1)) ha rfl rfl rfl (by kernel_rfl) rfl rfl hBg13 rfl fun a w16 ha hb2 hc17 _ => ?_
 have o1 : Ok [g13] ([g13] ++ ([g5] ++ (M))) w12.heap.size := (fun _ h => .inl (ml h))
 have o2 : Ok ([g13] ++ ([g5] ++ (M))) ([g13] ++ ([g5] ++ (M))) w12.heap.size := (Ok.refl _ _)
 have hG := hG.chg hc17 o1 o2
 have hBg5 := hBg5.chg hc17 ((fun x (hx : x ∈ [g5]) (hy : x ∈ [g13]) => p_i15_i7 x hy hx) g5 (by simp))
 have hM : MS ([g13] ++ ([g5] ++ (M))) w16 := (hM.chg hc17)
 have hC := hC.trans hc17 (fun x h => .inr (e_i15 x h))
 have hBg13 : Box w16 g13 (cA .u8 8 t11.1) := hb2
 refine seg ha 1 [(1, .pointer (some ⟨g5, 0, none⟩)), (2, .int .i64 t3.2), (4, .int .i64 t11.2)] (by kernel_rfl) fun a ha => ?_
 refine hK10 _ _ ?_; try clear hK10 K10
 refine wp_seq_k fun K18 hK18 => ?_
 refine wp_region_lit ?_
 obtain ⟨t19, H19, H⟩ := bind_some H
 refine cl ha (by rfl) (by kernel_rfl) (by rfl) (by rfl) (by rfl) (rd_Parse.walk w16 _ hM hG ([48, 58, 54, 53, 48, 48, 48, 58, 55, 55] : List UInt8) k _ H19) ?_
 rintro _ w19 ⟨rfl, hc19, hMn⟩ a ha
 have o1 : Ok [] ([g13] ++ ([g5] ++ (M))) w16.heap.size := Ok.nil _ _
 have o2 : Ok ([g13] ++ ([g5] ++ (M))) ([g13] ++ ([g5] ++ (M))) w16.heap.size := (Ok.refl _ _)
 have hG := hG.chg hc19 o1 o2
 have hBg5 := hBg5.chg hc19 (fun h => nomatch h)
 have hBg13 := hBg13.chg hc19 (fun h => nomatch h)
 have hM : MS ([g13] ++ ([g5] ++ (M))) w19 := (hM.chg hc19)
 have hC := hC.trans hc19 (Ok.nil _ _)
 refine seg ha 3 [(1, .pointer (some ⟨g5, 0, none⟩)), (2, .int .i64 t3.2), (4, .int .i64 t11.2), (17, .agg (cA .u8 8 t19.1).toArray), (18, .int .i64 t19.2)] (by kernel_rfl) fun a ha => ?_
 refine al (cs := (cA .u8 8 (List.replicate 8 (0 : Int)))) (z := .agg (cA .u8 8 (List.replicate 8 (0 : Int))).toArray) ha (fun w => by kernel_rfl) rfl rfl rfl rfl fun a w20 g21 hN22 ha => ?_
 have o1 : Ok [] ([g13] ++ ([g5] ++ (M))) w19.heap.size := Ok.nil _ _
 have o2 : Ok ([g21] ++ ([g13] ++ ([g5] ++ (M)))) ([g13] ++ ([g5] ++ (M))) w19.heap.size := (Ok.app (hN22.ok _) (Ok.refl _ _))
 have hG := hG.chg hN22.chg o1 o2
 have hBg5 := hBg5.chg hN22.chg (fun h => nomatch h)
 have hBg13 := hBg13.chg hN22.chg (fun h => nomatch h)
 have p_i23_i15 : ∀ x ∈ [g21], x ∉ ([g13]) := fun x hx hy => absurd (hM x (ml hy)) (Nat.not_lt.2 ((hN22.ge1) x hx))
 have p_i23_i7 : ∀ x ∈ [g21], x ∉ ([g5]) := fun x hx hy => absurd (hM x (mr (ml hy))) (Nat.not_lt.2 ((hN22.ge1) x hx))
 have p_i23_M : ∀ x ∈ [g21], x ∉ M := fun x hx hy => absurd (hM x (mr (mr (hy)))) (Nat.not_lt.2 ((hN22.ge1) x hx))
 have e_i23 : ∀ x ∈ [g21], w.heap.size ≤ x := fun x hx => Nat.le_trans hC.size ((hN22.ge1) x hx)
 have hM : MS ([g21] ++ ([g13] ++ ([g5] ++ (M)))) w20 := (MS.app hN22.ms (hM.chg hN22.chg))
 have hC := hC.trans hN22.chg (Ok.nil _ _)
 have hBg21 : Box w20 g21 (cA .u8 8 (List.replicate 8 (0 : Int))) := hN22.box
 refine stA (l := (cA .u8 8 t19.1)) ha rfl rfl rfl (by kernel_rfl) rfl rfl hBg21 rfl fun a w24 ha hb2 hc25 _ => ?_
 have o1 : Ok [g21] ([g21] ++ ([g13] ++ ([g5] ++ (M)))) w20.heap.size := (fun _ h => .inl (ml h))
 have o2 : Ok ([g21] ++ ([g13] ++ ([g5] ++ (M)))) ([g21] ++ ([g13] ++ ([g5] ++ (M)))) w20.heap.size := (Ok.refl _ _)
 have hG := hG.chg hc25 o1 o2
 have hBg5 := hBg5.chg hc25 ((fun x (hx : x ∈ [g5]) (hy : x ∈ [g21]) => p_i23_i7 x hy hx) g5 (by simp))
 have hBg13 := hBg13.chg hc25 ((fun x (hx : x ∈ [g13]) (hy : x ∈ [g21]) => p_i23_i15 x hy hx) g13 (by simp))
 have hM : MS ([g21] ++ ([g13] ++ ([g5] ++ (M)))) w24 := (hM.chg hc25)
 have hC := hC.trans hc25 (fun x h => .inr (e_i23 x h))
 have hBg21 : Box w24 g21 (cA .u8 8 t19.1) := hb2
 refine seg ha 1 [(1, .pointer (some ⟨g5, 0, none⟩)), (2, .int .i64 t3.2), (4, .int .i64 t11.2), (5, .pointer (some ⟨g21, 0, none⟩)), (6, .int .i64 t19.2)] (by kernel_rfl) fun a ha => ?_
 refine hK18 _ _ ?_; try clear hK18 K18
 refine wp_seq_k fun K26 hK26 => ?_
 refine wp_region_lit ?_
 obtain ⟨s27, H27, H⟩ := bind_some H
 have J27 : ∀ (a : Act) (w27 : World), Has a Tryd.f7.ntmps [(0, .bool s27)] → (Box w27 g5 (cA .u8 8 t3.1)) → (Box w27 g13 (cA .u8 8 t11.1)) → (Box w27 g21 (cA .u8 8 t19.1)) → (GF w27 ([g21] ++ ([g13] ++ ([g5] ++ (M))))) → (Chg [] w w27) → (MS ([g21] ++ ([g13] ++ ([g5] ++ (M)))) w27) → K26 a w27 := by
  intro a w27 ha hBg5 hBg13 hBg21 hG hC hM
  refine hK26 _ _ ?_; try clear hK26 K26
  refine wp_ret ?_
  try simp only [Exit.then, Exit.inBlock]
  have o1 : Ok [] ([g21] ++ ([g13] ++ ([g5] ++ (M)))) w27.heap.size := Ok.nil _ _
  have o2 : Ok (M) ([g21] ++ ([g13] ++ ([g5] ++ (M)))) w27.heap.size := (fun _ h => .inl (mr (mr (mr (h)))))
  have hG := hG.chg (Chg.refl [] _) o1 o2
  have hBg5 := hBg5.chg (Chg.refl [] _) (fun h => nomatch h)
  have hBg13 := hBg13.chg (Chg.refl [] _) (fun h => nomatch h)
  have hBg21 := hBg21.chg (Chg.refl [] _) (fun h => nomatch h)
  have hM : MS (M) w27 := (fun x h => hM.chg (Chg.refl [] _) x (mr (mr (mr (h)))))
  have hC := hC.trans (Chg.refl [] _) (Ok.nil _ _)
  obtain rfl := Option.some.inj H
  refine rt1 ha rfl rfl ?_
  exact ⟨rfl, hC, hM⟩
 have H := H27
 refine seg ha 3 [(21, .bool (t3.2 == (0 : Int))), (1, .pointer (some ⟨g5, 0, none⟩)), (4, .int .i64 t11.2), (5, .pointer (some ⟨g21, 0, none⟩)), (6, .int .i64 t19.2)] (by kernel_rfl) fun a ha => ?_
 rcases Bool.eq_false_or_eq_true (t3.2 == (0 : Int)) with hb28 | hb28
 ·have ha := ha.lit hb28
  have H := ite_t hb28 H
  refine ldA (cs := (cA .u8 8 t3.1)) ha rfl (by kernel_rfl) rfl rfl rfl (cells_sub (Box.cells hBg5) (all := (cA .u8 8 t3.1)) [] [] (by kernel_rfl)) fun a ha => ?_
  obtain ⟨t29, H29, H⟩ := bind_some H
  refine cl ha (by rfl) (by kernel_rfl) (by rfl) (by rfl) (by rfl) (rd_Text.walk w24 _ hM hG t3.1 k _ H29) ?_
  rintro _ w29 ⟨rfl, hc29, hMn⟩ a ha
  have o1 : Ok [] ([g21] ++ ([g13] ++ ([g5] ++ (M)))) w24.heap.size := Ok.nil _ _
  have o2 : Ok ([g21] ++ ([g13] ++ ([g5] ++ (M)))) ([g21] ++ ([g13] ++ ([g5] ++ (M)))) w24.heap.size := (Ok.refl _ _)
  have hG := hG.chg hc29 o1 o2
  have hBg5 := hBg5.chg hc29 (fun h => nomatch h)
  have hBg13 := hBg13.chg hc29 (fun h => nomatch h)
  have hBg21 := hBg21.chg hc29 (fun h => nomatch h)
  have hM : MS ([g21] ++ ([g13] ++ ([g5] ++ (M)))) w29 := (hM.chg hc29)
  have hC := hC.trans hc29 (Ok.nil _ _)
  refine sgh ha 3 [2, 3, 0] [(26, .bool ((bstr t29).toList == (bstr ([49, 58, 49, 48, 46, 48, 46, 48, 46, 49, 58, 55] : List UInt8)).toList)), (4, .int .i64 t11.2), (5, .pointer (some ⟨g21, 0, none⟩)), (6, .int .i64 t19.2)] (by kernel_rfl) fun a ha => ?_
  rcases Bool.eq_false_or_eq_true ((bstr t29).toList == (bstr ([49, 58, 49, 48, 46, 48, 46, 48, 46, 49, 58, 55] : List UInt8)).toList) with hb30 | hb30
  ·have ha := ha.lit hb30
   have H := ite_t hb30 H
   refine sgh ha 4 [2, 2, 3, 0] [(30, .bool (t11.2 == (5 : Int))), (5, .pointer (some ⟨g21, 0, none⟩)), (6, .int .i64 t19.2)] (by kernel_rfl) fun a ha => ?_
   rcases Bool.eq_false_or_eq_true (t11.2 == (5 : Int)) with hb31 | hb31
   ·have ha := ha.lit hb31
    have H := ite_t hb31 H
    refine sgh ha 4 [2, 2, 3, 0] [(34, .bool (t19.2 == (0 : Int))), (5, .pointer (some ⟨g21, 0, none⟩))] (by kernel_rfl) fun a ha => ?_
    rcases Bool.eq_false_or_eq_true (t19.2 == (0 : Int)) with hb32 | hb32
    ·have ha := ha.lit hb32
     have H := ite_t hb32 H
     refine ldA (cs := (cA .u8 8 t19.1)) ha rfl (by kernel_rfl) rfl rfl rfl (cells_sub (Box.cells hBg21) (all := (cA .u8 8 t19.1)) [] [] (by kernel_rfl)) fun a ha => ?_
     refine opk (v := .agg (cA .u8 8 ([(0 : Int), (0 : Int), (253 : Int), (232 : Int), (0 : Int), (0 : Int), (0 : Int), (77 : Int)] : List Int)).toArray) ha rfl rfl rfl rfl rfl (fun w => by kernel_rfl) fun a ha => ?_
     refine hop (v := .bool (eqA 8 t19.1 ([(0 : Int), (0 : Int), (253 : Int), (232 : Int), (0 : Int), (0 : Int), (0 : Int), (77 : Int)] : List Int))) (w' := w29) ha rfl rfl rfl (eqs_run (r := (eqA 8 t19.1 ([(0 : Int), (0 : Int), (253 : Int), (232 : Int), (0 : Int), (0 : Int), (0 : Int), (77 : Int)] : List Int))) (m := 9) ha rfl rfl (by kernel_rfl) rfl (by kernel_rfl) _) fun a ha => ?_
     refine sgh ha 2 [3, 0] [(39, .bool (eqA 8 t19.1 ([(0 : Int), (0 : Int), (253 : Int), (232 : Int), (0 : Int), (0 : Int), (0 : Int), (77 : Int)] : List Int)))] (by kernel_rfl) fun a ha => ?_
     rcases Bool.eq_false_or_eq_true ((eqA 8 t19.1 ([(0 : Int), (0 : Int), (253 : Int), (232 : Int), (0 : Int), (0 : Int), (0 : Int), (77 : Int)] : List Int))) with hb33 | hb33
     ·have ha := ha.lit hb33
      have H := ite_t hb33 H
      refine opk (v := .agg (cA .u8 8 ([(0 : Int), (9 : Int), (0 : Int), (0 : Int), (0 : Int), (0 : Int), (0 : Int), (1 : Int)] : List Int)).toArray) ha rfl rfl rfl rfl rfl (fun w => by kernel_rfl) fun a ha => ?_
      obtain ⟨t34, H34, H⟩ := bind_some H
      refine cl ha (by rfl) (by kernel_rfl) (by rfl) (by rfl) (by rfl) (rd_Text.walk w29 _ hM hG ([(0 : Int), (9 : Int), (0 : Int), (0 : Int), (0 : Int), (0 : Int), (0 : Int), (1 : Int)] : List Int) k _ H34) ?_
      rintro _ w34 ⟨rfl, hc34, hMn⟩ a ha
      have o1 : Ok [] ([g21] ++ ([g13] ++ ([g5] ++ (M)))) w29.heap.size := Ok.nil _ _
      have o2 : Ok ([g21] ++ ([g13] ++ ([g5] ++ (M)))) ([g21] ++ ([g13] ++ ([g5] ++ (M)))) w29.heap.size := (Ok.refl _ _)
      have hG := hG.chg hc34 o1 o2
      have hBg5 := hBg5.chg hc34 (fun h => nomatch h)
      have hBg13 := hBg13.chg hc34 (fun h => nomatch h)
      have hBg21 := hBg21.chg hc34 (fun h => nomatch h)
      have hM : MS ([g21] ++ ([g13] ++ ([g5] ++ (M)))) w34 := (hM.chg hc34)
      have hC := hC.trans hc34 (Ok.nil _ _)
      refine sgh ha 3 [2, 3, 0] [(0, .bool ((bstr t34).toList == (bstr ([63, 58, 48, 48, 48, 57, 48, 48, 48, 48, 48, 48, 48, 48, 48, 48, 48, 49] : List UInt8)).toList))] (by kernel_rfl) fun a ha => ?_
      obtain rfl := Option.some.inj H
      exact J27 _ _ (ha.sel (by kernel_rfl)) hBg5 hBg13 hBg21 hG hC hM
     ·have ha := ha.lit hb33
      have H := ite_f hb33 H
      refine sgh ha 5 [1, 1, 1, 4, 0] [(0, .bool false)] (by kernel_rfl) fun a ha => ?_
      obtain rfl := Option.some.inj H
      exact J27 _ _ (ha.sel (by kernel_rfl)) hBg5 hBg13 hBg21 hG hC hM
    ·have ha := ha.lit hb32
     have H := ite_f hb32 H
     refine sgh ha 10 [1, 1, 1, 4, 0, 1, 1, 1, 4, 0] [(0, .bool false)] (by kernel_rfl) fun a ha => ?_
     obtain rfl := Option.some.inj H
     exact J27 _ _ (ha.sel (by kernel_rfl)) hBg5 hBg13 hBg21 hG hC hM
   ·have ha := ha.lit hb31
    have H := ite_f hb31 H
    refine sgh ha 14 [1, 1, 4, 0, 1, 1, 1, 4, 0, 1, 1, 1, 4, 0] [(0, .bool false)] (by kernel_rfl) fun a ha => ?_
    obtain rfl := Option.some.inj H
    exact J27 _ _ (ha.sel (by kernel_rfl)) hBg5 hBg13 hBg21 hG hC hM
  ·have ha := ha.lit hb30
   have H := ite_f hb30 H
   refine sgh ha 18 [1, 1, 4, 0, 1, 1, 4, 0, 1, 1, 1, 4, 0, 1, 1, 1, 4, 0] [(0, .bool false)] (by kernel_rfl) fun a ha => ?_
   obtain rfl := Option.some.inj H
   exact J27 _ _ (ha.sel (by kernel_rfl)) hBg5 hBg13 hBg21 hG hC hM
 ·have ha := ha.lit hb28
  have H := ite_f hb28 H
  refine sgh ha 23 [1, 1, 1, 4, 0, 1, 1, 4, 0, 1, 1, 4, 0, 1, 1, 1, 4, 0, 1, 1, 1, 4, 0] [(0, .bool false)] (by kernel_rfl) fun a ha => ?_
  obtain rfl := Option.some.inj H
  exact J27 _ _ (ha.sel (by kernel_rfl)) hBg5 hBg13 hBg21 hG hC hM
def vineryref03_widths.f (a0 : Int) : Option (Int × Int) := (if (a0 == (0 : Int)) = true then some (((2 : Int) : Int), ((4 : Int) : Int)) else (if (if (a0 == (1 : Int)) = true then true else (a0 == (2 : Int))) = true then some (((4 : Int) : Int), ((2 : Int) : Int)) else some (((0 : Int) : Int), ((0 : Int) : Int))))
set_option maxRecDepth 100000 in
theorem vineryref03_widths.walk (w : World) (M : List Nat) (hM : MS M w) (a0 : Int) (r : Int × Int) (H : vineryref03_widths.f a0 = some r) :
    To Tryd.prog 27 [.int .i64 a0] w fun v w' => v = .tuple #[.int .i64 r.1, .int .i64 r.2] ∧ Chg [] w w' ∧ MS (M) w' := by
 unfold vineryref03_widths.f at H
 refine ent Tryd.func27 rfl [(0, .int .i64 a0)] rfl (by rfl) fun a ha => ?_
 have hC : Chg [] w w := Chg.refl _ _
 refine wp_seq_k fun K1 hK1 => ?_
 refine wp_region_lit ?_
 refine seg ha 2 [(0, .int .i64 a0)] (by kernel_rfl) fun a ha => ?_
 refine hK1 _ _ ?_; try clear hK1 K1
 refine wp_seq_k fun K2 hK2 => ?_
 refine wp_seq_k fun K3 hK3 => ?_
 refine wp_region_lit ?_
 refine seg ha 2 [(0, .int .i64 a0), (5, .bool (a0 == (0 : Int)))] (by kernel_rfl) fun a ha => ?_
 refine hK3 _ _ ?_; try clear hK3 K3
 refine cnd ha rfl (fun hc4 => ?_) (fun hc4 => ?_)
 ·have H := ite_t hc4 H
  refine wp_seq_k fun K5 hK5 => ?_
  refine wp_region_lit ?_
  refine seg ha 2 [(2, .int .i64 (2 : Int)), (3, .int .i64 (4 : Int))] (by kernel_rfl) fun a ha => ?_
  refine hK5 _ _ ?_; try clear hK5 K5
  refine wp_ret ?_
  try simp only [Exit.then, Exit.inBlock]
  obtain rfl := Option.some.inj H
  refine rt2 ha rfl rfl rfl ?_
  exact ⟨rfl, hC, hM⟩
 ·have H := ite_f hc4 H
  refine wp_skip ?_
  refine hK2 _ _ ?_; try clear hK2 K2
  refine wp_seq_k fun K6 hK6 => ?_
  refine wp_seq_k fun K7 hK7 => ?_
  refine wp_region_lit ?_
  refine seg ha 6 [(11, .bool (if (a0 == (1 : Int)) = true then true else (a0 == (2 : Int))))] (by kernel_rfl) fun a ha => ?_
  refine hK7 _ _ ?_; try clear hK7 K7
  refine cnd ha rfl (fun hc8 => ?_) (fun hc8 => ?_)
  ·have H := ite_t hc8 H
   refine wp_seq_k fun K9 hK9 => ?_
   refine wp_region_lit ?_
   refine seg ha 2 [(2, .int .i64 (4 : Int)), (3, .int .i64 (2 : Int))] (by kernel_rfl) fun a ha => ?_
   refine hK9 _ _ ?_; try clear hK9 K9
   refine wp_ret ?_
   try simp only [Exit.then, Exit.inBlock]
   obtain rfl := Option.some.inj H
   refine rt2 ha rfl rfl rfl ?_
   exact ⟨rfl, hC, hM⟩
  ·have H := ite_f hc8 H
   refine wp_skip ?_
   refine hK6 _ _ ?_; try clear hK6 K6
   refine wp_seq_k fun K10 hK10 => ?_
   refine wp_region_lit ?_
   refine seg ha 2 [(2, .int .i64 (0 : Int)), (3, .int .i64 (0 : Int))] (by kernel_rfl) fun a ha => ?_
   refine hK10 _ _ ?_; try clear hK10 K10
   refine wp_ret ?_
   try simp only [Exit.then, Exit.inBlock]
   obtain rfl := Option.some.inj H
   refine rt2 ha rfl rfl rfl ?_
   exact ⟨rfl, hC, hM⟩
def vineryref01_Bytes.l0 (a0 : Int) : Nat → (List Int) → Int → Option (List Int)
  | 0, _, _ => none
  | kk + 1, x7, x8 => (if (decide (x8 ≥ (0 : Int))) = true then (if 0 ≤ (IntKind.i64.wrap ((8 : Int) * x8)) then (if (x7.length + ([IntKind.u8.wrap (Int.fdiv a0 (2 ^ (min (Int.toNat (IntKind.i64.wrap ((8 : Int) * x8))) IntKind.i64.bits)))] : List Int).length) * 1 ≤ 140737488355328 then vineryref01_Bytes.l0 a0 kk (x7 ++ ([IntKind.u8.wrap (Int.fdiv a0 (2 ^ (min (Int.toNat (IntKind.i64.wrap ((8 : Int) * x8))) IntKind.i64.bits)))] : List Int)) (IntKind.i64.wrap (x8 - (1 : Int))) else none) else none) else some (x7 : List Int))
def vineryref01_Bytes.f (k : Nat) (a0 : Int) (a1 : Int) : Option (List Int) := (vineryref01_Bytes.l0 a0 k ([] : List Int) (IntKind.i64.wrap (a1 - (1 : Int)))).bind fun s5 => some ((s5 : List Int))
set_option maxRecDepth 100000 in
theorem vineryref01_Bytes.walk (w : World) (M : List Nat) (hM : MS M w) (a0 : Int) (a1 : Int) (k : Nat) (r : List Int) (H : vineryref01_Bytes.f k a0 a1 = some r) :
    To Tryd.prog 28 [.int .i64 a0, .int .i64 a1] w fun v w' => ∃ (ao25 : Option Addr) (cap25 : Nat), v = .slice ao25 r.length cap25 ∧ (Own (rInt .u8) 5 w' (blkL ao25 ++ (M)) ao25 cap25 r) ∧ (∀ x ∈ blkL ao25, w.heap.size ≤ x) ∧ Chg [] w w' ∧ MS (blkL ao25 ++ (M)) w' := by
 unfold vineryref01_Bytes.f at H
 refine ent Tryd.func28 rfl [(0, .int .i64 a0), (1, .int .i64 a1)] rfl (by rfl) fun a ha => ?_
 have hC : Chg [] w w := Chg.refl _ _
 refine wp_seq_k fun K1 hK1 => ?_
 refine wp_region_lit ?_
 refine seg ha 1 [(0, .int .i64 a0), (1, .int .i64 a1)] (by kernel_rfl) fun a ha => ?_
 refine hK1 _ _ ?_; try clear hK1 K1
 refine wp_seq_k fun K2 hK2 => ?_
 refine wp_region_lit ?_
 refine seg ha 1 [(0, .int .i64 a0), (1, .int .i64 a1), (5, .slice none 0 0)] (by kernel_rfl) fun a ha => ?_
 refine hK2 _ _ ?_; try clear hK2 K2
 refine wp_seq_k fun K3 hK3 => ?_
 refine wp_seq_k fun K4 hK4 => ?_
 refine wp_region_lit ?_
 refine seg ha 3 [(0, .int .i64 a0), (5, .slice none 0 0), (6, .int .i64 (IntKind.i64.wrap (a1 - (1 : Int))))] (by kernel_rfl) fun a ha => ?_
 refine hK4 _ _ ?_; try clear hK4 K4
 refine wp_block ?_
 obtain ⟨s5, H5, H⟩ := bind_some H
 have J5 : ∀ (a : Act) (wx5 : World) (ao9 : Option Addr) (cap9 : Nat), Has a Tryd.f28.ntmps [(5, .slice ao9 s5.length cap9)] → (Own (rInt .u8) 5 wx5 (blkL ao9 ++ (M)) ao9 cap9 s5) → (∀ x ∈ blkL ao9, w.heap.size ≤ x) → (∀ x ∈ blkL ao9, x ∉ M) → (Chg [] w wx5) → (MS (blkL ao9 ++ (M)) wx5) → K3 a wx5 := by
  intro a wx5 ao9 cap9 ha f9 e_i9 p_i9_M hC hM
  refine hK3 _ _ ?_; try clear hK3 K3
  refine wp_seq_k fun K10 hK10 => ?_
  refine wp_region_lit ?_
  refine seg ha 2 [(4, .slice ao9 s5.length cap9)] (by kernel_rfl) fun a ha => ?_
  refine hK10 _ _ ?_; try clear hK10 K10
  refine wp_ret ?_
  try simp only [Exit.then, Exit.inBlock]
  obtain rfl := Option.some.inj H
  refine rt1 ha rfl rfl ?_
  exact ⟨ao9, cap9, rfl, f9, e_i9, hC, hM⟩
 have Hc5 := H
 have H := H5
 refine wp_loop_ghost (fun kk a w5 => ∃ (x7 : List Int) (x8 : Int) (ao6 : Option Addr) (cap6 : Nat), vineryref01_Bytes.l0 a0 kk x7 x8 = some s5 ∧ Has a Tryd.f28.ntmps [(0, .int .i64 a0), (5, .slice ao6 x7.length cap6), (6, .int .i64 x8)] ∧ (Own (rInt .u8) 5 w5 (blkL ao6 ++ (M)) ao6 cap6 x7) ∧ (∀ x ∈ blkL ao6, w.heap.size ≤ x) ∧ (∀ x ∈ blkL ao6, x ∉ M) ∧ (Chg [] w w5) ∧ (MS (blkL ao6 ++ (M)) w5)) k ?_ ?_
 ·skip
  have p_z11_M : ∀ x ∈ blkL none, x ∉ M := fun x hx hy => absurd (hM x (hy)) (Nat.not_lt.2 ((fun _ h => nomatch h) x hx))
  have e_z11 : ∀ x ∈ blkL none, w.heap.size ≤ x := fun x hx => Nat.le_trans hC.size ((fun _ h => nomatch h) x hx)
  have hM : MS (blkL none ++ (M)) w := (MS.app (fun _ h => nomatch h) (hM.chg (Chg.refl [] _)))
  have hC := hC.trans (Chg.refl [] _) (Ok.nil _ _)
  exact ⟨([] : List Int), IntKind.i64.wrap (a1 - (1 : Int)), none, 0, H, (ha.sel (by kernel_rfl)), Own.nil, e_z11, p_z11_M, hC, hM⟩
 ·rintro kk a w5 ⟨x7, x8, ao6, cap6, H, ha, f6, e_i6, p_i6_M, hC, hM⟩
  obtain _ | kk := kk
  ·exact nomatch (show none = some _ from H)
  rw [vineryref01_Bytes.l0] at H
  refine wp_seq_k fun K12 hK12 => ?_
  refine wp_seq_k fun K13 hK13 => ?_
  refine wp_region_lit ?_
  refine seg ha 2 [(0, .int .i64 a0), (5, .slice ao6 x7.length cap6), (6, .int .i64 x8), (10, .bool (decide (x8 ≥ (0 : Int))))] (by kernel_rfl) fun a ha => ?_
  refine hK13 _ _ ?_; try clear hK13 K13
  refine cnd ha rfl (fun hc14 => ?_) (fun hc14 => ?_)
  ·have H := ite_t hc14 H
   refine wp_skip ?_
   refine hK12 _ _ ?_; try clear hK12 K12
   refine wp_seq_k fun K15 hK15 => ?_
   refine wp_block ?_
   refine wp_region_lit ?_
   refine seg ha 4 [(0, .int .i64 a0), (6, .int .i64 x8), (13, .slice ao6 x7.length cap6), (14, .int .i64 a0), (16, .int .i64 (IntKind.i64.wrap ((8 : Int) * x8)))] (by kernel_rfl) fun a ha => ?_
   obtain ⟨hx16, H⟩ := ite_some H
   refine hop (v := .int .i64 (Int.fdiv a0 (2 ^ (min (Int.toNat (IntKind.i64.wrap ((8 : Int) * x8))) IntKind.i64.bits)))) (w' := w5) ha rfl rfl rfl (shr_run ha (by rfl) (by rfl) hx16 _) fun a ha => ?_
   refine seg ha 1 [(0, .int .i64 a0), (6, .int .i64 x8), (13, .slice ao6 x7.length cap6), (18, .int .u8 (IntKind.u8.wrap (Int.fdiv a0 (2 ^ (min (Int.toNat (IntKind.i64.wrap ((8 : Int) * x8))) IntKind.i64.bits)))))] (by kernel_rfl) fun a ha => ?_
   refine bsl (vals := ([.int .u8 (IntKind.u8.wrap (Int.fdiv a0 (2 ^ (min (Int.toNat (IntKind.i64.wrap ((8 : Int) * x8))) IntKind.i64.bits))))] : List Value)) (T := 5) ha rfl (([.int .u8 (IntKind.u8.wrap (Int.fdiv a0 (2 ^ (min (Int.toNat (IntKind.i64.wrap ((8 : Int) * x8))) IntKind.i64.bits))))] : List Value) ++ ([] : List Value)) (fun w => by kernel_rfl) rfl rfl rfl fun a w17 g18 hN19 ha => ?_
   have o1 : Ok [] (blkL ao6 ++ (M)) w5.heap.size := Ok.nil _ _
   have o2 : Ok ([g18] ++ (blkL ao6 ++ (M))) (blkL ao6 ++ (M)) w5.heap.size := (Ok.app (hN19.ok _) (Ok.refl _ _))
   have f6 := f6.chg hN19.chg o1 o2 (fun _ _ h => nomatch h) (fun _ h => mr (ml h))
   have p_i20_i6 : ∀ x ∈ [g18], x ∉ (blkL ao6) := fun x hx hy => absurd (hM x (ml hy)) (Nat.not_lt.2 ((hN19.ge1) x hx))
   have p_i20_M : ∀ x ∈ [g18], x ∉ M := fun x hx hy => absurd (hM x (mr (hy))) (Nat.not_lt.2 ((hN19.ge1) x hx))
   have e_i20 : ∀ x ∈ [g18], w.heap.size ≤ x := fun x hx => Nat.le_trans hC.size ((hN19.ge1) x hx)
   have hM : MS ([g18] ++ (blkL ao6 ++ (M))) w17 := (MS.app hN19.ms (hM.chg hN19.chg))
   have hC := hC.trans hN19.chg (Ok.nil _ _)
   have f21 : Own (rInt .u8) 5 w17 ([g18] ++ (blkL ao6 ++ (M))) (some ⟨g18, 0, none⟩) 1 ([IntKind.u8.wrap (Int.fdiv a0 (2 ^ (min (Int.toNat (IntKind.i64.wrap ((8 : Int) * x8))) IntKind.i64.bits)))] : List Int) := hN19.own ⟨([.int .u8 (IntKind.u8.wrap (Int.fdiv a0 (2 ^ (min (Int.toNat (IntKind.i64.wrap ((8 : Int) * x8))) IntKind.i64.bits))))] : List Value), _, rfl, rfl, rfl⟩ (Nat.le_of_ble_eq_true rfl)
   obtain ⟨hx22, H⟩ := ite_some H
   refine app (r := (rInt .u8)) (xs := x7) (ys := ([IntKind.u8.wrap (Int.fdiv a0 (2 ^ (min (Int.toNat (IntKind.i64.wrap ((8 : Int) * x8))) IntKind.i64.bits)))] : List Int)) ha (ElemT.mk' (bytes := 1) (by kernel_rfl)) rfl rfl rfl rfl rfl f6 f21.src hx22 (by decide) fun a w23 ao24 cap24 hO24 hc24 hk24 hl24 ha => ?_
   have o1 : Ok (blkL ao6) ([g18] ++ (blkL ao6 ++ (M))) w17.heap.size := (fun _ h => .inl (mr (ml h)))
   have o2 : Ok (blkL ao24 ++ ([g18] ++ (M))) ([g18] ++ (blkL ao6 ++ (M))) w17.heap.size := (Ok.app (Ok.to hk24 (fun _ h => mr (ml h))) (Ok.app (fun _ h => .inl (ml h)) (fun _ h => .inl (mr (mr (h))))))
   have f21 := f21.chg hc24 o1 o2 p_i20_i6 (fun _ h => mr (ml h))
   have p_i24_i20 : ∀ x ∈ blkL ao24, x ∉ ([g18]) := fun x hx hy => (hk24 x hx).elim (fun h => (fun x hx hy => p_i20_i6 x hy hx) x h hy) (fun h => absurd (hM x (ml hy)) (Nat.not_lt.2 h))
   have p_i24_M : ∀ x ∈ blkL ao24, x ∉ M := fun x hx hy => (hk24 x hx).elim (fun h => p_i6_M x h hy) (fun h => absurd (hM x (mr (mr (hy)))) (Nat.not_lt.2 h))
   have e_i24 : ∀ x ∈ blkL ao24, w.heap.size ≤ x := fun x hx => (hk24 x hx).elim (e_i6 x) (Nat.le_trans hC.size)
   have hM : MS (blkL ao24 ++ ([g18] ++ (M))) w23 := (MS.app hl24 (MS.app (fun x h => hM.chg hc24 x (ml h)) (fun x h => hM.chg hc24 x (mr (mr (h))))))
   have hC := hC.trans hc24 (fun x h => .inr (e_i6 x h))
   have f24 := hO24.chg (M' := blkL ao24 ++ ([g18] ++ (M))) (Chg.refl [] _) (Ok.nil _ _) (Ok.app (fun _ h => .inl (ml h)) (Ok.to (Ok.app (fun _ h => .inl (ml h)) (fun _ h => .inl (mr (mr (h))))) (fun _ h => mr h))) (fun _ _ h => nomatch h) (fun _ h => ml h)
   refine seg ha 1 [(0, .int .i64 a0), (5, .slice ao24 (x7 ++ ([IntKind.u8.wrap (Int.fdiv a0 (2 ^ (min (Int.toNat (IntKind.i64.wrap ((8 : Int) * x8))) IntKind.i64.bits)))] : List Int)).length cap24), (6, .int .i64 x8)] (by kernel_rfl) fun a ha => ?_
   refine hK15 _ _ ?_; try clear hK15 K15
   refine wp_region_lit ?_
   refine seg ha 3 [(0, .int .i64 a0), (5, .slice ao24 (x7 ++ ([IntKind.u8.wrap (Int.fdiv a0 (2 ^ (min (Int.toNat (IntKind.i64.wrap ((8 : Int) * x8))) IntKind.i64.bits)))] : List Int)).length cap24), (6, .int .i64 (IntKind.i64.wrap (x8 - (1 : Int))))] (by kernel_rfl) fun a ha => ?_
   have o1 : Ok [] (blkL ao24 ++ ([g18] ++ (M))) w23.heap.size := Ok.nil _ _
   have o2 : Ok (blkL ao24 ++ (M)) (blkL ao24 ++ ([g18] ++ (M))) w23.heap.size := (Ok.app (fun _ h => .inl (ml h)) (fun _ h => .inl (mr (mr (h)))))
   have f24 := f24.chg (Chg.refl [] _) o1 o2 (fun _ _ h => nomatch h) (fun _ h => ml h)
   have hM : MS (blkL ao24 ++ (M)) w23 := (MS.app (fun x h => hM.chg (Chg.refl [] _) x (ml h)) (fun x h => hM.chg (Chg.refl [] _) x (mr (mr (h)))))
   have hC := hC.trans (Chg.refl [] _) (Ok.nil _ _)
   exact ⟨kk, Nat.lt_succ_self _, ⟨(x7 ++ ([IntKind.u8.wrap (Int.fdiv a0 (2 ^ (min (Int.toNat (IntKind.i64.wrap ((8 : Int) * x8))) IntKind.i64.bits)))] : List Int)), IntKind.i64.wrap (x8 - (1 : Int)), ao24, cap24, H, (ha.sel (by kernel_rfl)), f24, e_i24, p_i24_M, hC, hM⟩⟩
  ·have H := ite_f hc14 H
   refine wp_exit ?_
   simp only [Exit.then, Exit.inBlock, ↓reduceIte, Nat.reduceEqDiff]
   obtain rfl := Option.some.inj H
   exact J5 _ _ ao6 cap6 (ha.sel (by kernel_rfl)) f6 e_i6 p_i6_M hC hM
def vineryref03_Of.l0 (a0 : List Int) : Nat → Int → (List Int) → Option (List Int)
  | 0, _, _ => none
  | kk + 1, x15, x16 => (if (if (decide (x15 < (8 : Int))) = true then (decide (x15 < (a0.length : Int))) else false) = true then (if 0 ≤ x15 ∧ x15 < (a0.length : Int) then (if 0 ≤ x15 ∧ x15 < (8 : Int) then vineryref03_Of.l0 a0 kk (IntKind.i64.wrap (x15 + (1 : Int))) ((arL 8 x16).set (Int.toNat x15) (rd a0 x15)) else none) else none) else some (x16 : List Int))
def vineryref03_Of.f (k : Nat) (a0 : List Int) : Option (List Int) := (vineryref03_Of.l0 a0 k (0 : Int) (List.replicate 8 (0 : Int))).bind fun s14 => some ((s14 : List Int))
set_option maxRecDepth 100000 in
theorem vineryref03_Of.walk (w : World) (M : List Nat) (hM : MS M w) (a0 : List Int) (ao1 : Option Addr) (cap1 : Nat) (f1 : RSl (rInt .u8) 5 w M ao1 cap1 a0) (k : Nat) (r : List Int) (H : vineryref03_Of.f k a0 = some r) :
    To Tryd.prog 29 [.slice ao1 a0.length cap1] w fun v w' => v = .agg (cA .u8 8 r).toArray ∧ Chg [] w w' ∧ MS (M) w' := by
 unfold vineryref03_Of.f at H
 refine ent Tryd.func29 rfl [(0, .slice ao1 a0.length cap1)] rfl (by rfl) fun a ha => ?_
 have hC : Chg [] w w := Chg.refl _ _
 refine wp_seq_k fun K2 hK2 => ?_
 refine wp_region_lit ?_
 refine al (cs := (cA .u8 8 (List.replicate 8 (0 : Int)))) (z := .agg (cA .u8 8 (List.replicate 8 (0 : Int))).toArray) ha (fun w => by kernel_rfl) rfl rfl rfl rfl fun a w3 g4 hN5 ha => ?_
 have o1 : Ok [] (M) w.heap.size := Ok.nil _ _
 have o2 : Ok ([g4] ++ (M)) (M) w.heap.size := (Ok.app (hN5.ok _) (Ok.refl _ _))
 have f1 := f1.chg hN5.chg o1 o2
 have p_i6_M : ∀ x ∈ [g4], x ∉ M := fun x hx hy => absurd (hM x (hy)) (Nat.not_lt.2 ((hN5.ge1) x hx))
 have e_i6 : ∀ x ∈ [g4], w.heap.size ≤ x := fun x hx => Nat.le_trans hC.size ((hN5.ge1) x hx)
 have hM : MS ([g4] ++ (M)) w3 := (MS.app hN5.ms (hM.chg hN5.chg))
 have hC := hC.trans hN5.chg (Ok.nil _ _)
 have hBg4 : Box w3 g4 (cA .u8 8 (List.replicate 8 (0 : Int))) := hN5.box
 refine hK2 _ _ ?_; try clear hK2 K2
 refine wp_seq_k fun K7 hK7 => ?_
 refine wp_region_lit ?_
 refine al (cs := (cA .u8 8 (List.replicate 8 (0 : Int)))) (z := .agg (cA .u8 8 (List.replicate 8 (0 : Int))).toArray) ha (fun w => by kernel_rfl) rfl rfl rfl rfl fun a w8 g9 hN10 ha => ?_
 have o1 : Ok [] ([g4] ++ (M)) w3.heap.size := Ok.nil _ _
 have o2 : Ok ([g9] ++ ([g4] ++ (M))) ([g4] ++ (M)) w3.heap.size := (Ok.app (hN10.ok _) (Ok.refl _ _))
 have f1 := f1.chg hN10.chg o1 o2
 have hBg4 := hBg4.chg hN10.chg (fun h => nomatch h)
 have p_i11_i6 : ∀ x ∈ [g9], x ∉ ([g4]) := fun x hx hy => absurd (hM x (ml hy)) (Nat.not_lt.2 ((hN10.ge1) x hx))
 have p_i11_M : ∀ x ∈ [g9], x ∉ M := fun x hx hy => absurd (hM x (mr (hy))) (Nat.not_lt.2 ((hN10.ge1) x hx))
 have e_i11 : ∀ x ∈ [g9], w.heap.size ≤ x := fun x hx => Nat.le_trans hC.size ((hN10.ge1) x hx)
 have hM : MS ([g9] ++ ([g4] ++ (M))) w8 := (MS.app hN10.ms (hM.chg hN10.chg))
 have hC := hC.trans hN10.chg (Ok.nil _ _)
 have hBg9 : Box w8 g9 (cA .u8 8 (List.replicate 8 (0 : Int))) := hN10.box
 refine hK7 _ _ ?_; try clear hK7 K7
 refine wp_seq_k fun K12 hK12 => ?_
 refine wp_seq_k fun K13 hK13 => ?_
 refine wp_region_lit ?_
 refine seg ha 1 [(0, .slice ao1 a0.length cap1), (2, .pointer (some ⟨g4, 0, none⟩)), (3, .pointer (some ⟨g9, 0, none⟩)), (4, .int .i64 (0 : Int))] (by kernel_rfl) fun a ha => ?_
 refine hK13 _ _ ?_; try clear hK13 K13
 refine wp_block ?_
 obtain ⟨s14, H14, H⟩ := bind_some H
 have J14 : ∀ (a : Act) (wx14 : World), Has a Tryd.f29.ntmps [(2, .pointer (some ⟨g4, 0, none⟩)), (3, .pointer (some ⟨g9, 0, none⟩))] → (Box wx14 g4 (cA .u8 8 (List.replicate 8 (0 : Int)))) → (Box wx14 g9 (cA .u8 8 s14)) → (Chg [] w wx14) → (MS ([g9] ++ ([g4] ++ (M))) wx14) → K12 a wx14 := by
  intro a wx14 ha hBg4 hBg9 hC hM
  refine hK12 _ _ ?_; try clear hK12 K12
  refine wp_seq_k fun K17 hK17 => ?_
  refine wp_region_lit ?_
  refine ldA (cs := (cA .u8 8 s14)) ha rfl (by kernel_rfl) rfl rfl rfl (cells_sub (Box.cells hBg9) (all := (cA .u8 8 s14)) [] [] (by kernel_rfl)) fun a ha => ?_
  refine stA (l := (cA .u8 8 s14)) ha rfl rfl rfl (by kernel_rfl) rfl rfl hBg4 rfl fun a w18 ha hb2 hc19 _ => ?_
  have hBg9 := hBg9.chg hc19 (p_i11_i6 g9 (by simp))
  have hM : MS ([g9] ++ ([g4] ++ (M))) w18 := (hM.chg hc19)
  have hC := hC.trans hc19 (fun x h => .inr (e_i6 x h))
  have hBg4 : Box w18 g4 (cA .u8 8 s14) := hb2
  refine hK17 _ _ ?_; try clear hK17 K17
  refine wp_ret ?_
  try simp only [Exit.then, Exit.inBlock]
  have hBg4 := hBg4.chg (Chg.refl [] _) (fun h => nomatch h)
  have hBg9 := hBg9.chg (Chg.refl [] _) (fun h => nomatch h)
  have hM : MS (M) w18 := (fun x h => hM.chg (Chg.refl [] _) x (mr (mr (h))))
  have hC := hC.trans (Chg.refl [] _) (Ok.nil _ _)
  obtain rfl := Option.some.inj H
  refine rtr ha (res1 rfl (roA ha rfl hBg4 (by kernel_rfl))) ?_
  exact ⟨rfl, hC, hM⟩
 have Hc14 := H
 have H := H14
 refine wp_loop_ghost (fun kk a w14 => ∃ (x15 : Int) (x16 : List Int), vineryref03_Of.l0 a0 kk x15 x16 = some s14 ∧ Has a Tryd.f29.ntmps [(0, .slice ao1 a0.length cap1), (2, .pointer (some ⟨g4, 0, none⟩)), (3, .pointer (some ⟨g9, 0, none⟩)), (4, .int .i64 x15)] ∧ (RSl (rInt .u8) 5 w14 ([g9] ++ ([g4] ++ (M))) ao1 cap1 a0) ∧ (Box w14 g4 (cA .u8 8 (List.replicate 8 (0 : Int)))) ∧ (Box w14 g9 (cA .u8 8 x16)) ∧ (Chg [] w w14) ∧ (MS ([g9] ++ ([g4] ++ (M))) w14)) k ?_ ?_
 ·skip
  exact ⟨(0 : Int), (List.replicate 8 (0 : Int)), H, (ha.sel (by kernel_rfl)), f1, hBg4, hBg9, hC, hM⟩
 ·rintro kk a w14 ⟨x15, x16, H, ha, f1, hBg4, hBg9, hC, hM⟩
  obtain _ | kk := kk
  ·exact nomatch (show none = some _ from H)
  rw [vineryref03_Of.l0] at H
  refine wp_seq_k fun K20 hK20 => ?_
  refine wp_seq_k fun K21 hK21 => ?_
  refine wp_region_lit ?_
  refine seg ha 8 [(0, .slice ao1 a0.length cap1), (2, .pointer (some ⟨g4, 0, none⟩)), (3, .pointer (some ⟨g9, 0, none⟩)), (4, .int .i64 x15), (12, .bool (if (decide (x15 < (8 : Int))) = true then (decide (x15 < (a0.length : Int))) else false))] (by kernel_rfl) fun a ha => ?_
  refine hK21 _ _ ?_; try clear hK21 K21
  refine cnd ha rfl (fun hc22 => ?_) (fun hc22 => ?_)
  ·have H := ite_t hc22 H
   refine wp_skip ?_
   refine hK20 _ _ ?_; try clear hK20 K20
   refine wp_seq_k fun K23 hK23 => ?_
   refine wp_block ?_
   refine wp_region_lit ?_
   refine seg ha 3 [(0, .slice ao1 a0.length cap1), (2, .pointer (some ⟨g4, 0, none⟩)), (3, .pointer (some ⟨g9, 0, none⟩)), (4, .int .i64 x15), (15, .int .i64 x15), (16, .slice ao1 a0.length cap1), (17, .int .i64 x15)] (by kernel_rfl) fun a ha => ?_
   obtain ⟨⟨hx24, hx24'⟩, H⟩ := ite_some H
   refine ix (r := (rInt .u8)) ha (by kernel_rfl) (by kernel_rfl) rfl rfl rfl rfl rfl f1 hx24 hx24' fun a ge25 oe26 cs27 hn30 hR28 hE29 ha => ?_
   rw [rd_get] at hR28
   obtain rfl := hR28
   have hE29 : ∀ j v, ([.int .u8 (rd a0 x15)] : List Value)[j]? = some v → w14.cell? ⟨ge25, oe26 + j, none⟩ = some v := hE29
   refine ld ha rfl (by kernel_rfl) rfl rfl rfl (hE29 0 (.int .u8 (rd a0 x15)) (by kernel_rfl)) fun a ha => ?_
   obtain ⟨⟨hx31, hx31'⟩, H⟩ := ite_some H
   have hi31 : (Int.toNat x15) < 8 := by omega
   refine hop (v := .pointer (some ⟨g9, 0 + (Int.toNat x15), none⟩)) (w' := w14) ha rfl rfl rfl (ixA_run (T := 5) (N := 8) (g := g9) (o' := 0) (k := .i64) (i := x15) ha (by kernel_rfl) (by kernel_rfl) (by rfl) (by rfl) hx31 hx31' _) fun a ha => ?_
   refine st (o' := 0 + (Int.toNat x15)) ha rfl rfl rfl (by kernel_rfl) rfl rfl hBg9 (arr_lt (k := .u8) (m := 8) (x := x16) ([] : List Value) ([] : List Value) (by kernel_rfl) hi31) fun a w32 ha hb2 hc33 _ => ?_
   have o1 : Ok [g9] ([g9] ++ ([g4] ++ (M))) w14.heap.size := (fun _ h => .inl (ml h))
   have o2 : Ok ([g9] ++ ([g4] ++ (M))) ([g9] ++ ([g4] ++ (M))) w14.heap.size := (Ok.refl _ _)
   have f1 := f1.chg hc33 o1 o2
   have hBg4 := hBg4.chg hc33 ((fun x (hx : x ∈ [g4]) (hy : x ∈ [g9]) => p_i11_i6 x hy hx) g4 (by simp))
   have hM : MS ([g9] ++ ([g4] ++ (M))) w32 := (hM.chg hc33)
   have hC := hC.trans hc33 (fun x h => .inr (e_i11 x h))
   have hBg9 : Box w32 g9 (cA .u8 8 ((arL 8 x16).set (Int.toNat x15) (rd a0 x15))) := Box.setA (k := .u8) (m := 8) (x := x16) ([] : List Value) ([] : List Value) hb2 (by kernel_rfl) hi31 (by kernel_rfl)
   refine hK23 _ _ ?_; try clear hK23 K23
   refine wp_region_lit ?_
   refine seg ha 3 [(0, .slice ao1 a0.length cap1), (2, .pointer (some ⟨g4, 0, none⟩)), (3, .pointer (some ⟨g9, 0, none⟩)), (4, .int .i64 (IntKind.i64.wrap (x15 + (1 : Int))))] (by kernel_rfl) fun a ha => ?_
   exact ⟨kk, Nat.lt_succ_self _, ⟨IntKind.i64.wrap (x15 + (1 : Int)), ((arL 8 x16).set (Int.toNat x15) (rd a0 x15)), H, (ha.sel (by kernel_rfl)), f1, hBg4, hBg9, hC, hM⟩⟩
  ·have H := ite_f hc22 H
   refine wp_exit ?_
   simp only [Exit.then, Exit.inBlock, ↓reduceIte, Nat.reduceEqDiff]
   obtain rfl := Option.some.inj H
   exact J14 _ _ (ha.sel (by kernel_rfl)) hBg4 hBg9 hC hM
def vineryref03_Make.f (k : Nat) (a0 : Int) (a1 : Int) (a2 : Int) : Option (List Int × Int) := (vineryref03_widths.f a0).bind fun t7 => (if (t7.1 == (0 : Int)) = true then some ((([(0 : Int), (0 : Int), (0 : Int), (0 : Int), (0 : Int), (0 : Int), (0 : Int), (0 : Int)] : List Int) : List Int), ((1 : Int) : Int)) else ((if (decide (a1 < (0 : Int))) = true then some (true : Bool) else (if (decide (a2 < (0 : Int))) = true then some (true : Bool) else (if 0 ≤ (IntKind.i64.wrap ((8 : Int) * t7.1)) then (if (decide (a1 ≥ (IntKind.i64.wrap ((1 : Int) * 2 ^ (min (Int.toNat (IntKind.i64.wrap ((8 : Int) * t7.1))) IntKind.i64.bits))))) = true then some (true : Bool) else (if 0 ≤ (IntKind.i64.wrap ((8 : Int) * t7.2)) then some (decide (a2 ≥ (IntKind.i64.wrap ((1 : Int) * 2 ^ (min (Int.toNat (IntKind.i64.wrap ((8 : Int) * t7.2))) IntKind.i64.bits)))) : Bool) else none)) else none)))).bind fun s16 => (if s16 = true then some ((([(0 : Int), (0 : Int), (0 : Int), (0 : Int), (0 : Int), (0 : Int), (0 : Int), (0 : Int)] : List Int) : List Int), ((5 : Int) : Int)) else (vineryref01_Bytes.f k a0 (2 : Int)).bind fun t22 => (vineryref01_Bytes.f k a1 t7.1).bind fun t24 => (if (t22.length + t24.length) * 1 ≤ 140737488355328 then (vineryref01_Bytes.f k a2 t7.2).bind fun t30 => (if ((t22 ++ t24).length + t30.length) * 1 ≤ 140737488355328 then (vineryref03_Of.f k ((t22 ++ t24) ++ t30)).bind fun t35 => some ((t35 : List Int), ((0 : Int) : Int)) else none) else none)))
set_option maxRecDepth 100000 in
theorem vineryref03_Make.walk (w : World) (M : List Nat) (hM : MS M w) (a0 : Int) (a1 : Int) (a2 : Int) (k : Nat) (r : List Int × Int) (H : vineryref03_Make.f k a0 a1 a2 = some r) :
    To Tryd.prog 12 [.int .i64 a0, .int .i64 a1, .int .i64 a2] w fun v w' => v = .tuple #[.agg (cA .u8 8 r.1).toArray, .int .i64 r.2] ∧ Chg [] w w' ∧ MS (M) w' := by
 unfold vineryref03_Make.f at H
 refine ent Tryd.func12 rfl [(0, .int .i64 a0), (1, .int .i64 a1), (2, .int .i64 a2)] rfl (by rfl) fun a ha => ?_
 have hC : Chg [] w w := Chg.refl _ _
 refine wp_seq_k fun K1 hK1 => ?_
 refine wp_region_lit ?_
 refine al (cs := (cA .u8 8 (List.replicate 8 (0 : Int)))) (z := .agg (cA .u8 8 (List.replicate 8 (0 : Int))).toArray) ha (fun w => by kernel_rfl) rfl rfl rfl rfl fun a w2 g3 hN4 ha => ?_
 have p_i5_M : ∀ x ∈ [g3], x ∉ M := fun x hx hy => absurd (hM x (hy)) (Nat.not_lt.2 ((hN4.ge1) x hx))
 have e_i5 : ∀ x ∈ [g3], w.heap.size ≤ x := fun x hx => Nat.le_trans hC.size ((hN4.ge1) x hx)
 have hM : MS ([g3] ++ (M)) w2 := (MS.app hN4.ms (hM.chg hN4.chg))
 have hC := hC.trans hN4.chg (Ok.nil _ _)
 have hBg3 : Box w2 g3 (cA .u8 8 (List.replicate 8 (0 : Int))) := hN4.box
 refine seg ha 1 [(0, .int .i64 a0), (1, .int .i64 a1), (2, .int .i64 a2), (6, .pointer (some ⟨g3, 0, none⟩))] (by kernel_rfl) fun a ha => ?_
 refine hK1 _ _ ?_; try clear hK1 K1
 refine wp_seq_k fun K6 hK6 => ?_
 refine wp_region_lit ?_
 refine seg ha 1 [(0, .int .i64 a0), (1, .int .i64 a1), (2, .int .i64 a2), (6, .pointer (some ⟨g3, 0, none⟩)), (12, .int .i64 a0)] (by kernel_rfl) fun a ha => ?_
 obtain ⟨t7, H7, H⟩ := bind_some H
 refine cl ha (by rfl) (by kernel_rfl) (by rfl) (by rfl) (by rfl) (vineryref03_widths.walk w2 _ hM a0 _ H7) ?_
 rintro _ w7 ⟨rfl, hc7, hMn⟩ a ha
 have hBg3 := hBg3.chg hc7 (fun h => nomatch h)
 have hM : MS ([g3] ++ (M)) w7 := (hM.chg hc7)
 have hC := hC.trans hc7 (Ok.nil _ _)
 refine seg ha 5 [(0, .int .i64 a0), (1, .int .i64 a1), (2, .int .i64 a2), (6, .pointer (some ⟨g3, 0, none⟩)), (8, .int .i64 t7.1), (9, .int .i64 t7.2)] (by kernel_rfl) fun a ha => ?_
 refine hK6 _ _ ?_; try clear hK6 K6
 refine wp_seq_k fun K8 hK8 => ?_
 refine wp_seq_k fun K9 hK9 => ?_
 refine wp_region_lit ?_
 refine seg ha 2 [(0, .int .i64 a0), (1, .int .i64 a1), (2, .int .i64 a2), (6, .pointer (some ⟨g3, 0, none⟩)), (8, .int .i64 t7.1), (9, .int .i64 t7.2), (17, .bool (t7.1 == (0 : Int)))] (by kernel_rfl) fun a ha => ?_
 refine hK9 _ _ ?_; try clear hK9 K9
 refine cnd ha rfl (fun hc10 => ?_) (fun hc10 => ?_)
 ·have H := ite_t hc10 H
  refine wp_seq_k fun K11 hK11 => ?_
  refine wp_region_lit ?_
  refine opk (v := .agg (cA .u8 8 ([(0 : Int), (0 : Int), (0 : Int), (0 : Int), (0 : Int), (0 : Int), (0 : Int), (0 : Int)] : List Int)).toArray) ha rfl rfl rfl rfl rfl (fun w => by kernel_rfl) fun a ha => ?_
  refine stA (l := (cA .u8 8 ([(0 : Int), (0 : Int), (0 : Int), (0 : Int), (0 : Int), (0 : Int), (0 : Int), (0 : Int)] : List Int))) ha rfl rfl rfl (by kernel_rfl) rfl rfl hBg3 rfl fun a w12 ha hb2 hc13 _ => ?_
  have hM : MS ([g3] ++ (M)) w12 := (hM.chg hc13)
  have hC := hC.trans hc13 (fun x h => .inr (e_i5 x h))
  have hBg3 : Box w12 g3 (cA .u8 8 ([(0 : Int), (0 : Int), (0 : Int), (0 : Int), (0 : Int), (0 : Int), (0 : Int), (0 : Int)] : List Int)) := hb2
  refine seg ha 1 [(6, .pointer (some ⟨g3, 0, none⟩)), (7, .int .i64 (1 : Int))] (by kernel_rfl) fun a ha => ?_
  refine hK11 _ _ ?_; try clear hK11 K11
  refine wp_ret ?_
  try simp only [Exit.then, Exit.inBlock]
  have hBg3 := hBg3.chg (Chg.refl [] _) (fun h => nomatch h)
  have hM : MS (M) w12 := (fun x h => hM.chg (Chg.refl [] _) x (mr (h)))
  have hC := hC.trans (Chg.refl [] _) (Ok.nil _ _)
  obtain rfl := Option.some.inj H
  refine rtr ha (res2 rfl (roA ha rfl hBg3 (by kernel_rfl)) (roT ha rfl)) ?_
  exact ⟨rfl, hC, hM⟩
 ·have H := ite_f hc10 H
  refine wp_skip ?_
  refine hK8 _ _ ?_; try clear hK8 K8
  refine wp_seq_k fun K14 hK14 => ?_
  refine wp_seq_k fun K15 hK15 => ?_
  refine wp_region_lit ?_
  obtain ⟨s16, H16, H⟩ := bind_some H
  have J16 : ∀ (a : Act) (w16 : World), Has a Tryd.f12.ntmps [(0, .int .i64 a0), (1, .int .i64 a1), (2, .int .i64 a2), (6, .pointer (some ⟨g3, 0, none⟩)), (8, .int .i64 t7.1), (9, .int .i64 t7.2), (38, .bool s16)] → (Box w16 g3 (cA .u8 8 (List.replicate 8 (0 : Int)))) → (Chg [] w w16) → (MS ([g3] ++ (M)) w16) → K15 a w16 := by
   intro a w16 ha hBg3 hC hM
   refine hK15 _ _ ?_; try clear hK15 K15
   refine cnd ha rfl (fun hc17 => ?_) (fun hc17 => ?_)
   ·have H := ite_t hc17 H
    refine wp_seq_k fun K18 hK18 => ?_
    refine wp_region_lit ?_
    refine opk (v := .agg (cA .u8 8 ([(0 : Int), (0 : Int), (0 : Int), (0 : Int), (0 : Int), (0 : Int), (0 : Int), (0 : Int)] : List Int)).toArray) ha rfl rfl rfl rfl rfl (fun w => by kernel_rfl) fun a ha => ?_
    refine stA (l := (cA .u8 8 ([(0 : Int), (0 : Int), (0 : Int), (0 : Int), (0 : Int), (0 : Int), (0 : Int), (0 : Int)] : List Int))) ha rfl rfl rfl (by kernel_rfl) rfl rfl hBg3 rfl fun a w19 ha hb2 hc20 _ => ?_
    have hM : MS ([g3] ++ (M)) w19 := (hM.chg hc20)
    have hC := hC.trans hc20 (fun x h => .inr (e_i5 x h))
    have hBg3 : Box w19 g3 (cA .u8 8 ([(0 : Int), (0 : Int), (0 : Int), (0 : Int), (0 : Int), (0 : Int), (0 : Int), (0 : Int)] : List Int)) := hb2
    refine seg ha 1 [(6, .pointer (some ⟨g3, 0, none⟩)), (7, .int .i64 (5 : Int))] (by kernel_rfl) fun a ha => ?_
    refine hK18 _ _ ?_; try clear hK18 K18
    refine wp_ret ?_
    try simp only [Exit.then, Exit.inBlock]
    have hBg3 := hBg3.chg (Chg.refl [] _) (fun h => nomatch h)
    have hM : MS (M) w19 := (fun x h => hM.chg (Chg.refl [] _) x (mr (h)))
    have hC := hC.trans (Chg.refl [] _) (Ok.nil _ _)
    obtain rfl := Option.some.inj H
    refine rtr ha (res2 rfl (roA ha rfl hBg3 (by kernel_rfl)) (roT ha rfl)) ?_
    exact ⟨rfl, hC, hM⟩
   ·have H := ite_f hc17 H
    refine wp_skip ?_
    refine hK14 _ _ ?_; try clear hK14 K14
    refine wp_seq_k fun K21 hK21 => ?_
    refine wp_region_lit ?_
    refine seg ha 1 [(1, .int .i64 a1), (2, .int .i64 a2), (6, .pointer (some ⟨g3, 0, none⟩)), (8, .int .i64 t7.1), (9, .int .i64 t7.2), (40, .int .i64 a0)] (by kernel_rfl) fun a ha => ?_
    obtain ⟨t22, H22, H⟩ := bind_some H
    refine cl ha (by rfl) (by kernel_rfl) (by rfl) (by rfl) (by rfl) (vineryref01_Bytes.walk w16 _ hM a0 (2 : Int) k _ H22) ?_
    rintro _ w22 ⟨ao23, cap23, rfl, f23, ne_i23, hc22, hMn⟩ a ha
    have hBg3 := hBg3.chg hc22 (fun h => nomatch h)
    have p_i23_i5 : ∀ x ∈ blkL ao23, x ∉ ([g3]) := fun x hx hy => absurd (hM x (ml hy)) (Nat.not_lt.2 (ne_i23 x hx))
    have p_i23_M : ∀ x ∈ blkL ao23, x ∉ M := fun x hx hy => absurd (hM x (mr (hy))) (Nat.not_lt.2 (ne_i23 x hx))
    have e_i23 : ∀ x ∈ blkL ao23, w.heap.size ≤ x := fun x hx => Nat.le_trans hC.size (ne_i23 x hx)
    have hM : MS (blkL ao23 ++ ([g3] ++ (M))) w22 := (MS.app (fun x h => hMn x (ml h)) (hM.chg hc22))
    have hC := hC.trans hc22 (Ok.nil _ _)
    refine seg ha 2 [(2, .int .i64 a2), (6, .pointer (some ⟨g3, 0, none⟩)), (9, .int .i64 t7.2), (41, .slice ao23 t22.length cap23), (42, .int .i64 a1), (43, .int .i64 t7.1)] (by kernel_rfl) fun a ha => ?_
    obtain ⟨t24, H24, H⟩ := bind_some H
    refine cl ha (by rfl) (by kernel_rfl) (by rfl) (by rfl) (by rfl) (vineryref01_Bytes.walk w22 _ hM a1 t7.1 k _ H24) ?_
    rintro _ w24 ⟨ao25, cap25, rfl, f25, ne_i25, hc24, hMn⟩ a ha
    have o1 : Ok [] (blkL ao23 ++ ([g3] ++ (M))) w22.heap.size := Ok.nil _ _
    have o2 : Ok (blkL ao25 ++ (blkL ao23 ++ ([g3] ++ (M)))) (blkL ao23 ++ ([g3] ++ (M))) w22.heap.size := (Ok.app (fun x h => .inr (ne_i25 x h)) (Ok.refl _ _))
    have f23 := f23.chg hc24 o1 o2 (fun _ _ h => nomatch h) (fun _ h => mr (ml h))
    have hBg3 := hBg3.chg hc24 (fun h => nomatch h)
    have p_i25_i23 : ∀ x ∈ blkL ao25, x ∉ (blkL ao23) := fun x hx hy => absurd (hM x (ml hy)) (Nat.not_lt.2 (ne_i25 x hx))
    have p_i25_i5 : ∀ x ∈ blkL ao25, x ∉ ([g3]) := fun x hx hy => absurd (hM x (mr (ml hy))) (Nat.not_lt.2 (ne_i25 x hx))
    have p_i25_M : ∀ x ∈ blkL ao25, x ∉ M := fun x hx hy => absurd (hM x (mr (mr (hy)))) (Nat.not_lt.2 (ne_i25 x hx))
    have e_i25 : ∀ x ∈ blkL ao25, w.heap.size ≤ x := fun x hx => Nat.le_trans hC.size (ne_i25 x hx)
    have hM : MS (blkL ao25 ++ (blkL ao23 ++ ([g3] ++ (M)))) w24 := (MS.app (fun x h => hMn x (ml h)) (hM.chg hc24))
    have hC := hC.trans hc24 (Ok.nil _ _)
    obtain ⟨hx26, H⟩ := ite_some H
    refine app (r := (rInt .u8)) (xs := t22) (ys := t24) ha (ElemT.mk' (bytes := 1) (by kernel_rfl)) rfl rfl rfl rfl rfl f23 f25.src hx26 (by decide) fun a w27 ao28 cap28 hO28 hc28 hk28 hl28 ha => ?_
    have o1 : Ok (blkL ao23) (blkL ao25 ++ (blkL ao23 ++ ([g3] ++ (M)))) w24.heap.size := (fun _ h => .inl (mr (ml h)))
    have o2 : Ok (blkL ao28 ++ (blkL ao25 ++ ([g3] ++ (M)))) (blkL ao25 ++ (blkL ao23 ++ ([g3] ++ (M)))) w24.heap.size := (Ok.app (Ok.to hk28 (fun _ h => mr (ml h))) (Ok.app (fun _ h => .inl (ml h)) (fun _ h => .inl (mr (mr (h))))))
    have f25 := f25.chg hc28 o1 o2 p_i25_i23 (fun _ h => mr (ml h))
    have hBg3 := hBg3.chg hc28 ((fun x (hx : x ∈ [g3]) (hy : x ∈ blkL ao23) => p_i23_i5 x hy hx) g3 (by simp))
    have p_i28_i25 : ∀ x ∈ blkL ao28, x ∉ (blkL ao25) := fun x hx hy => (hk28 x hx).elim (fun h => (fun x hx hy => p_i25_i23 x hy hx) x h hy) (fun h => absurd (hM x (ml hy)) (Nat.not_lt.2 h))
    have p_i28_i5 : ∀ x ∈ blkL ao28, x ∉ ([g3]) := fun x hx hy => (hk28 x hx).elim (fun h => p_i23_i5 x h hy) (fun h => absurd (hM x (mr (mr (ml hy)))) (Nat.not_lt.2 h))
    have p_i28_M : ∀ x ∈ blkL ao28, x ∉ M := fun x hx hy => (hk28 x hx).elim (fun h => p_i23_M x h hy) (fun h => absurd (hM x (mr (mr (mr (hy))))) (Nat.not_lt.2 h))
    have e_i28 : ∀ x ∈ blkL ao28, w.heap.size ≤ x := fun x hx => (hk28 x hx).elim (e_i23 x) (Nat.le_trans hC.size)
    have hM : MS (blkL ao28 ++ (blkL ao25 ++ ([g3] ++ (M)))) w27 := (MS.app hl28 (MS.app (fun x h => hM.chg hc28 x (ml h)) (fun x h => hM.chg hc28 x (mr (mr (h))))))
    have hC := hC.trans hc28 (fun x h => .inr (e_i23 x h))
    have f28 := hO28.chg (M' := blkL ao28 ++ (blkL ao25 ++ ([g3] ++ (M)))) (Chg.refl [] _) (Ok.nil _ _) (Ok.app (fun _ h => .inl (ml h)) (Ok.to (Ok.app (fun _ h => .inl (ml h)) (fun _ h => .inl (mr (mr (h))))) (fun _ h => mr h))) (fun _ _ h => nomatch h) (fun _ h => ml h)
    refine seg ha 1 [(2, .int .i64 a2), (6, .pointer (some ⟨g3, 0, none⟩)), (9, .int .i64 t7.2), (10, .slice ao28 (t22 ++ t24).length cap28)] (by kernel_rfl) fun a ha => ?_
    refine hK21 _ _ ?_; try clear hK21 K21
    refine wp_seq_k fun K29 hK29 => ?_
    refine wp_region_lit ?_
    refine seg ha 3 [(6, .pointer (some ⟨g3, 0, none⟩)), (46, .slice ao28 (t22 ++ t24).length cap28), (47, .int .i64 a2), (48, .int .i64 t7.2)] (by kernel_rfl) fun a ha => ?_
    obtain ⟨t30, H30, H⟩ := bind_some H
    refine cl ha (by rfl) (by kernel_rfl) (by rfl) (by rfl) (by rfl) (vineryref01_Bytes.walk w27 _ hM a2 t7.2 k _ H30) ?_
    rintro _ w30 ⟨ao31, cap31, rfl, f31, ne_i31, hc30, hMn⟩ a ha
    have o1 : Ok [] (blkL ao28 ++ (blkL ao25 ++ ([g3] ++ (M)))) w27.heap.size := Ok.nil _ _
    have o2 : Ok (blkL ao31 ++ (blkL ao28 ++ (blkL ao25 ++ ([g3] ++ (M))))) (blkL ao28 ++ (blkL ao25 ++ ([g3] ++ (M)))) w27.heap.size := (Ok.app (fun x h => .inr (ne_i31 x h)) (Ok.refl _ _))
    have f28 := f28.chg hc30 o1 o2 (fun _ _ h => nomatch h) (fun _ h => mr (ml h))
    have hBg3 := hBg3.chg hc30 (fun h => nomatch h)
    have p_i31_i28 : ∀ x ∈ blkL ao31, x ∉ (blkL ao28) := fun x hx hy => absurd (hM x (ml hy)) (Nat.not_lt.2 (ne_i31 x hx))
    have p_i31_i25 : ∀ x ∈ blkL ao31, x ∉ (blkL ao25) := fun x hx hy => absurd (hM x (mr (ml hy))) (Nat.not_lt.2 (ne_i31 x hx))
    have p_i31_i5 : ∀ x ∈ blkL ao31, x ∉ ([g3]) := fun x hx hy => absurd (hM x (mr (mr (ml hy)))) (Nat.not_lt.2 (ne_i31 x hx))
    have p_i31_M : ∀ x ∈ blkL ao31, x ∉ M := fun x hx hy => absurd (hM x (mr (mr (mr (hy))))) (Nat.not_lt.2 (ne_i31 x hx))
    have e_i31 : ∀ x ∈ blkL ao31, w.heap.size ≤ x := fun x hx => Nat.le_trans hC.size (ne_i31 x hx)
    have hM : MS (blkL ao31 ++ (blkL ao28 ++ (blkL ao25 ++ ([g3] ++ (M))))) w30 := (MS.app (fun x h => hMn x (ml h)) (hM.chg hc30))
    have hC := hC.trans hc30 (Ok.nil _ _)
    obtain ⟨hx32, H⟩ := ite_some H
    refine app (r := (rInt .u8)) (xs := (t22 ++ t24)) (ys := t30) ha (ElemT.mk' (bytes := 1) (by kernel_rfl)) rfl rfl rfl rfl rfl f28 f31.src hx32 (by decide) fun a w33 ao34 cap34 hO34 hc34 hk34 hl34 ha => ?_
    have o1 : Ok (blkL ao28) (blkL ao31 ++ (blkL ao28 ++ (blkL ao25 ++ ([g3] ++ (M))))) w30.heap.size := (fun _ h => .inl (mr (ml h)))
    have o2 : Ok (blkL ao34 ++ (blkL ao31 ++ (blkL ao25 ++ ([g3] ++ (M))))) (blkL ao31 ++ (blkL ao28 ++ (blkL ao25 ++ ([g3] ++ (M))))) w30.heap.size := (Ok.app (Ok.to hk34 (fun _ h => mr (ml h))) (Ok.app (fun _ h => .inl (ml h)) (fun _ h => .inl (mr (mr (h))))))
    have f31 := f31.chg hc34 o1 o2 p_i31_i28 (fun _ h => mr (ml h))
    have hBg3 := hBg3.chg hc34 ((fun x (hx : x ∈ [g3]) (hy : x ∈ blkL ao28) => p_i28_i5 x hy hx) g3 (by simp))
    have p_i34_i31 : ∀ x ∈ blkL ao34, x ∉ (blkL ao31) := fun x hx hy => (hk34 x hx).elim (fun h => (fun x hx hy => p_i31_i28 x hy hx) x h hy) (fun h => absurd (hM x (ml hy)) (Nat.not_lt.2 h))
    have p_i34_i25 : ∀ x ∈ blkL ao34, x ∉ (blkL ao25) := fun x hx hy => (hk34 x hx).elim (fun h => p_i28_i25 x h hy) (fun h => absurd (hM x (mr (mr (ml hy)))) (Nat.not_lt.2 h))
    have p_i34_i5 : ∀ x ∈ blkL ao34, x ∉ ([g3]) := fun x hx hy => (hk34 x hx).elim (fun h => p_i28_i5 x h hy) (fun h => absurd (hM x (mr (mr (mr (ml hy))))) (Nat.not_lt.2 h))
    have p_i34_M : ∀ x ∈ blkL ao34, x ∉ M := fun x hx hy => (hk34 x hx).elim (fun h => p_i28_M x h hy) (fun h => absurd (hM x (mr (mr (mr (mr (hy)))))) (Nat.not_lt.2 h))
    have e_i34 : ∀ x ∈ blkL ao34, w.heap.size ≤ x := fun x hx => (hk34 x hx).elim (e_i28 x) (Nat.le_trans hC.size)
    have hM : MS (blkL ao34 ++ (blkL ao31 ++ (blkL ao25 ++ ([g3] ++ (M))))) w33 := (MS.app hl34 (MS.app (fun x h => hM.chg hc34 x (ml h)) (fun x h => hM.chg hc34 x (mr (mr (h))))))
    have hC := hC.trans hc34 (fun x h => .inr (e_i28 x h))
    have f34 := hO34.chg (M' := blkL ao34 ++ (blkL ao31 ++ (blkL ao25 ++ ([g3] ++ (M))))) (Chg.refl [] _) (Ok.nil _ _) (Ok.app (fun _ h => .inl (ml h)) (Ok.to (Ok.app (fun _ h => .inl (ml h)) (fun _ h => .inl (mr (mr (h))))) (fun _ h => mr h))) (fun _ _ h => nomatch h) (fun _ h => ml h)
    have hML : MS (blkL ao31 ++ (blkL ao25 ++ ([g3] ++ (M)))) w33 := MS.rest hM (fun _ h => (List.mem_append.1 h).elim (fun h => mr (ml h)) (fun h => (List.mem_append.1 h).elim (fun h => mr (mr (ml h))) (fun h => (List.mem_append.1 h).elim (fun h => mr (mr (mr (ml h)))) (fun h => mr (mr (mr (mr (h))))))))
    have oL : Ok (blkL ao31 ++ (blkL ao25 ++ ([g3] ++ (M)))) (blkL ao34 ++ (blkL ao31 ++ (blkL ao25 ++ ([g3] ++ (M))))) w33.heap.size := (fun _ h => .inl (mr (h)))
    obtain ⟨t35, H35, H⟩ := bind_some H
    refine cl ha (by rfl) (by kernel_rfl) (by rfl) (by rfl) (by rfl) (vineryref03_Of.walk w33 _ hML ((t22 ++ t24) ++ t30) ao34 cap34 (Own.toRSl (M' := blkL ao31 ++ (blkL ao25 ++ ([g3] ++ (M)))) f34 oL (fun x hx hm => (List.mem_append.1 hm).elim (fun h => p_i34_i31 x hx h) (fun h => (List.mem_append.1 h).elim (fun h => p_i34_i25 x hx h) (fun h => (List.mem_append.1 h).elim (fun h => p_i34_i5 x hx h) (fun h => p_i34_M x hx h))))) k _ H35) ?_
    rintro _ w35 ⟨rfl, hc35, hMn⟩ a ha
    have o1 : Ok [] (blkL ao34 ++ (blkL ao31 ++ (blkL ao25 ++ ([g3] ++ (M))))) w33.heap.size := Ok.nil _ _
    have o2 : Ok (blkL ao34 ++ (blkL ao31 ++ (blkL ao25 ++ ([g3] ++ (M))))) (blkL ao34 ++ (blkL ao31 ++ (blkL ao25 ++ ([g3] ++ (M))))) w33.heap.size := (Ok.refl _ _)
    have f34 := f34.chg hc35 o1 o2 (fun _ _ h => nomatch h) (fun _ h => ml h)
    have hBg3 := hBg3.chg hc35 (fun h => nomatch h)
    have hM : MS (blkL ao34 ++ (blkL ao31 ++ (blkL ao25 ++ ([g3] ++ (M))))) w35 := (hM.chg hc35)
    have hC := hC.trans hc35 (Ok.nil _ _)
    refine stA (l := (cA .u8 8 t35)) ha rfl rfl rfl (by kernel_rfl) rfl rfl hBg3 rfl fun a w36 ha hb2 hc37 _ => ?_
    have hM : MS (blkL ao34 ++ (blkL ao31 ++ (blkL ao25 ++ ([g3] ++ (M))))) w36 := (hM.chg hc37)
    have hC := hC.trans hc37 (fun x h => .inr (e_i5 x h))
    have hBg3 : Box w36 g3 (cA .u8 8 t35) := hb2
    refine seg ha 1 [(6, .pointer (some ⟨g3, 0, none⟩)), (7, .int .i64 (0 : Int))] (by kernel_rfl) fun a ha => ?_
    refine hK29 _ _ ?_; try clear hK29 K29
    refine wp_ret ?_
    try simp only [Exit.then, Exit.inBlock]
    have hBg3 := hBg3.chg (Chg.refl [] _) (fun h => nomatch h)
    have hM : MS (M) w36 := (fun x h => hM.chg (Chg.refl [] _) x (mr (mr (mr (mr (h))))))
    have hC := hC.trans (Chg.refl [] _) (Ok.nil _ _)
    obtain rfl := Option.some.inj H
    refine rtr ha (res2 rfl (roA ha rfl hBg3 (by kernel_rfl)) (roT ha rfl)) ?_
    exact ⟨rfl, hC, hM⟩
  have H := H16
  refine seg ha 3 [(21, .bool (decide (a1 < (0 : Int)))), (0, .int .i64 a0), (1, .int .i64 a1), (2, .int .i64 a2), (6, .pointer (some ⟨g3, 0, none⟩)), (8, .int .i64 t7.1), (9, .int .i64 t7.2)] (by kernel_rfl) fun a ha => ?_
  rcases Bool.eq_false_or_eq_true (decide (a1 < (0 : Int))) with hb38 | hb38
  ·have ha := ha.lit hb38
   have H := ite_t hb38 H
   refine sgh ha 17 [1, 1, 3, 0, 1, 1, 1, 1, 1, 3, 0, 1, 1, 1, 1, 1, 3] [(0, .int .i64 a0), (1, .int .i64 a1), (2, .int .i64 a2), (6, .pointer (some ⟨g3, 0, none⟩)), (8, .int .i64 t7.1), (9, .int .i64 t7.2), (38, .bool true)] (by kernel_rfl) fun a ha => ?_
   obtain rfl := Option.some.inj H
   exact J16 _ _ (ha.sel (by kernel_rfl)) hBg3 hC hM
  ·have ha := ha.lit hb38
   have H := ite_f hb38 H
   refine sgh ha 4 [2, 2, 4, 0] [(25, .bool (decide (a2 < (0 : Int)))), (0, .int .i64 a0), (1, .int .i64 a1), (2, .int .i64 a2), (6, .pointer (some ⟨g3, 0, none⟩)), (8, .int .i64 t7.1), (9, .int .i64 t7.2)] (by kernel_rfl) fun a ha => ?_
   rcases Bool.eq_false_or_eq_true (decide (a2 < (0 : Int))) with hb39 | hb39
   ·have ha := ha.lit hb39
    have H := ite_t hb39 H
    refine sgh ha 13 [1, 1, 1, 1, 1, 3, 0, 1, 1, 1, 1, 1, 3] [(0, .int .i64 a0), (1, .int .i64 a1), (2, .int .i64 a2), (6, .pointer (some ⟨g3, 0, none⟩)), (8, .int .i64 t7.1), (9, .int .i64 t7.2), (38, .bool true)] (by kernel_rfl) fun a ha => ?_
    obtain rfl := Option.some.inj H
    exact J16 _ _ (ha.sel (by kernel_rfl)) hBg3 hC hM
   ·have ha := ha.lit hb39
    have H := ite_f hb39 H
    refine sgh ha 3 [2, 2, 2] [(0, .int .i64 a0), (1, .int .i64 a1), (2, .int .i64 a2), (6, .pointer (some ⟨g3, 0, none⟩)), (8, .int .i64 t7.1), (9, .int .i64 t7.2), (25, .bool false), (26, .int .i64 a1), (28, .int .i64 (IntKind.i64.wrap ((8 : Int) * t7.1)))] (by kernel_rfl) fun a ha => ?_
    obtain ⟨hx40, H⟩ := ite_some H
    refine hop (v := .int .i64 (IntKind.i64.wrap ((1 : Int) * 2 ^ (min (Int.toNat (IntKind.i64.wrap ((8 : Int) * t7.1))) IntKind.i64.bits)))) (w' := w7) ha rfl rfl rfl (shl_run ha (by rfl) (by rfl) hx40 _) fun a ha => ?_
    refine sgh ha 3 [2, 4, 0] [(32, .bool (decide (a1 ≥ (IntKind.i64.wrap ((1 : Int) * 2 ^ (min (Int.toNat (IntKind.i64.wrap ((8 : Int) * t7.1))) IntKind.i64.bits)))))), (0, .int .i64 a0), (1, .int .i64 a1), (2, .int .i64 a2), (6, .pointer (some ⟨g3, 0, none⟩)), (8, .int .i64 t7.1), (9, .int .i64 t7.2)] (by kernel_rfl) fun a ha => ?_
    rcases Bool.eq_false_or_eq_true (decide (a1 ≥ (IntKind.i64.wrap ((1 : Int) * 2 ^ (min (Int.toNat (IntKind.i64.wrap ((8 : Int) * t7.1))) IntKind.i64.bits))))) with hb41 | hb41
    ·have ha := ha.lit hb41
     have H := ite_t hb41 H
     refine sgh ha 6 [1, 1, 1, 1, 1, 3] [(0, .int .i64 a0), (1, .int .i64 a1), (2, .int .i64 a2), (6, .pointer (some ⟨g3, 0, none⟩)), (8, .int .i64 t7.1), (9, .int .i64 t7.2), (38, .bool true)] (by kernel_rfl) fun a ha => ?_
     obtain rfl := Option.some.inj H
     exact J16 _ _ (ha.sel (by kernel_rfl)) hBg3 hC hM
    ·have ha := ha.lit hb41
     have H := ite_f hb41 H
     refine sgh ha 3 [2, 2, 2] [(0, .int .i64 a0), (1, .int .i64 a1), (2, .int .i64 a2), (6, .pointer (some ⟨g3, 0, none⟩)), (8, .int .i64 t7.1), (9, .int .i64 t7.2), (32, .bool false), (33, .int .i64 a2), (35, .int .i64 (IntKind.i64.wrap ((8 : Int) * t7.2)))] (by kernel_rfl) fun a ha => ?_
     obtain ⟨hx42, H⟩ := ite_some H
     refine hop (v := .int .i64 (IntKind.i64.wrap ((1 : Int) * 2 ^ (min (Int.toNat (IntKind.i64.wrap ((8 : Int) * t7.2))) IntKind.i64.bits)))) (w' := w7) ha rfl rfl rfl (shl_run ha (by rfl) (by rfl) hx42 _) fun a ha => ?_
     refine sgh ha 2 [2, 4] [(0, .int .i64 a0), (1, .int .i64 a1), (2, .int .i64 a2), (6, .pointer (some ⟨g3, 0, none⟩)), (8, .int .i64 t7.1), (9, .int .i64 t7.2), (38, .bool (decide (a2 ≥ (IntKind.i64.wrap ((1 : Int) * 2 ^ (min (Int.toNat (IntKind.i64.wrap ((8 : Int) * t7.2))) IntKind.i64.bits))))))] (by kernel_rfl) fun a ha => ?_
     obtain rfl := Option.some.inj H
     exact J16 _ _ (ha.sel (by kernel_rfl)) hBg3 hC hM
def vineryref01_Big.l0 (a0 : List Int) : Nat → Int → Int → Option (Int)
  | 0, _, _ => none
  | kk + 1, x7, x8 => (if (decide (x8 < (a0.length : Int))) = true then (if 0 ≤ x8 ∧ x8 < (a0.length : Int) then vineryref01_Big.l0 a0 kk (IntKind.i64.wrap ((IntKind.i64.wrap (x7 * (256 : Int))) + (IntKind.i64.wrap (rd a0 x8)))) (IntKind.i64.wrap (x8 + (1 : Int))) else none) else some (x7 : Int))
def vineryref01_Big.f (k : Nat) (a0 : List Int) : Option (Int) := (vineryref01_Big.l0 a0 k (0 : Int) (0 : Int)).bind fun s6 => some ((s6 : Int))
set_option maxRecDepth 100000 in
theorem vineryref01_Big.walk (w : World) (M : List Nat) (hM : MS M w) (a0 : List Int) (ao1 : Option Addr) (cap1 : Nat) (f1 : RSl (rInt .u8) 5 w M ao1 cap1 a0) (k : Nat) (r : Int) (H : vineryref01_Big.f k a0 = some r) :
    To Tryd.prog 30 [.slice ao1 a0.length cap1] w fun v w' => v = .int .i64 r ∧ Chg [] w w' ∧ MS (M) w' := by
 unfold vineryref01_Big.f at H
 refine ent Tryd.func30 rfl [(0, .slice ao1 a0.length cap1)] rfl (by rfl) fun a ha => ?_
 have hC : Chg [] w w := Chg.refl _ _
 refine wp_seq_k fun K2 hK2 => ?_
 refine wp_region_lit ?_
 refine seg ha 1 [(0, .slice ao1 a0.length cap1)] (by kernel_rfl) fun a ha => ?_
 refine hK2 _ _ ?_; try clear hK2 K2
 refine wp_seq_k fun K3 hK3 => ?_
 refine wp_region_lit ?_
 refine seg ha 1 [(0, .slice ao1 a0.length cap1), (3, .int .i64 (0 : Int))] (by kernel_rfl) fun a ha => ?_
 refine hK3 _ _ ?_; try clear hK3 K3
 refine wp_seq_k fun K4 hK4 => ?_
 refine wp_seq_k fun K5 hK5 => ?_
 refine wp_region_lit ?_
 refine seg ha 1 [(0, .slice ao1 a0.length cap1), (3, .int .i64 (0 : Int)), (4, .int .i64 (0 : Int))] (by kernel_rfl) fun a ha => ?_
 refine hK5 _ _ ?_; try clear hK5 K5
 refine wp_block ?_
 obtain ⟨s6, H6, H⟩ := bind_some H
 have J6 : ∀ (a : Act) (wx6 : World), Has a Tryd.f30.ntmps [(3, .int .i64 s6)] → (Chg [] w wx6) → (MS (M) wx6) → K4 a wx6 := by
  intro a wx6 ha hC hM
  refine hK4 _ _ ?_; try clear hK4 K4
  refine wp_seq_k fun K9 hK9 => ?_
  refine wp_region_lit ?_
  refine seg ha 2 [(2, .int .i64 s6)] (by kernel_rfl) fun a ha => ?_
  refine hK9 _ _ ?_; try clear hK9 K9
  refine wp_ret ?_
  try simp only [Exit.then, Exit.inBlock]
  obtain rfl := Option.some.inj H
  refine rt1 ha rfl rfl ?_
  exact ⟨rfl, hC, hM⟩
 have Hc6 := H
 have H := H6
 refine wp_loop_ghost (fun kk a w6 => ∃ (x7 : Int) (x8 : Int), vineryref01_Big.l0 a0 kk x7 x8 = some s6 ∧ Has a Tryd.f30.ntmps [(0, .slice ao1 a0.length cap1), (3, .int .i64 x7), (4, .int .i64 x8)] ∧ (RSl (rInt .u8) 5 w6 (M) ao1 cap1 a0) ∧ (Chg [] w w6) ∧ (MS (M) w6)) k ?_ ?_
 ·skip
  exact ⟨(0 : Int), (0 : Int), H, (ha.sel (by kernel_rfl)), f1, hC, hM⟩
 ·rintro kk a w6 ⟨x7, x8, H, ha, f1, hC, hM⟩
  obtain _ | kk := kk
  ·exact nomatch (show none = some _ from H)
  rw [vineryref01_Big.l0] at H
  refine wp_seq_k fun K10 hK10 => ?_
  refine wp_seq_k fun K11 hK11 => ?_
  refine wp_region_lit ?_
  refine seg ha 4 [(0, .slice ao1 a0.length cap1), (3, .int .i64 x7), (4, .int .i64 x8), (8, .bool (decide (x8 < (a0.length : Int))))] (by kernel_rfl) fun a ha => ?_
  refine hK11 _ _ ?_; try clear hK11 K11
  refine cnd ha rfl (fun hc12 => ?_) (fun hc12 => ?_)
  ·have H := ite_t hc12 H
   refine wp_skip ?_
   refine hK10 _ _ ?_; try clear hK10 K10
   refine wp_seq_k fun K13 hK13 => ?_
   refine wp_block ?_
   refine wp_region_lit ?_
   refine seg ha 4 [(0, .slice ao1 a0.length cap1), (4, .int .i64 x8), (12, .int .i64 (IntKind.i64.wrap (x7 * (256 : Int)))), (13, .slice ao1 a0.length cap1), (14, .int .i64 x8)] (by kernel_rfl) fun a ha => ?_
   obtain ⟨⟨hx14, hx14'⟩, H⟩ := ite_some H
   refine ix (r := (rInt .u8)) ha (by kernel_rfl) (by kernel_rfl) rfl rfl rfl rfl rfl f1 hx14 hx14' fun a ge15 oe16 cs17 hn20 hR18 hE19 ha => ?_
   rw [rd_get] at hR18
   obtain rfl := hR18
   have hE19 : ∀ j v, ([.int .u8 (rd a0 x8)] : List Value)[j]? = some v → w6.cell? ⟨ge15, oe16 + j, none⟩ = some v := hE19
   refine ld ha rfl (by kernel_rfl) rfl rfl rfl (hE19 0 (.int .u8 (rd a0 x8)) (by kernel_rfl)) fun a ha => ?_
   refine seg ha 3 [(0, .slice ao1 a0.length cap1), (3, .int .i64 (IntKind.i64.wrap ((IntKind.i64.wrap (x7 * (256 : Int))) + (IntKind.i64.wrap (rd a0 x8))))), (4, .int .i64 x8)] (by kernel_rfl) fun a ha => ?_
   refine hK13 _ _ ?_; try clear hK13 K13
   refine wp_region_lit ?_
   refine seg ha 3 [(0, .slice ao1 a0.length cap1), (3, .int .i64 (IntKind.i64.wrap ((IntKind.i64.wrap (x7 * (256 : Int))) + (IntKind.i64.wrap (rd a0 x8))))), (4, .int .i64 (IntKind.i64.wrap (x8 + (1 : Int))))] (by kernel_rfl) fun a ha => ?_
   exact ⟨kk, Nat.lt_succ_self _, ⟨IntKind.i64.wrap ((IntKind.i64.wrap (x7 * (256 : Int))) + (IntKind.i64.wrap (rd a0 x8))), IntKind.i64.wrap (x8 + (1 : Int)), H, (ha.sel (by kernel_rfl)), f1, hC, hM⟩⟩
  ·have H := ite_f hc12 H
   refine wp_exit ?_
   simp only [Exit.then, Exit.inBlock, ↓reduceIte, Nat.reduceEqDiff]
   obtain rfl := Option.some.inj H
   exact J6 _ _ (ha.sel (by kernel_rfl)) hC hM
def vineryref03_Parts.f (k : Nat) (a0 : List Int) : Option (Int × Int × Int × Bool) := (if 0 ≤ (0 : Int) ∧ (0 : Int) ≤ (2 : Int) ∧ (2 : Int) ≤ (8 : Int) then (vineryref01_Big.f k (((arL 8 a0).take (Int.toNat (2 : Int))).drop (Int.toNat (0 : Int)))).bind fun t10 => (vineryref03_widths.f t10).bind fun t12 => (if (t12.1 == (0 : Int)) = true then some (((0 : Int) : Int), ((0 : Int) : Int), ((0 : Int) : Int), (false : Bool)) else (if 0 ≤ (2 : Int) ∧ (2 : Int) ≤ (IntKind.i64.wrap ((2 : Int) + t12.1)) ∧ (IntKind.i64.wrap ((2 : Int) + t12.1)) ≤ (8 : Int) then (vineryref01_Big.f k (((arL 8 a0).take (Int.toNat (IntKind.i64.wrap ((2 : Int) + t12.1)))).drop (Int.toNat (2 : Int)))).bind fun t20 => (if 0 ≤ (IntKind.i64.wrap ((2 : Int) + t12.1)) ∧ (IntKind.i64.wrap ((2 : Int) + t12.1)) ≤ (8 : Int) ∧ (8 : Int) ≤ (8 : Int) then (vineryref01_Big.f k (((arL 8 a0).take (Int.toNat (8 : Int))).drop (Int.toNat (IntKind.i64.wrap ((2 : Int) + t12.1))))).bind fun t23 => some ((t10 : Int), (t20 : Int), (t23 : Int), (true : Bool)) else none) else none)) else none)
set_option maxRecDepth 100000 in
theorem vineryref03_Parts.walk (w : World) (M : List Nat) (hM : MS M w) (a0 : List Int) (k : Nat) (r : Int × Int × Int × Bool) (H : vineryref03_Parts.f k a0 = some r) :
    To Tryd.prog 13 [.agg (cA .u8 8 a0).toArray] w fun v w' => v = .tuple #[.int .i64 r.1, .int .i64 r.2.1, .int .i64 r.2.2.1, .bool r.2.2.2] ∧ Chg [] w w' ∧ MS (M) w' := by
 unfold vineryref03_Parts.f at H
 refine ent Tryd.func13 rfl [(0, .agg (cA .u8 8 a0).toArray)] rfl (by rfl) fun a ha => ?_
 have hC : Chg [] w w := Chg.refl _ _
 refine wp_seq_k fun K1 hK1 => ?_
 refine wp_region_lit ?_
 refine bx (cs := (cA .u8 8 a0)) ha rfl rfl rfl rfl rfl fun a w2 g3 hN4 ha => ?_
 have hn6 := hN4.notin hM
 have hM : MS (M) w2 := (hM.chg hN4.chg)
 have hC := hC.trans hN4.chg (Ok.nil _ _)
 have hE5 : ∀ j v, (cA .u8 8 a0)[j]? = some v → w2.cell? ⟨g3, 0 + j, none⟩ = some v := Box.cells (New.box hN4)
 refine seg ha 4 [(1, .pointer (some ⟨g3, 0, none⟩))] (by kernel_rfl) fun a ha => ?_
 refine hK1 _ _ ?_; try clear hK1 K1
 refine wp_seq_k fun K7 hK7 => ?_
 refine wp_region_lit ?_
 have f8 : RSl (rInt .u8) 5 w2 (M) (some ⟨g3, 0 + 0, none⟩) 8 (arL 8 a0) := RSl.ofA [] [] hE5 hn6 (by kernel_rfl) rfl
 obtain ⟨⟨hx9, hx9', hx9''⟩, H⟩ := ite_some H
 obtain ⟨ao9, cap9, f9, hr9⟩ := slA_run (kk := .u8) (T := 5) (N := 8) (g := g3) (o' := 0 + 0) (xs := (arL 8 a0)) (t := 23) (lo := Option.none) (hi := (Option.some (Operand.const (Value.int IntKind.i64 2)))) (l := (0 : Int)) (h := (2 : Int)) (dd := some 9) (ty := 42) (pos := "ref.go:45") (af := #[]) (gd := Option.none) ha (by kernel_rfl) (by kernel_rfl) (x := (Operand.tmp 1)) rfl (arL_length _ _) rfl rfl f8 hx9 hx9' (by rw [arL_length]; exact hx9'')
 refine hop (v := .slice ao9 (((arL 8 a0).take (Int.toNat (2 : Int))).drop (Int.toNat (0 : Int))).length cap9) (w' := w2) ha rfl rfl rfl (hr9 _) fun a ha => ?_
 obtain ⟨t10, H10, H⟩ := bind_some H
 refine cl ha (by rfl) (by kernel_rfl) (by rfl) (by rfl) (by rfl) (vineryref01_Big.walk w2 _ hM (((arL 8 a0).take (Int.toNat (2 : Int))).drop (Int.toNat (0 : Int))) ao9 cap9 f9 k _ H10) ?_
 rintro _ w10 ⟨rfl, hc10, hMn⟩ a ha
 have o1 : Ok [] (M) w2.heap.size := Ok.nil _ _
 have o2 : Ok (M) (M) w2.heap.size := (Ok.refl _ _)
 have f9 := f9.chg hc10 o1 o2
 have q_hn6 : g3 ∉ M := fun h => (o2 g3 h).elim hn6 (fun h => absurd (lt_cell (hE5 0 _ rfl)) (Nat.not_lt.2 h))
 have hE5 : ∀ j v, (cA .u8 8 a0)[j]? = some v → w10.cell? ⟨g3, 0 + j, none⟩ = some v := fun j v hv => (cell_keep hc10 o1 hn6 (hE5 j v hv))
 have hn6 := q_hn6
 have hM : MS (M) w10 := (hM.chg hc10)
 have hC := hC.trans hc10 (Ok.nil _ _)
 refine seg ha 1 [(1, .pointer (some ⟨g3, 0, none⟩)), (6, .int .i64 t10)] (by kernel_rfl) fun a ha => ?_
 refine hK7 _ _ ?_; try clear hK7 K7
 refine wp_seq_k fun K11 hK11 => ?_
 refine wp_region_lit ?_
 refine seg ha 1 [(1, .pointer (some ⟨g3, 0, none⟩)), (6, .int .i64 t10), (12, .int .i64 t10)] (by kernel_rfl) fun a ha => ?_
 obtain ⟨t12, H12, H⟩ := bind_some H
 refine cl ha (by rfl) (by kernel_rfl) (by rfl) (by rfl) (by rfl) (vineryref03_widths.walk w10 _ hM t10 _ H12) ?_
 rintro _ w12 ⟨rfl, hc12, hMn⟩ a ha
 have o1 : Ok [] (M) w10.heap.size := Ok.nil _ _
 have o2 : Ok (M) (M) w10.heap.size := (Ok.refl _ _)
 have q_hn6 : g3 ∉ M := fun h => (o2 g3 h).elim hn6 (fun h => absurd (lt_cell (hE5 0 _ rfl)) (Nat.not_lt.2 h))
 have hE5 : ∀ j v, (cA .u8 8 a0)[j]? = some v → w12.cell? ⟨g3, 0 + j, none⟩ = some v := fun j v hv => (cell_keep hc12 o1 hn6 (hE5 j v hv))
 have hn6 := q_hn6
 have hM : MS (M) w12 := (hM.chg hc12)
 have hC := hC.trans hc12 (Ok.nil _ _)
 refine seg ha 5 [(1, .pointer (some ⟨g3, 0, none⟩)), (6, .int .i64 t10), (7, .int .i64 t12.1)] (by kernel_rfl) fun a ha => ?_
 refine hK11 _ _ ?_; try clear hK11 K11
 refine wp_seq_k fun K13 hK13 => ?_
 refine wp_seq_k fun K14 hK14 => ?_
 refine wp_region_lit ?_
 refine seg ha 2 [(1, .pointer (some ⟨g3, 0, none⟩)), (6, .int .i64 t10), (7, .int .i64 t12.1), (17, .bool (t12.1 == (0 : Int)))] (by kernel_rfl) fun a ha => ?_
 refine hK14 _ _ ?_; try clear hK14 K14
 refine cnd ha rfl (fun hc15 => ?_) (fun hc15 => ?_)
 ·have H := ite_t hc15 H
  refine wp_seq_k fun K16 hK16 => ?_
  refine wp_region_lit ?_
  refine seg ha 4 [(2, .int .i64 (0 : Int)), (3, .int .i64 (0 : Int)), (4, .int .i64 (0 : Int)), (5, .bool false)] (by kernel_rfl) fun a ha => ?_
  refine hK16 _ _ ?_; try clear hK16 K16
  refine wp_ret ?_
  try simp only [Exit.then, Exit.inBlock]
  obtain rfl := Option.some.inj H
  refine rt4 ha rfl rfl rfl rfl rfl ?_
  exact ⟨rfl, hC, hM⟩
 ·have H := ite_f hc15 H
  refine wp_skip ?_
  refine hK13 _ _ ?_; try clear hK13 K13
  refine wp_seq_k fun K17 hK17 => ?_
  refine drq0 (fun w' => Chg [] w12 w') (by kernel_rfl) (by kernel_rfl) (fun _ h => h) ?_
  refine qp 0 (.int .i64 t10) ha rfl rfl rfl (by kernel_rfl) fun a ha => ?_
  refine qp 0 (.int .i64 t12.1) ha rfl rfl rfl (by kernel_rfl) fun a ha => ?_
  refine qp 0 (.int .i64 (IntKind.i64.wrap ((2 : Int) + t12.1))) ha rfl rfl rfl (by kernel_rfl) fun a ha => ?_
  have f18 : RSl (rInt .u8) 5 w12 (M) (some ⟨g3, 0 + 0, none⟩) 8 (arL 8 a0) := RSl.ofA [] [] hE5 hn6 (by kernel_rfl) rfl
  obtain ⟨⟨hx19, hx19', hx19''⟩, H⟩ := ite_some H
  obtain ⟨ao19, cap19, f19, hr19⟩ := slA_run (kk := .u8) (T := 5) (N := 8) (g := g3) (o' := 0 + 0) (xs := (arL 8 a0)) (t := 23) (lo := (Option.some (Operand.const (Value.int IntKind.i64 2)))) (hi := (Option.some (Operand.tmp 20))) (l := (2 : Int)) (h := (IntKind.i64.wrap ((2 : Int) + t12.1))) (dd := some 21) (ty := 42) (pos := "ref.go:50") (af := #[{ on := 2, ground := Ground.data }]) (gd := Option.none) ha (by kernel_rfl) (by kernel_rfl) (x := (Operand.tmp 1)) rfl (arL_length _ _) rfl rfl f18 hx19 hx19' (by rw [arL_length]; exact hx19'')
  refine qv (v := .slice ao19 (((arL 8 a0).take (Int.toNat (IntKind.i64.wrap ((2 : Int) + t12.1)))).drop (Int.toNat (2 : Int))).length cap19) ha rfl rfl rfl (fun w' hs => hr19 w') fun a ha => ?_
  obtain ⟨t20, H20, H⟩ := bind_some H
  refine qc (.int .i64 t20) ha (by rfl) (by kernel_rfl) (by rfl) (by rfl) (by rfl) (fun w' hs => (vineryref01_Big.walk w' [] (MS.nil _) (((arL 8 a0).take (Int.toNat (IntKind.i64.wrap ((2 : Int) + t12.1)))).drop (Int.toNat (2 : Int))) ao19 cap19 (RSl.chg (M' := []) f19 hs (Ok.nil _ _) (Ok.nil _ _)) k _ H20).mono fun v w'' ⟨hv, hc, _⟩ => ⟨hv, hs.trans hc (Ok.nil _ _)⟩) fun a ha => ?_
  refine qp 0 (.int .i64 t12.1) ha rfl rfl rfl (by kernel_rfl) fun a ha => ?_
  refine qp 0 (.int .i64 (IntKind.i64.wrap ((2 : Int) + t12.1))) ha rfl rfl rfl (by kernel_rfl) fun a ha => ?_
  have f21 : RSl (rInt .u8) 5 w12 (M) (some ⟨g3, 0 + 0, none⟩) 8 (arL 8 a0) := RSl.ofA [] [] hE5 hn6 (by kernel_rfl) rfl
  obtain ⟨⟨hx22, hx22', hx22''⟩, H⟩ := ite_some H
  obtain ⟨ao22, cap22, f22, hr22⟩ := slA_run (kk := .u8) (T := 5) (N := 8) (g := g3) (o' := 0 + 0) (xs := (arL 8 a0)) (t := 23) (lo := (Option.some (Operand.tmp 24))) (hi := Option.none) (l := (IntKind.i64.wrap ((2 : Int) + t12.1))) (h := (8 : Int)) (dd := some 25) (ty := 42) (pos := "ref.go:50") (af := #[{ on := 6, ground := Ground.data }]) (gd := Option.none) ha (by kernel_rfl) (by kernel_rfl) (x := (Operand.tmp 1)) rfl (arL_length _ _) rfl rfl f21 hx22 hx22' (by rw [arL_length]; exact hx22'')
  refine qv (v := .slice ao22 (((arL 8 a0).take (Int.toNat (8 : Int))).drop (Int.toNat (IntKind.i64.wrap ((2 : Int) + t12.1)))).length cap22) ha rfl rfl rfl (fun w' hs => hr22 w') fun a ha => ?_
  obtain ⟨t23, H23, H⟩ := bind_some H
  refine qc (.int .i64 t23) ha (by rfl) (by kernel_rfl) (by rfl) (by rfl) (by rfl) (fun w' hs => (vineryref01_Big.walk w' [] (MS.nil _) (((arL 8 a0).take (Int.toNat (8 : Int))).drop (Int.toNat (IntKind.i64.wrap ((2 : Int) + t12.1)))) ao22 cap22 (RSl.chg (M' := []) f22 hs (Ok.nil _ _) (Ok.nil _ _)) k _ H23).mono fun v w'' ⟨hv, hc, _⟩ => ⟨hv, hs.trans hc (Ok.nil _ _)⟩) fun a ha => ?_
  refine qp 0 (.int .i64 t10) ha rfl rfl rfl (by kernel_rfl) fun a ha => ?_
  refine qp 0 (.int .i64 t20) ha rfl rfl rfl (by kernel_rfl) fun a ha => ?_
  refine qp 0 (.int .i64 t23) ha rfl rfl rfl (by kernel_rfl) fun a ha => ?_
  refine qp 0 (.bool true) ha rfl rfl rfl (by kernel_rfl) fun a ha => ?_
  refine wpQuiet_nil ?_
  intro w24 hc25
  have o1 : Ok [] (M) w12.heap.size := Ok.nil _ _
  have o2 : Ok (M) (M) w12.heap.size := (Ok.refl _ _)
  have f19 := f19.chg hc25 o1 o2
  have f22 := f22.chg hc25 o1 o2
  have q_hn6 : g3 ∉ M := fun h => (o2 g3 h).elim hn6 (fun h => absurd (lt_cell (hE5 0 _ rfl)) (Nat.not_lt.2 h))
  have hE5 : ∀ j v, (cA .u8 8 a0)[j]? = some v → w24.cell? ⟨g3, 0 + j, none⟩ = some v := fun j v hv => (cell_keep hc25 o1 hn6 (hE5 j v hv))
  have hn6 := q_hn6
  have hM : MS (M) w24 := (hM.chg hc25)
  have hC := hC.trans hc25 (Ok.nil _ _)
  refine wpl_end ?_
  refine hK17 _ _ ?_; try clear hK17 K17
  refine wp_ret ?_
  try simp only [Exit.then, Exit.inBlock]
  obtain rfl := Option.some.inj H
  refine rt4 ha rfl rfl rfl rfl rfl ?_
  exact ⟨rfl, hC, hM⟩
def bytes_Compare.f (a0 : List Int) (a1 : List Int) : Option (Int) := some ((Go.Lib.compareBytes (b2s a0) (b2s a1) : Int))
set_option maxRecDepth 100000 in
theorem bytes_Compare.walk (w : World) (M : List Nat) (hM : MS M w) (a0 : List Int) (ao1 : Option Addr) (cap1 : Nat) (f1 : RSl (rInt .u8) 5 w M ao1 cap1 a0) (a1 : List Int) (ao2 : Option Addr) (cap2 : Nat) (f2 : RSl (rInt .u8) 5 w M ao2 cap2 a1) (r : Int) (H : bytes_Compare.f a0 a1 = some r) :
    To Tryd.prog 43 [.slice ao1 a0.length cap1, .slice ao2 a1.length cap2] w fun v w' => v = .int .i64 r ∧ Chg [] w w' ∧ MS (M) w' := by
 unfold bytes_Compare.f at H
 refine ent Tryd.func43 rfl [(0, .slice ao1 a0.length cap1), (1, .slice ao2 a1.length cap2)] rfl (by rfl) fun a ha => ?_
 have hC : Chg [] w w := Chg.refl _ _
 refine wp_seq_k fun K3 hK3 => ?_
 refine wp_region_lit ?_
 refine seg ha 1 [(0, .slice ao1 a0.length cap1), (1, .slice ao2 a1.length cap2)] (by kernel_rfl) fun a ha => ?_
 refine hK3 _ _ ?_; try clear hK3 K3
 refine wp_seq_k fun K4 hK4 => ?_
 refine wp_region_lit ?_
 refine seg ha 2 [(5, .slice ao1 a0.length cap1), (6, .slice ao2 a1.length cap2)] (by kernel_rfl) fun a ha => ?_
 refine cx (fn := Tryd.f57) ha (vals := [.slice ao1 a0.length cap1, .slice ao2 a1.length cap2]) (by rfl) (by rfl) (by rfl) (by rfl) (by rfl) (by rfl) (by rfl) (by rfl) (by rfl) (run_bcmp f1 f2) fun a ha => ?_
 refine seg ha 1 [(4, .int .i64 (Go.Lib.compareBytes (b2s a0) (b2s a1)))] (by kernel_rfl) fun a ha => ?_
 refine hK4 _ _ ?_; try clear hK4 K4
 refine wp_ret ?_
 try simp only [Exit.then, Exit.inBlock]
 obtain rfl := Option.some.inj H
 refine rt1 ha rfl rfl ?_
 exact ⟨rfl, hC, hM⟩
def cursor_Order.f (a0 : List Int) (a1 : List Int) : Option (Int) := (bytes_Compare.f a0 a1).bind fun t5 => some ((t5 : Int))
set_option maxRecDepth 100000 in
theorem cursor_Order.walk (w : World) (M : List Nat) (hM : MS M w) (a0 : List Int) (ao1 : Option Addr) (cap1 : Nat) (f1 : RSl (rInt .u8) 5 w M ao1 cap1 a0) (a1 : List Int) (ao2 : Option Addr) (cap2 : Nat) (f2 : RSl (rInt .u8) 5 w M ao2 cap2 a1) (r : Int) (H : cursor_Order.f a0 a1 = some r) :
    To Tryd.prog 31 [.slice ao1 a0.length cap1, .slice ao2 a1.length cap2] w fun v w' => v = .int .i64 r ∧ Chg [] w w' ∧ MS (M) w' := by
 unfold cursor_Order.f at H
 refine ent Tryd.func31 rfl [(0, .slice ao1 a0.length cap1), (1, .slice ao2 a1.length cap2)] rfl (by rfl) fun a ha => ?_
 have hC : Chg [] w w := Chg.refl _ _
 refine wp_seq_k fun K3 hK3 => ?_
 refine wp_region_lit ?_
 refine seg ha 1 [(0, .slice ao1 a0.length cap1), (1, .slice ao2 a1.length cap2)] (by kernel_rfl) fun a ha => ?_
 refine hK3 _ _ ?_; try clear hK3 K3
 refine wp_seq_k fun K4 hK4 => ?_
 refine wp_region_lit ?_
 refine seg ha 2 [(5, .slice ao1 a0.length cap1), (6, .slice ao2 a1.length cap2)] (by kernel_rfl) fun a ha => ?_
 obtain ⟨t5, H5, H⟩ := bind_some H
 refine cl ha (by rfl) (by kernel_rfl) (by rfl) (by rfl) (by rfl) (bytes_Compare.walk w _ hM a0 ao1 cap1 f1 a1 ao2 cap2 f2 _ H5) ?_
 rintro _ w5 ⟨rfl, hc5, hMn⟩ a ha
 have o1 : Ok [] (M) w.heap.size := Ok.nil _ _
 have o2 : Ok (M) (M) w.heap.size := (Ok.refl _ _)
 have f1 := f1.chg hc5 o1 o2
 have f2 := f2.chg hc5 o1 o2
 have hM : MS (M) w5 := (hM.chg hc5)
 have hC := hC.trans hc5 (Ok.nil _ _)
 refine seg ha 1 [(4, .int .i64 t5)] (by kernel_rfl) fun a ha => ?_
 refine hK4 _ _ ?_; try clear hK4 K4
 refine wp_ret ?_
 try simp only [Exit.then, Exit.inBlock]
 obtain rfl := Option.some.inj H
 refine rt1 ha rfl rfl ?_
 exact ⟨rfl, hC, hM⟩
def rd_Compare.f (a0 : List Int) (a1 : List Int) : Option (Int) := (if (eqA 8 a0 a1) = true then some (((0 : Int) : Int)) else (cursor_Order.f (arL 8 a0) (arL 8 a1)).bind fun t19 => some ((t19 : Int)))
set_option maxRecDepth 100000 in
theorem rd_Compare.walk (w : World) (M : List Nat) (hM : MS M w) (a0 : List Int) (a1 : List Int) (r : Int) (H : rd_Compare.f a0 a1 = some r) :
    To Tryd.prog 14 [.agg (cA .u8 8 a0).toArray, .agg (cA .u8 8 a1).toArray] w fun v w' => v = .int .i64 r ∧ Chg [] w w' ∧ MS (M) w' := by
 unfold rd_Compare.f at H
 refine ent Tryd.func14 rfl [(0, .agg (cA .u8 8 a0).toArray), (1, .agg (cA .u8 8 a1).toArray)] rfl (by rfl) fun a ha => ?_
 have hC : Chg [] w w := Chg.refl _ _
 refine wp_seq_k fun K1 hK1 => ?_
 refine wp_region_lit ?_
 refine bx (cs := (cA .u8 8 a0)) ha rfl rfl rfl rfl rfl fun a w2 g3 hN4 ha => ?_
 have hn6 := hN4.notin hM
 have hM : MS (M) w2 := (hM.chg hN4.chg)
 have hC := hC.trans hN4.chg (Ok.nil _ _)
 have hE5 : ∀ j v, (cA .u8 8 a0)[j]? = some v → w2.cell? ⟨g3, 0 + j, none⟩ = some v := Box.cells (New.box hN4)
 refine bx (cs := (cA .u8 8 a1)) ha rfl rfl rfl rfl rfl fun a w7 g8 hN9 ha => ?_
 have hn11 := hN9.notin hM
 have o1 : Ok [] (M) w2.heap.size := Ok.nil _ _
 have o2 : Ok (M) (M) w2.heap.size := (Ok.refl _ _)
 have q_hn6 : g3 ∉ M := fun h => (o2 g3 h).elim hn6 (fun h => absurd (lt_cell (hE5 0 _ rfl)) (Nat.not_lt.2 h))
 have hE5 : ∀ j v, (cA .u8 8 a0)[j]? = some v → w7.cell? ⟨g3, 0 + j, none⟩ = some v := fun j v hv => (cell_keep hN9.chg o1 hn6 (hE5 j v hv))
 have hn6 := q_hn6
 have hM : MS (M) w7 := (hM.chg hN9.chg)
 have hC := hC.trans hN9.chg (Ok.nil _ _)
 have hE10 : ∀ j v, (cA .u8 8 a1)[j]? = some v → w7.cell? ⟨g8, 0 + j, none⟩ = some v := Box.cells (New.box hN9)
 refine seg ha 1 [(2, .pointer (some ⟨g3, 0, none⟩)), (3, .pointer (some ⟨g8, 0, none⟩))] (by kernel_rfl) fun a ha => ?_
 refine hK1 _ _ ?_; try clear hK1 K1
 refine wp_seq_k fun K12 hK12 => ?_
 refine wp_seq_k fun K13 hK13 => ?_
 refine wp_region_lit ?_
 refine ldA (cs := (cA .u8 8 a0)) ha rfl (by kernel_rfl) rfl rfl rfl (cells_sub hE5 (all := (cA .u8 8 a0)) [] [] (by kernel_rfl)) fun a ha => ?_
 refine ldA (cs := (cA .u8 8 a1)) ha rfl (by kernel_rfl) rfl rfl rfl (cells_sub hE10 (all := (cA .u8 8 a1)) [] [] (by kernel_rfl)) fun a ha => ?_
 refine hop (v := .bool (eqA 8 a0 a1)) (w' := w7) ha rfl rfl rfl (eqs_run (r := (eqA 8 a0 a1)) (m := 9) ha rfl rfl (by kernel_rfl) rfl (by kernel_rfl) _) fun a ha => ?_
 refine hK13 _ _ ?_; try clear hK13 K13
 refine cnd ha rfl (fun hc14 => ?_) (fun hc14 => ?_)
 ·have H := ite_t hc14 H
  refine wp_seq_k fun K15 hK15 => ?_
  refine wp_region_lit ?_
  refine seg ha 1 [(4, .int .i64 (0 : Int))] (by kernel_rfl) fun a ha => ?_
  refine hK15 _ _ ?_; try clear hK15 K15
  refine wp_ret ?_
  try simp only [Exit.then, Exit.inBlock]
  obtain rfl := Option.some.inj H
  refine rt1 ha rfl rfl ?_
  exact ⟨rfl, hC, hM⟩
 ·have H := ite_f hc14 H
  refine wp_skip ?_
  refine hK12 _ _ ?_; try clear hK12 K12
  refine wp_seq_k fun K16 hK16 => ?_
  refine drq0 (fun w' => Chg [] w7 w') (by kernel_rfl) (by kernel_rfl) (fun _ h => h) ?_
  have f17 : RSl (rInt .u8) 5 w7 (M) (some ⟨g3, 0 + 0, none⟩) 8 (arL 8 a0) := RSl.ofA [] [] hE5 hn6 (by kernel_rfl) rfl
  refine qv (v := .slice (some ⟨g3, 0 + 0, none⟩) (arL 8 a0).length 8) ha rfl rfl rfl (fun w' hs => opk_run ha rfl rfl (fun w => by kernel_rfl)) fun a ha => ?_
  have f18 : RSl (rInt .u8) 5 w7 (M) (some ⟨g8, 0 + 0, none⟩) 8 (arL 8 a1) := RSl.ofA [] [] hE10 hn11 (by kernel_rfl) rfl
  refine qv (v := .slice (some ⟨g8, 0 + 0, none⟩) (arL 8 a1).length 8) ha rfl rfl rfl (fun w' hs => opk_run ha rfl rfl (fun w => by kernel_rfl)) fun a ha => ?_
  obtain ⟨t19, H19, H⟩ := bind_some H
  refine qc (.int .i64 t19) ha (by rfl) (by kernel_rfl) (by rfl) (by rfl) (by rfl) (fun w' hs => (cursor_Order.walk w' [] (MS.nil _) (arL 8 a0) (some ⟨g3, 0 + 0, none⟩) 8 (RSl.chg (M' := []) f17 hs (Ok.nil _ _) (Ok.nil _ _)) (arL 8 a1) (some ⟨g8, 0 + 0, none⟩) 8 (RSl.chg (M' := []) f18 hs (Ok.nil _ _) (Ok.nil _ _)) _ H19).mono fun v w'' ⟨hv, hc, _⟩ => ⟨hv, hs.trans hc (Ok.nil _ _)⟩) fun a ha => ?_
  refine qp 0 (.int .i64 t19) ha rfl rfl rfl (by kernel_rfl) fun a ha => ?_
  refine wpQuiet_nil ?_
  intro w20 hc21
  have o1 : Ok [] (M) w7.heap.size := Ok.nil _ _
  have o2 : Ok (M) (M) w7.heap.size := (Ok.refl _ _)
  have f17 := f17.chg hc21 o1 o2
  have f18 := f18.chg hc21 o1 o2
  have q_hn6 : g3 ∉ M := fun h => (o2 g3 h).elim hn6 (fun h => absurd (lt_cell (hE5 0 _ rfl)) (Nat.not_lt.2 h))
  have hE5 : ∀ j v, (cA .u8 8 a0)[j]? = some v → w20.cell? ⟨g3, 0 + j, none⟩ = some v := fun j v hv => (cell_keep hc21 o1 hn6 (hE5 j v hv))
  have hn6 := q_hn6
  have q_hn11 : g8 ∉ M := fun h => (o2 g8 h).elim hn11 (fun h => absurd (lt_cell (hE10 0 _ rfl)) (Nat.not_lt.2 h))
  have hE10 : ∀ j v, (cA .u8 8 a1)[j]? = some v → w20.cell? ⟨g8, 0 + j, none⟩ = some v := fun j v hv => (cell_keep hc21 o1 hn11 (hE10 j v hv))
  have hn11 := q_hn11
  have hM : MS (M) w20 := (hM.chg hc21)
  have hC := hC.trans hc21 (Ok.nil _ _)
  refine wpl_end ?_
  refine hK16 _ _ ?_; try clear hK16 K16
  refine wp_ret ?_
  try simp only [Exit.then, Exit.inBlock]
  obtain rfl := Option.some.inj H
  refine rt1 ha rfl rfl ?_
  exact ⟨rfl, hC, hM⟩
def vineryref01_Order.l0 (a0 : List Int) (a1 : List Int) : Nat → Int → Option ((Int) ⊕ (Unit))
  | 0, _ => none
  | kk + 1, x7 => (if (if (decide (x7 < (a0.length : Int))) = true then (decide (x7 < (a1.length : Int))) else false) = true then (if 0 ≤ x7 ∧ x7 < (a0.length : Int) then (if 0 ≤ x7 ∧ x7 < (a1.length : Int) then (if (decide ((rd a0 x7) < (rd a1 x7))) = true then some (.inl (((-1 : Int) : Int))) else (if 0 ≤ x7 ∧ x7 < (a0.length : Int) then (if 0 ≤ x7 ∧ x7 < (a1.length : Int) then (if (decide ((rd a0 x7) > (rd a1 x7))) = true then some (.inl (((1 : Int) : Int))) else vineryref01_Order.l0 a0 a1 kk (IntKind.i64.wrap (x7 + (1 : Int)))) else none) else none)) else none) else none) else some (.inr (() : Unit)))
def vineryref01_Order.f (k : Nat) (a0 : List Int) (a1 : List Int) : Option (Int) := (vineryref01_Order.l0 a0 a1 k (0 : Int)).bind fun s6 => match s6 with | .inl r => some r | .inr s6' => (if (decide ((a0.length : Int) < (a1.length : Int))) = true then some (((-1 : Int) : Int)) else (if (decide ((a0.length : Int) > (a1.length : Int))) = true then some (((1 : Int) : Int)) else some (((0 : Int) : Int))))
set_option maxRecDepth 100000 in
theorem vineryref01_Order.walk (w : World) (M : List Nat) (hM : MS M w) (a0 : List Int) (ao1 : Option Addr) (cap1 : Nat) (f1 : RSl (rInt .u8) 5 w M ao1 cap1 a0) (a1 : List Int) (ao2 : Option Addr) (cap2 : Nat) (f2 : RSl (rInt .u8) 5 w M ao2 cap2 a1) (k : Nat) (r : Int) (H : vineryref01_Order.f k a0 a1 = some r) :
    To Tryd.prog 32 [.slice ao1 a0.length cap1, .slice ao2 a1.length cap2] w fun v w' => v = .int .i64 r ∧ Chg [] w w' ∧ MS (M) w' := by
 unfold vineryref01_Order.f at H
 refine ent Tryd.func32 rfl [(0, .slice ao1 a0.length cap1), (1, .slice ao2 a1.length cap2)] rfl (by rfl) fun a ha => ?_
 have hC : Chg [] w w := Chg.refl _ _
 refine wp_seq_k fun K3 hK3 => ?_
 refine wp_region_lit ?_
 refine seg ha 1 [(0, .slice ao1 a0.length cap1), (1, .slice ao2 a1.length cap2)] (by kernel_rfl) fun a ha => ?_
 refine hK3 _ _ ?_; try clear hK3 K3
 refine wp_seq_k fun K4 hK4 => ?_
 refine wp_seq_k fun K5 hK5 => ?_
 refine wp_region_lit ?_
 refine seg ha 1 [(0, .slice ao1 a0.length cap1), (1, .slice ao2 a1.length cap2), (5, .int .i64 (0 : Int))] (by kernel_rfl) fun a ha => ?_
 refine hK5 _ _ ?_; try clear hK5 K5
 refine wp_block ?_
 obtain ⟨s6, H6, H⟩ := bind_some H
 have J6 : ∀ s6' (a : Act) (wx6 : World), s6 = .inr s6' → Has a Tryd.f32.ntmps [(0, .slice ao1 a0.length cap1), (1, .slice ao2 a1.length cap2)] → (RSl (rInt .u8) 5 wx6 (M) ao1 cap1 a0) → (RSl (rInt .u8) 5 wx6 (M) ao2 cap2 a1) → (Chg [] w wx6) → (MS (M) wx6) → K4 a wx6 := by
  intro s6' a wx6 hs ha f1 f2 hC hM
  subst hs
  refine hK4 _ _ ?_; try clear hK4 K4
  refine wp_seq_k fun K8 hK8 => ?_
  refine wp_seq_k fun K9 hK9 => ?_
  refine wp_region_lit ?_
  refine seg ha 5 [(0, .slice ao1 a0.length cap1), (1, .slice ao2 a1.length cap2), (40, .bool (decide ((a0.length : Int) < (a1.length : Int))))] (by kernel_rfl) fun a ha => ?_
  refine hK9 _ _ ?_; try clear hK9 K9
  refine cnd ha rfl (fun hc10 => ?_) (fun hc10 => ?_)
  ·have H := ite_t hc10 H
   refine wp_seq_k fun K11 hK11 => ?_
   refine wp_region_lit ?_
   refine seg ha 1 [(4, .int .i64 (-1 : Int))] (by kernel_rfl) fun a ha => ?_
   refine hK11 _ _ ?_; try clear hK11 K11
   refine wp_ret ?_
   try simp only [Exit.then, Exit.inBlock]
   obtain rfl := Option.some.inj H
   refine rt1 ha rfl rfl ?_
   exact ⟨rfl, hC, hM⟩
  ·have H := ite_f hc10 H
   refine wp_skip ?_
   refine hK8 _ _ ?_; try clear hK8 K8
   refine wp_seq_k fun K12 hK12 => ?_
   refine wp_seq_k fun K13 hK13 => ?_
   refine wp_region_lit ?_
   refine seg ha 5 [(45, .bool (decide ((a0.length : Int) > (a1.length : Int))))] (by kernel_rfl) fun a ha => ?_
   refine hK13 _ _ ?_; try clear hK13 K13
   refine cnd ha rfl (fun hc14 => ?_) (fun hc14 => ?_)
   ·have H := ite_t hc14 H
    refine wp_seq_k fun K15 hK15 => ?_
    refine wp_region_lit ?_
    refine seg ha 1 [(4, .int .i64 (1 : Int))] (by kernel_rfl) fun a ha => ?_
    refine hK15 _ _ ?_; try clear hK15 K15
    refine wp_ret ?_
    try simp only [Exit.then, Exit.inBlock]
    obtain rfl := Option.some.inj H
    refine rt1 ha rfl rfl ?_
    exact ⟨rfl, hC, hM⟩
   ·have H := ite_f hc14 H
    refine wp_skip ?_
    refine hK12 _ _ ?_; try clear hK12 K12
    refine wp_seq_k fun K16 hK16 => ?_
    refine wp_region_lit ?_
    refine seg ha 1 [(4, .int .i64 (0 : Int))] (by kernel_rfl) fun a ha => ?_
    refine hK16 _ _ ?_; try clear hK16 K16
    refine wp_ret ?_
    try simp only [Exit.then, Exit.inBlock]
    obtain rfl := Option.some.inj H
    refine rt1 ha rfl rfl ?_
    exact ⟨rfl, hC, hM⟩
 have Hc6 := H
 have H := H6
 refine wp_loop_ghost (fun kk a w6 => ∃ (x7 : Int), vineryref01_Order.l0 a0 a1 kk x7 = some s6 ∧ Has a Tryd.f32.ntmps [(0, .slice ao1 a0.length cap1), (1, .slice ao2 a1.length cap2), (5, .int .i64 x7)] ∧ (RSl (rInt .u8) 5 w6 (M) ao1 cap1 a0) ∧ (RSl (rInt .u8) 5 w6 (M) ao2 cap2 a1) ∧ (Chg [] w w6) ∧ (MS (M) w6)) k ?_ ?_
 ·skip
  exact ⟨(0 : Int), H, (ha.sel (by kernel_rfl)), f1, f2, hC, hM⟩
 ·rintro kk a w6 ⟨x7, H, ha, f1, f2, hC, hM⟩
  obtain _ | kk := kk
  ·exact nomatch (show none = some _ from H)
  rw [vineryref01_Order.l0] at H
  refine wp_seq_k fun K17 hK17 => ?_
  refine wp_seq_k fun K18 hK18 => ?_
  refine wp_region_lit ?_
  refine seg ha 10 [(0, .slice ao1 a0.length cap1), (1, .slice ao2 a1.length cap2), (5, .int .i64 x7), (15, .bool (if (decide (x7 < (a0.length : Int))) = true then (decide (x7 < (a1.length : Int))) else false))] (by kernel_rfl) fun a ha => ?_
  refine hK18 _ _ ?_; try clear hK18 K18
  refine cnd ha rfl (fun hc19 => ?_) (fun hc19 => ?_)
  ·have H := ite_t hc19 H
   refine wp_skip ?_
   refine hK17 _ _ ?_; try clear hK17 K17
   refine wp_seq_k fun K20 hK20 => ?_
   refine wp_block ?_
   refine wp_seq_k fun K21 hK21 => ?_
   refine wp_seq_k fun K22 hK22 => ?_
   refine drq0 (fun w' => Chg [] w6 w') (by kernel_rfl) (by kernel_rfl) (fun _ h => h) ?_
   refine qp 0 (.slice ao1 a0.length cap1) ha rfl rfl rfl (by kernel_rfl) fun a ha => ?_
   refine qp 0 (.int .i64 x7) ha rfl rfl rfl (by kernel_rfl) fun a ha => ?_
   obtain ⟨⟨hx23, hx23'⟩, H⟩ := ite_some H
   obtain ⟨ge24, oe250, cs26, hx23eq, hn29, hR27, hE28⟩ := RSl.elem f1 (Int.toNat x7) (by omega)
   rw [rd_get] at hR27
   obtain rfl := hR27
   have hE28 : ∀ j v, ([.int .u8 (rd a0 x7)] : List Value)[j]? = some v → w6.cell? ⟨ge24, (oe250 + (Int.toNat x7) * (rInt .u8).sz) + j, none⟩ = some v := hE28
   refine qv (v := .pointer (some ⟨ge24, (oe250 + (Int.toNat x7) * (rInt .u8).sz), none⟩)) ha rfl rfl rfl (fun w' hs => ix_run (r := (rInt .u8)) (T := 5) ha (by kernel_rfl) (by kernel_rfl) (by rfl) (by rfl) hx23eq hx23 hx23') fun a ha => ?_
   refine qv (v := .int .u8 (rd a0 x7)) ha rfl rfl rfl (fun w' hs => ld_run ha rfl (by kernel_rfl) (hs.keep (hE28 0 (.int .u8 (rd a0 x7)) (by kernel_rfl)))) fun a ha => ?_
   refine qp 0 (.slice ao2 a1.length cap2) ha rfl rfl rfl (by kernel_rfl) fun a ha => ?_
   refine qp 0 (.int .i64 x7) ha rfl rfl rfl (by kernel_rfl) fun a ha => ?_
   obtain ⟨⟨hx30, hx30'⟩, H⟩ := ite_some H
   obtain ⟨ge31, oe320, cs33, hx30eq, hn36, hR34, hE35⟩ := RSl.elem f2 (Int.toNat x7) (by omega)
   rw [rd_get] at hR34
   obtain rfl := hR34
   have hE35 : ∀ j v, ([.int .u8 (rd a1 x7)] : List Value)[j]? = some v → w6.cell? ⟨ge31, (oe320 + (Int.toNat x7) * (rInt .u8).sz) + j, none⟩ = some v := hE35
   refine qv (v := .pointer (some ⟨ge31, (oe320 + (Int.toNat x7) * (rInt .u8).sz), none⟩)) ha rfl rfl rfl (fun w' hs => ix_run (r := (rInt .u8)) (T := 5) ha (by kernel_rfl) (by kernel_rfl) (by rfl) (by rfl) hx30eq hx30 hx30') fun a ha => ?_
   refine qv (v := .int .u8 (rd a1 x7)) ha rfl rfl rfl (fun w' hs => ld_run ha rfl (by kernel_rfl) (hs.keep (hE35 0 (.int .u8 (rd a1 x7)) (by kernel_rfl)))) fun a ha => ?_
   refine qp 0 (.bool (decide ((rd a0 x7) < (rd a1 x7)))) ha rfl rfl rfl (by kernel_rfl) fun a ha => ?_
   refine wpQuiet_nil ?_
   intro w37 hc38
   have o1 : Ok [] (M) w6.heap.size := Ok.nil _ _
   have o2 : Ok (M) (M) w6.heap.size := (Ok.refl _ _)
   have f1 := f1.chg hc38 o1 o2
   have f2 := f2.chg hc38 o1 o2
   have q_hn29 : ge24 ∉ M := fun h => (o2 ge24 h).elim hn29 (fun h => absurd (lt_cell (hE28 0 _ rfl)) (Nat.not_lt.2 h))
   have hE28 : ∀ j v, ([.int .u8 (rd a0 x7)] : List Value)[j]? = some v → w37.cell? ⟨ge24, (oe250 + (Int.toNat x7) * (rInt .u8).sz) + j, none⟩ = some v := fun j v hv => (cell_keep hc38 o1 hn29 (hE28 j v hv))
   have hn29 := q_hn29
   have q_hn36 : ge31 ∉ M := fun h => (o2 ge31 h).elim hn36 (fun h => absurd (lt_cell (hE35 0 _ rfl)) (Nat.not_lt.2 h))
   have hE35 : ∀ j v, ([.int .u8 (rd a1 x7)] : List Value)[j]? = some v → w37.cell? ⟨ge31, (oe320 + (Int.toNat x7) * (rInt .u8).sz) + j, none⟩ = some v := fun j v hv => (cell_keep hc38 o1 hn36 (hE35 j v hv))
   have hn36 := q_hn36
   have hM : MS (M) w37 := (hM.chg hc38)
   have hC := hC.trans hc38 (Ok.nil _ _)
   refine wpl_end ?_
   refine hK22 _ _ ?_; try clear hK22 K22
   refine cnd ha rfl (fun hc39 => ?_) (fun hc39 => ?_)
   ·have H := ite_t hc39 H
    refine wp_seq_k fun K40 hK40 => ?_
    refine wp_region_lit ?_
    refine seg ha 1 [(4, .int .i64 (-1 : Int))] (by kernel_rfl) fun a ha => ?_
    refine hK40 _ _ ?_; try clear hK40 K40
    refine wp_ret ?_
    try simp only [Exit.then, Exit.inBlock]
    obtain rfl := Option.some.inj H
    have H := (show some _ = some _ from Hc6)
    obtain rfl := Option.some.inj H
    refine rt1 ha rfl rfl ?_
    exact ⟨rfl, hC, hM⟩
   ·have H := ite_f hc39 H
    refine wp_skip ?_
    refine hK21 _ _ ?_; try clear hK21 K21
    refine wp_seq_k fun K41 hK41 => ?_
    refine drq0 (fun w' => Chg [] w37 w') (by kernel_rfl) (by kernel_rfl) (fun _ h => h) ?_
    refine qp 0 (.slice ao1 a0.length cap1) ha rfl rfl rfl (by kernel_rfl) fun a ha => ?_
    refine qp 0 (.int .i64 x7) ha rfl rfl rfl (by kernel_rfl) fun a ha => ?_
    obtain ⟨⟨hx42, hx42'⟩, H⟩ := ite_some H
    obtain ⟨ge43, oe440, cs45, hx42eq, hn48, hR46, hE47⟩ := RSl.elem f1 (Int.toNat x7) (by omega)
    rw [rd_get] at hR46
    obtain rfl := hR46
    have hE47 : ∀ j v, ([.int .u8 (rd a0 x7)] : List Value)[j]? = some v → w37.cell? ⟨ge43, (oe440 + (Int.toNat x7) * (rInt .u8).sz) + j, none⟩ = some v := hE47
    refine qv (v := .pointer (some ⟨ge43, (oe440 + (Int.toNat x7) * (rInt .u8).sz), none⟩)) ha rfl rfl rfl (fun w' hs => ix_run (r := (rInt .u8)) (T := 5) ha (by kernel_rfl) (by kernel_rfl) (by rfl) (by rfl) hx42eq hx42 hx42') fun a ha => ?_
    refine qv (v := .int .u8 (rd a0 x7)) ha rfl rfl rfl (fun w' hs => ld_run ha rfl (by kernel_rfl) (hs.keep (hE47 0 (.int .u8 (rd a0 x7)) (by kernel_rfl)))) fun a ha => ?_
    refine qp 0 (.slice ao2 a1.length cap2) ha rfl rfl rfl (by kernel_rfl) fun a ha => ?_
    refine qp 0 (.int .i64 x7) ha rfl rfl rfl (by kernel_rfl) fun a ha => ?_
    obtain ⟨⟨hx49, hx49'⟩, H⟩ := ite_some H
    obtain ⟨ge50, oe510, cs52, hx49eq, hn55, hR53, hE54⟩ := RSl.elem f2 (Int.toNat x7) (by omega)
    rw [rd_get] at hR53
    obtain rfl := hR53
    have hE54 : ∀ j v, ([.int .u8 (rd a1 x7)] : List Value)[j]? = some v → w37.cell? ⟨ge50, (oe510 + (Int.toNat x7) * (rInt .u8).sz) + j, none⟩ = some v := hE54
    refine qv (v := .pointer (some ⟨ge50, (oe510 + (Int.toNat x7) * (rInt .u8).sz), none⟩)) ha rfl rfl rfl (fun w' hs => ix_run (r := (rInt .u8)) (T := 5) ha (by kernel_rfl) (by kernel_rfl) (by rfl) (by rfl) hx49eq hx49 hx49') fun a ha => ?_
    refine qv (v := .int .u8 (rd a1 x7)) ha rfl rfl rfl (fun w' hs => ld_run ha rfl (by kernel_rfl) (hs.keep (hE54 0 (.int .u8 (rd a1 x7)) (by kernel_rfl)))) fun a ha => ?_
    refine qp 0 (.bool (decide ((rd a0 x7) > (rd a1 x7)))) ha rfl rfl rfl (by kernel_rfl) fun a ha => ?_
    refine wpQuiet_nil ?_
    intro w56 hc57
    have o1 : Ok [] (M) w37.heap.size := Ok.nil _ _
    have o2 : Ok (M) (M) w37.heap.size := (Ok.refl _ _)
    have f1 := f1.chg hc57 o1 o2
    have f2 := f2.chg hc57 o1 o2
    have q_hn48 : ge43 ∉ M := fun h => (o2 ge43 h).elim hn48 (fun h => absurd (lt_cell (hE47 0 _ rfl)) (Nat.not_lt.2 h))
    have hE47 : ∀ j v, ([.int .u8 (rd a0 x7)] : List Value)[j]? = some v → w56.cell? ⟨ge43, (oe440 + (Int.toNat x7) * (rInt .u8).sz) + j, none⟩ = some v := fun j v hv => (cell_keep hc57 o1 hn48 (hE47 j v hv))
    have hn48 := q_hn48
    have q_hn55 : ge50 ∉ M := fun h => (o2 ge50 h).elim hn55 (fun h => absurd (lt_cell (hE54 0 _ rfl)) (Nat.not_lt.2 h))
    have hE54 : ∀ j v, ([.int .u8 (rd a1 x7)] : List Value)[j]? = some v → w56.cell? ⟨ge50, (oe510 + (Int.toNat x7) * (rInt .u8).sz) + j, none⟩ = some v := fun j v hv => (cell_keep hc57 o1 hn55 (hE54 j v hv))
    have hn55 := q_hn55
    have hM : MS (M) w56 := (hM.chg hc57)
    have hC := hC.trans hc57 (Ok.nil _ _)
    refine wpl_end ?_
    refine hK41 _ _ ?_; try clear hK41 K41
    refine cnd ha rfl (fun hc58 => ?_) (fun hc58 => ?_)
    ·have H := ite_t hc58 H
     refine wp_seq_k fun K59 hK59 => ?_
     refine wp_region_lit ?_
     refine seg ha 1 [(4, .int .i64 (1 : Int))] (by kernel_rfl) fun a ha => ?_
     refine hK59 _ _ ?_; try clear hK59 K59
     refine wp_ret ?_
     try simp only [Exit.then, Exit.inBlock]
     obtain rfl := Option.some.inj H
     have H := (show some _ = some _ from Hc6)
     obtain rfl := Option.some.inj H
     refine rt1 ha rfl rfl ?_
     exact ⟨rfl, hC, hM⟩
    ·have H := ite_f hc58 H
     refine wp_skip ?_
     refine hK20 _ _ ?_; try clear hK20 K20
     refine wp_region_lit ?_
     refine seg ha 3 [(0, .slice ao1 a0.length cap1), (1, .slice ao2 a1.length cap2), (5, .int .i64 (IntKind.i64.wrap (x7 + (1 : Int))))] (by kernel_rfl) fun a ha => ?_
     exact ⟨kk, Nat.lt_succ_self _, ⟨IntKind.i64.wrap (x7 + (1 : Int)), H, (ha.sel (by kernel_rfl)), f1, f2, hC, hM⟩⟩
  ·have H := ite_f hc19 H
   refine wp_exit ?_
   simp only [Exit.then, Exit.inBlock, ↓reduceIte, Nat.reduceEqDiff]
   obtain rfl := Option.some.inj H
   exact J6 _ _ _ rfl (ha.sel (by kernel_rfl)) f1 f2 hC hM
def vineryref03_Compare.f (k : Nat) (a0 : List Int) (a1 : List Int) : Option (Int) := (vineryref01_Order.f k (arL 8 a0) (arL 8 a1)).bind fun t15 => some ((t15 : Int))
set_option maxRecDepth 100000 in
theorem vineryref03_Compare.walk (w : World) (M : List Nat) (hM : MS M w) (a0 : List Int) (a1 : List Int) (k : Nat) (r : Int) (H : vineryref03_Compare.f k a0 a1 = some r) :
    To Tryd.prog 15 [.agg (cA .u8 8 a0).toArray, .agg (cA .u8 8 a1).toArray] w fun v w' => v = .int .i64 r ∧ Chg [] w w' ∧ MS (M) w' := by
 unfold vineryref03_Compare.f at H
 refine ent Tryd.func15 rfl [(0, .agg (cA .u8 8 a0).toArray), (1, .agg (cA .u8 8 a1).toArray)] rfl (by rfl) fun a ha => ?_
 have hC : Chg [] w w := Chg.refl _ _
 refine wp_seq_k fun K1 hK1 => ?_
 refine wp_region_lit ?_
 refine bx (cs := (cA .u8 8 a0)) ha rfl rfl rfl rfl rfl fun a w2 g3 hN4 ha => ?_
 have hn6 := hN4.notin hM
 have hM : MS (M) w2 := (hM.chg hN4.chg)
 have hC := hC.trans hN4.chg (Ok.nil _ _)
 have hE5 : ∀ j v, (cA .u8 8 a0)[j]? = some v → w2.cell? ⟨g3, 0 + j, none⟩ = some v := Box.cells (New.box hN4)
 refine bx (cs := (cA .u8 8 a1)) ha rfl rfl rfl rfl rfl fun a w7 g8 hN9 ha => ?_
 have hn11 := hN9.notin hM
 have o1 : Ok [] (M) w2.heap.size := Ok.nil _ _
 have o2 : Ok (M) (M) w2.heap.size := (Ok.refl _ _)
 have q_hn6 : g3 ∉ M := fun h => (o2 g3 h).elim hn6 (fun h => absurd (lt_cell (hE5 0 _ rfl)) (Nat.not_lt.2 h))
 have hE5 : ∀ j v, (cA .u8 8 a0)[j]? = some v → w7.cell? ⟨g3, 0 + j, none⟩ = some v := fun j v hv => (cell_keep hN9.chg o1 hn6 (hE5 j v hv))
 have hn6 := q_hn6
 have hM : MS (M) w7 := (hM.chg hN9.chg)
 have hC := hC.trans hN9.chg (Ok.nil _ _)
 have hE10 : ∀ j v, (cA .u8 8 a1)[j]? = some v → w7.cell? ⟨g8, 0 + j, none⟩ = some v := Box.cells (New.box hN9)
 refine seg ha 1 [(2, .pointer (some ⟨g3, 0, none⟩)), (3, .pointer (some ⟨g8, 0, none⟩))] (by kernel_rfl) fun a ha => ?_
 refine hK1 _ _ ?_; try clear hK1 K1
 refine wp_seq_k fun K12 hK12 => ?_
 refine drq0 (fun w' => Chg [] w7 w') (by kernel_rfl) (by kernel_rfl) (fun _ h => h) ?_
 have f13 : RSl (rInt .u8) 5 w7 (M) (some ⟨g3, 0 + 0, none⟩) 8 (arL 8 a0) := RSl.ofA [] [] hE5 hn6 (by kernel_rfl) rfl
 refine qv (v := .slice (some ⟨g3, 0 + 0, none⟩) (arL 8 a0).length 8) ha rfl rfl rfl (fun w' hs => opk_run ha rfl rfl (fun w => by kernel_rfl)) fun a ha => ?_
 have f14 : RSl (rInt .u8) 5 w7 (M) (some ⟨g8, 0 + 0, none⟩) 8 (arL 8 a1) := RSl.ofA [] [] hE10 hn11 (by kernel_rfl) rfl
 refine qv (v := .slice (some ⟨g8, 0 + 0, none⟩) (arL 8 a1).length 8) ha rfl rfl rfl (fun w' hs => opk_run ha rfl rfl (fun w => by kernel_rfl)) fun a ha => ?_
 obtain ⟨t15, H15, H⟩ := bind_some H
 refine qc (.int .i64 t15) ha (by rfl) (by kernel_rfl) (by rfl) (by rfl) (by rfl) (fun w' hs => (vineryref01_Order.walk w' [] (MS.nil _) (arL 8 a0) (some ⟨g3, 0 + 0, none⟩) 8 (RSl.chg (M' := []) f13 hs (Ok.nil _ _) (Ok.nil _ _)) (arL 8 a1) (some ⟨g8, 0 + 0, none⟩) 8 (RSl.chg (M' := []) f14 hs (Ok.nil _ _) (Ok.nil _ _)) k _ H15).mono fun v w'' ⟨hv, hc, _⟩ => ⟨hv, hs.trans hc (Ok.nil _ _)⟩) fun a ha => ?_
 refine qp 0 (.int .i64 t15) ha rfl rfl rfl (by kernel_rfl) fun a ha => ?_
 refine wpQuiet_nil ?_
 intro w16 hc17
 have o1 : Ok [] (M) w7.heap.size := Ok.nil _ _
 have o2 : Ok (M) (M) w7.heap.size := (Ok.refl _ _)
 have f13 := f13.chg hc17 o1 o2
 have f14 := f14.chg hc17 o1 o2
 have q_hn6 : g3 ∉ M := fun h => (o2 g3 h).elim hn6 (fun h => absurd (lt_cell (hE5 0 _ rfl)) (Nat.not_lt.2 h))
 have hE5 : ∀ j v, (cA .u8 8 a0)[j]? = some v → w16.cell? ⟨g3, 0 + j, none⟩ = some v := fun j v hv => (cell_keep hc17 o1 hn6 (hE5 j v hv))
 have hn6 := q_hn6
 have q_hn11 : g8 ∉ M := fun h => (o2 g8 h).elim hn11 (fun h => absurd (lt_cell (hE10 0 _ rfl)) (Nat.not_lt.2 h))
 have hE10 : ∀ j v, (cA .u8 8 a1)[j]? = some v → w16.cell? ⟨g8, 0 + j, none⟩ = some v := fun j v hv => (cell_keep hc17 o1 hn11 (hE10 j v hv))
 have hn11 := q_hn11
 have hM : MS (M) w16 := (hM.chg hc17)
 have hC := hC.trans hc17 (Ok.nil _ _)
 refine wpl_end ?_
 refine hK12 _ _ ?_; try clear hK12 K12
 refine wp_ret ?_
 try simp only [Exit.then, Exit.inBlock]
 obtain rfl := Option.some.inj H
 refine rt1 ha rfl rfl ?_
 exact ⟨rfl, hC, hM⟩
def vinerylaw03_RdMakes.f (k : Nat) (a0 : Int) (a1 : Int) (a2 : Int) (a3 : List Int) (a4 : List Int) : Option (Bool) := (vinerylaw03_small.f k ).bind fun t13 => (rd_Make.f k a0 a1 a2).bind fun t15 => (vineryref03_Make.f k a0 a1 a2).bind fun t23 => (rd_Parts.f k a3).bind fun t31 => (vineryref03_Parts.f k a3).bind fun t33 => ((if t13 = true then (if (eqA 8 t15.1 t23.1) = true then (if (t15.2 == t23.2) = true then (if (t31.1 == t33.1) = true then (if (t31.2.1 == t33.2.1) = true then (if (t31.2.2.1 == t33.2.2.1) = true then (if (t31.2.2.2 == t33.2.2.2) = true then (rd_Compare.f a3 a4).bind fun t43 => (vineryref03_Compare.f k a3 a4).bind fun t44 => some (t43 == t44 : Bool) else some (false : Bool)) else some (false : Bool)) else some (false : Bool)) else some (false : Bool)) else some (false : Bool)) else some (false : Bool)) else some (false : Bool))).bind fun s35 => some ((s35 : Bool))
set_option maxRecDepth 100000 in
theorem vinerylaw03_RdMakes.walk (w : World) (M : List Nat) (hM : MS M w) (hG : GF w M) (a0 : Int) (a1 : Int) (a2 : Int) (a3 : List Int) (a4 : List Int) (k : Nat) (r : Bool) (H : vinerylaw03_RdMakes.f k a0 a1 a2 a3 a4 = some r) :
    To Tryd.prog 5 [.int .i64 a0, .int .i64 a1, .int .i64 a2, .agg (cA .u8 8 a3).toArray, .agg (cA .u8 8 a4).toArray] w fun v w' => v = .bool r ∧ Chg [] w w' ∧ MS (M) w' := by
 unfold vinerylaw03_RdMakes.f at H
 refine ent Tryd.func5 rfl [(0, .int .i64 a0), (1, .int .i64 a1), (2, .int .i64 a2), (3, .agg (cA .u8 8 a3).toArray), (4, .agg (cA .u8 8 a4).toArray)] rfl (by rfl) fun a ha => ?_
 have hC : Chg [] w w := Chg.refl _ _
 refine wp_seq_k fun K1 hK1 => ?_
 refine wp_region_lit ?_
 refine bx (cs := (cA .u8 8 a3)) ha rfl rfl rfl rfl rfl fun a w2 g3 hN4 ha => ?_
 have hn6 := hN4.notin hM
 have o1 : Ok [] (M) w.heap.size := Ok.nil _ _
 have o2 : Ok (M) (M) w.heap.size := (Ok.refl _ _)
 have hG := hG.chg hN4.chg o1 o2
 have hM : MS (M) w2 := (hM.chg hN4.chg)
 have hC := hC.trans hN4.chg (Ok.nil _ _)
 have hE5 : ∀ j v, (cA .u8 8 a3)[j]? = some v → w2.cell? ⟨g3, 0 + j, none⟩ = some v := Box.cells (New.box hN4)
 refine bx (cs := (cA .u8 8 a4)) ha rfl rfl rfl rfl rfl fun a w7 g8 hN9 ha => ?_
 have hn11 := hN9.notin hM
 have o1 : Ok [] (M) w2.heap.size := Ok.nil _ _
 have o2 : Ok (M) (M) w2.heap.size := (Ok.refl _ _)
 have hG := hG.chg hN9.chg o1 o2
 have q_hn6 : g3 ∉ M := fun h => (o2 g3 h).elim hn6 (fun h => absurd (lt_cell (hE5 0 _ rfl)) (Nat.not_lt.2 h))
 have hE5 : ∀ j v, (cA .u8 8 a3)[j]? = some v → w7.cell? ⟨g3, 0 + j, none⟩ = some v := fun j v hv => (cell_keep hN9.chg o1 hn6 (hE5 j v hv))
 have hn6 := q_hn6
 have hM : MS (M) w7 := (hM.chg hN9.chg)
 have hC := hC.trans hN9.chg (Ok.nil _ _)
 have hE10 : ∀ j v, (cA .u8 8 a4)[j]? = some v → w7.cell? ⟨g8, 0 + j, none⟩ = some v := Box.cells (New.box hN9)
 refine seg ha 1 [(0, .int .i64 a0), (1, .int .i64 a1), (2, .int .i64 a2), (8, .pointer (some ⟨g3, 0, none⟩)), (9, .pointer (some ⟨g8, 0, none⟩))] (by kernel_rfl) fun a ha => ?_
 refine hK1 _ _ ?_; try clear hK1 K1
 refine wp_seq_k fun K12 hK12 => ?_
 refine wp_region_lit ?_
 obtain ⟨t13, H13, H⟩ := bind_some H
 refine cl ha (by rfl) (by kernel_rfl) (by rfl) (by rfl) (by rfl) (vinerylaw03_small.walk w7 _ hM hG  k _ H13) ?_
 rintro _ w13 ⟨rfl, hc13, hMn⟩ a ha
 have o1 : Ok [] (M) w7.heap.size := Ok.nil _ _
 have o2 : Ok (M) (M) w7.heap.size := (Ok.refl _ _)
 have hG := hG.chg hc13 o1 o2
 have q_hn6 : g3 ∉ M := fun h => (o2 g3 h).elim hn6 (fun h => absurd (lt_cell (hE5 0 _ rfl)) (Nat.not_lt.2 h))
 have hE5 : ∀ j v, (cA .u8 8 a3)[j]? = some v → w13.cell? ⟨g3, 0 + j, none⟩ = some v := fun j v hv => (cell_keep hc13 o1 hn6 (hE5 j v hv))
 have hn6 := q_hn6
 have q_hn11 : g8 ∉ M := fun h => (o2 g8 h).elim hn11 (fun h => absurd (lt_cell (hE10 0 _ rfl)) (Nat.not_lt.2 h))
 have hE10 : ∀ j v, (cA .u8 8 a4)[j]? = some v → w13.cell? ⟨g8, 0 + j, none⟩ = some v := fun j v hv => (cell_keep hc13 o1 hn11 (hE10 j v hv))
 have hn11 := q_hn11
 have hM : MS (M) w13 := (hM.chg hc13)
 have hC := hC.trans hc13 (Ok.nil _ _)
 refine seg ha 1 [(0, .int .i64 a0), (1, .int .i64 a1), (2, .int .i64 a2), (8, .pointer (some ⟨g3, 0, none⟩)), (9, .pointer (some ⟨g8, 0, none⟩)), (11, .bool t13)] (by kernel_rfl) fun a ha => ?_
 refine hK12 _ _ ?_; try clear hK12 K12
 refine wp_seq_k fun K14 hK14 => ?_
 refine wp_region_lit ?_
 refine seg ha 3 [(0, .int .i64 a0), (1, .int .i64 a1), (2, .int .i64 a2), (8, .pointer (some ⟨g3, 0, none⟩)), (9, .pointer (some ⟨g8, 0, none⟩)), (11, .bool t13), (26, .int .i64 a0), (27, .int .i64 a1), (28, .int .i64 a2)] (by kernel_rfl) fun a ha => ?_
 obtain ⟨t15, H15, H⟩ := bind_some H
 refine cl ha (by rfl) (by kernel_rfl) (by rfl) (by rfl) (by rfl) (rd_Make.walk w13 _ hM a0 a1 a2 k _ H15) ?_
 rintro _ w15 ⟨rfl, hc15, hMn⟩ a ha
 have o1 : Ok [] (M) w13.heap.size := Ok.nil _ _
 have o2 : Ok (M) (M) w13.heap.size := (Ok.refl _ _)
 have hG := hG.chg hc15 o1 o2
 have q_hn6 : g3 ∉ M := fun h => (o2 g3 h).elim hn6 (fun h => absurd (lt_cell (hE5 0 _ rfl)) (Nat.not_lt.2 h))
 have hE5 : ∀ j v, (cA .u8 8 a3)[j]? = some v → w15.cell? ⟨g3, 0 + j, none⟩ = some v := fun j v hv => (cell_keep hc15 o1 hn6 (hE5 j v hv))
 have hn6 := q_hn6
 have q_hn11 : g8 ∉ M := fun h => (o2 g8 h).elim hn11 (fun h => absurd (lt_cell (hE10 0 _ rfl)) (Nat.not_lt.2 h))
 have hE10 : ∀ j v, (cA .u8 8 a4)[j]? = some v → w15.cell? ⟨g8, 0 + j, none⟩ = some v := fun j v hv => (cell_keep hc15 o1 hn11 (hE10 j v hv))
 have hn11 := q_hn11
 have hM : MS (M) w15 := (hM.chg hc15)
 have hC := hC.trans hc15 (Ok.nil _ _)
 refine seg ha 3 [(0, .int .i64 a0), (1, .int .i64 a1), (2, .int .i64 a2), (8, .pointer (some ⟨g3, 0, none⟩)), (9, .pointer (some ⟨g8, 0, none⟩)), (11, .bool t13), (30, .agg (cA .u8 8 t15.1).toArray), (31, .int .i64 t15.2)] (by kernel_rfl) fun a ha => ?_
 refine al (cs := (cA .u8 8 (List.replicate 8 (0 : Int)))) (z := .agg (cA .u8 8 (List.replicate 8 (0 : Int))).toArray) ha (fun w => by kernel_rfl) rfl rfl rfl rfl fun a w16 g17 hN18 ha => ?_
 have o1 : Ok [] (M) w15.heap.size := Ok.nil _ _
 have o2 : Ok ([g17] ++ (M)) (M) w15.heap.size := (Ok.app (hN18.ok _) (Ok.refl _ _))
 have hG := hG.chg hN18.chg o1 o2
 have q_hn6 : g3 ∉ [g17] ++ (M) := fun h => (o2 g3 h).elim hn6 (fun h => absurd (lt_cell (hE5 0 _ rfl)) (Nat.not_lt.2 h))
 have hE5 : ∀ j v, (cA .u8 8 a3)[j]? = some v → w16.cell? ⟨g3, 0 + j, none⟩ = some v := fun j v hv => (cell_keep hN18.chg o1 hn6 (hE5 j v hv))
 have hn6 := q_hn6
 have q_hn11 : g8 ∉ [g17] ++ (M) := fun h => (o2 g8 h).elim hn11 (fun h => absurd (lt_cell (hE10 0 _ rfl)) (Nat.not_lt.2 h))
 have hE10 : ∀ j v, (cA .u8 8 a4)[j]? = some v → w16.cell? ⟨g8, 0 + j, none⟩ = some v := fun j v hv => (cell_keep hN18.chg o1 hn11 (hE10 j v hv))
 have hn11 := q_hn11
 have p_i19_M : ∀ x ∈ [g17], x ∉ M := fun x hx hy => absurd (hM x (hy)) (Nat.not_lt.2 ((hN18.ge1) x hx))
 have e_i19 : ∀ x ∈ [g17], w.heap.size ≤ x := fun x hx => Nat.le_trans hC.size ((hN18.ge1) x hx)
 have hM : MS ([g17] ++ (M)) w16 := (MS.app hN18.ms (hM.chg hN18.chg))
 have hC := hC.trans hN18.chg (Ok.nil _ _)
 have hBg17 : Box w16 g17 (cA .u8 8 (List.replicate 8 (0 : Int))) := hN18.box
 refine stA (l := (cA .u8 8 t15.1)) ha rfl rfl rfl (by kernel_rfl) rfl rfl hBg17 rfl fun a w20 ha hb2 hc21 _ => ?_
 have o1 : Ok [g17] ([g17] ++ (M)) w16.heap.size := (fun _ h => .inl (ml h))
 have o2 : Ok ([g17] ++ (M)) ([g17] ++ (M)) w16.heap.size := (Ok.refl _ _)
 have hG := hG.chg hc21 o1 o2
 have q_hn6 : g3 ∉ [g17] ++ (M) := fun h => (o2 g3 h).elim hn6 (fun h => absurd (lt_cell (hE5 0 _ rfl)) (Nat.not_lt.2 h))
 have hE5 : ∀ j v, (cA .u8 8 a3)[j]? = some v → w20.cell? ⟨g3, 0 + j, none⟩ = some v := fun j v hv => (cell_keep hc21 o1 hn6 (hE5 j v hv))
 have hn6 := q_hn6
 have q_hn11 : g8 ∉ [g17] ++ (M) := fun h => (o2 g8 h).elim hn11 (fun h => absurd (lt_cell (hE10 0 _ rfl)) (Nat.not_lt.2 h))
 have hE10 : ∀ j v, (cA .u8 8 a4)[j]? = some v → w20.cell? ⟨g8, 0 + j, none⟩ = some v := fun j v hv => (cell_keep hc21 o1 hn11 (hE10 j v hv))
 have hn11 := q_hn11
 have hM : MS ([g17] ++ (M)) w20 := (hM.chg hc21)
 have hC := hC.trans hc21 (fun x h => .inr (e_i19 x h))
 have hBg17 : Box w20 g17 (cA .u8 8 t15.1) := hb2
 refine seg ha 1 [(0, .int .i64 a0), (1, .int .i64 a1), (2, .int .i64 a2), (8, .pointer (some ⟨g3, 0, none⟩)), (9, .pointer (some ⟨g8, 0, none⟩)), (11, .bool t13), (12, .pointer (some ⟨g17, 0, none⟩)), (13, .int .i64 t15.2)] (by kernel_rfl) fun a ha => ?_
 refine hK14 _ _ ?_; try clear hK14 K14
 refine wp_seq_k fun K22 hK22 => ?_
 refine wp_region_lit ?_
 refine seg ha 3 [(8, .pointer (some ⟨g3, 0, none⟩)), (9, .pointer (some ⟨g8, 0, none⟩)), (11, .bool t13), (12, .pointer (some ⟨g17, 0, none⟩)), (13, .int .i64 t15.2), (33, .int .i64 a0), (34, .int .i64 a1), (35, .int .i64 a2)] (by kernel_rfl) fun a ha => ?_
 obtain ⟨t23, H23, H⟩ := bind_some H
 refine cl ha (by rfl) (by kernel_rfl) (by rfl) (by rfl) (by rfl) (vineryref03_Make.walk w20 _ hM a0 a1 a2 k _ H23) ?_
 rintro _ w23 ⟨rfl, hc23, hMn⟩ a ha
 have o1 : Ok [] ([g17] ++ (M)) w20.heap.size := Ok.nil _ _
 have o2 : Ok ([g17] ++ (M)) ([g17] ++ (M)) w20.heap.size := (Ok.refl _ _)
 have hG := hG.chg hc23 o1 o2
 have hBg17 := hBg17.chg hc23 (fun h => nomatch h)
 have q_hn6 : g3 ∉ [g17] ++ (M) := fun h => (o2 g3 h).elim hn6 (fun h => absurd (lt_cell (hE5 0 _ rfl)) (Nat.not_lt.2 h))
 have hE5 : ∀ j v, (cA .u8 8 a3)[j]? = some v → w23.cell? ⟨g3, 0 + j, none⟩ = some v := fun j v hv => (cell_keep hc23 o1 hn6 (hE5 j v hv))
 have hn6 := q_hn6
 have q_hn11 : g8 ∉ [g17] ++ (M) := fun h => (o2 g8 h).elim hn11 (fun h => absurd (lt_cell (hE10 0 _ rfl)) (Nat.not_lt.2 h))
 have hE10 : ∀ j v, (cA .u8 8 a4)[j]? = some v → w23.cell? ⟨g8, 0 + j, none⟩ = some v := fun j v hv => (cell_keep hc23 o1 hn11 (hE10 j v hv))
 have hn11 := q_hn11
 have hM : MS ([g17] ++ (M)) w23 := (hM.chg hc23)
 have hC := hC.trans hc23 (Ok.nil _ _)
 refine seg ha 3 [(8, .pointer (some ⟨g3, 0, none⟩)), (9, .pointer (some ⟨g8, 0, none⟩)), (11, .bool t13), (12, .pointer (some ⟨g17, 0, none⟩)), (13, .int .i64 t15.2), (37, .agg (cA .u8 8 t23.1).toArray), (38, .int .i64 t23.2)] (by kernel_rfl) fun a ha => ?_
 refine al (cs := (cA .u8 8 (List.replicate 8 (0 : Int)))) (z := .agg (cA .u8 8 (List.replicate 8 (0 : Int))).toArray) ha (fun w => by kernel_rfl) rfl rfl rfl rfl fun a w24 g25 hN26 ha => ?_
 have o1 : Ok [] ([g17] ++ (M)) w23.heap.size := Ok.nil _ _
 have o2 : Ok ([g25] ++ ([g17] ++ (M))) ([g17] ++ (M)) w23.heap.size := (Ok.app (hN26.ok _) (Ok.refl _ _))
 have hG := hG.chg hN26.chg o1 o2
 have hBg17 := hBg17.chg hN26.chg (fun h => nomatch h)
 have q_hn6 : g3 ∉ [g25] ++ ([g17] ++ (M)) := fun h => (o2 g3 h).elim hn6 (fun h => absurd (lt_cell (hE5 0 _ rfl)) (Nat.not_lt.2 h))
 have hE5 : ∀ j v, (cA .u8 8 a3)[j]? = some v → w24.cell? ⟨g3, 0 + j, none⟩ = some v := fun j v hv => (cell_keep hN26.chg o1 hn6 (hE5 j v hv))
 have hn6 := q_hn6
 have q_hn11 : g8 ∉ [g25] ++ ([g17] ++ (M)) := fun h => (o2 g8 h).elim hn11 (fun h => absurd (lt_cell (hE10 0 _ rfl)) (Nat.not_lt.2 h))
 have hE10 : ∀ j v, (cA .u8 8 a4)[j]? = some v → w24.cell? ⟨g8, 0 + j, none⟩ = some v := fun j v hv => (cell_keep hN26.chg o1 hn11 (hE10 j v hv))
 have hn11 := q_hn11
 have p_i27_i19 : ∀ x ∈ [g25], x ∉ ([g17]) := fun x hx hy => absurd (hM x (ml hy)) (Nat.not_lt.2 ((hN26.ge1) x hx))
 have p_i27_M : ∀ x ∈ [g25], x ∉ M := fun x hx hy => absurd (hM x (mr (hy))) (Nat.not_lt.2 ((hN26.ge1) x hx))
 have e_i27 : ∀ x ∈ [g25], w.heap.size ≤ x := fun x hx => Nat.le_trans hC.size ((hN26.ge1) x hx)
 have hM : MS ([g25] ++ ([g17] ++ (M))) w24 := (MS.app hN26.ms (hM.chg hN26.chg))
 have hC := hC.trans hN26.chg (Ok.nil _ _)
 have hBg25 : Box w24 g25 (cA .u8 8 (List.replicate 8 (0 : Int))) := hN26.box
 refine stA (l := (cA .u8 8 t23.1)) ha rfl rfl rfl (by kernel_rfl) rfl rfl hBg25 rfl fun a w28 ha hb2 hc29 _ => ?_
 have o1 : Ok [g25] ([g25] ++ ([g17] ++ (M))) w24.heap.size := (fun _ h => .inl (ml h))
 have o2 : Ok ([g25] ++ ([g17] ++ (M))) ([g25] ++ ([g17] ++ (M))) w24.heap.size := (Ok.refl _ _)
 have hG := hG.chg hc29 o1 o2
 have hBg17 := hBg17.chg hc29 ((fun x (hx : x ∈ [g17]) (hy : x ∈ [g25]) => p_i27_i19 x hy hx) g17 (by simp))
 have q_hn6 : g3 ∉ [g25] ++ ([g17] ++ (M)) := fun h => (o2 g3 h).elim hn6 (fun h => absurd (lt_cell (hE5 0 _ rfl)) (Nat.not_lt.2 h))
 have hE5 : ∀ j v, (cA .u8 8 a3)[j]? = some v → w28.cell? ⟨g3, 0 + j, none⟩ = some v := fun j v hv => (cell_keep hc29 o1 hn6 (hE5 j v hv))
 have hn6 := q_hn6
 have q_hn11 : g8 ∉ [g25] ++ ([g17] ++ (M)) := fun h => (o2 g8 h).elim hn11 (fun h => absurd (lt_cell (hE10 0 _ rfl)) (Nat.not_lt.2 h))
 have hE10 : ∀ j v, (cA .u8 8 a4)[j]? = some v → w28.cell? ⟨g8, 0 + j, none⟩ = some v := fun j v hv => (cell_keep hc29 o1 hn11 (hE10 j v hv))
 have hn11 := q_hn11
 have hM : MS ([g25] ++ ([g17] ++ (M))) w28 := (hM.chg hc29)
 have hC := hC.trans hc29 (fun x h => .inr (e_i27 x h))
 have hBg25 : Box w28 g25 (cA .u8 8 t23.1) := hb2
 refine seg ha 1 [(8, .pointer (some ⟨g3, 0, none⟩)), (9, .pointer (some ⟨g8, 0, none⟩)), (11, .bool t13), (12, .pointer (some ⟨g17, 0, none⟩)), (13, .int .i64 t15.2), (14, .pointer (some ⟨g25, 0, none⟩)), (15, .int .i64 t23.2)] (by kernel_rfl) fun a ha => ?_
 refine hK22 _ _ ?_; try clear hK22 K22
 refine wp_seq_k fun K30 hK30 => ?_
 refine wp_region_lit ?_
 refine ldA (cs := (cA .u8 8 a3)) ha rfl (by kernel_rfl) rfl rfl rfl (cells_sub hE5 (all := (cA .u8 8 a3)) [] [] (by kernel_rfl)) fun a ha => ?_
 obtain ⟨t31, H31, H⟩ := bind_some H
 refine cl ha (by rfl) (by kernel_rfl) (by rfl) (by rfl) (by rfl) (rd_Parts.walk w28 _ hM a3 k _ H31) ?_
 rintro _ w31 ⟨rfl, hc31, hMn⟩ a ha
 have o1 : Ok [] ([g25] ++ ([g17] ++ (M))) w28.heap.size := Ok.nil _ _
 have o2 : Ok ([g25] ++ ([g17] ++ (M))) ([g25] ++ ([g17] ++ (M))) w28.heap.size := (Ok.refl _ _)
 have hG := hG.chg hc31 o1 o2
 have hBg17 := hBg17.chg hc31 (fun h => nomatch h)
 have hBg25 := hBg25.chg hc31 (fun h => nomatch h)
 have q_hn6 : g3 ∉ [g25] ++ ([g17] ++ (M)) := fun h => (o2 g3 h).elim hn6 (fun h => absurd (lt_cell (hE5 0 _ rfl)) (Nat.not_lt.2 h))
 have hE5 : ∀ j v, (cA .u8 8 a3)[j]? = some v → w31.cell? ⟨g3, 0 + j, none⟩ = some v := fun j v hv => (cell_keep hc31 o1 hn6 (hE5 j v hv))
 have hn6 := q_hn6
 have q_hn11 : g8 ∉ [g25] ++ ([g17] ++ (M)) := fun h => (o2 g8 h).elim hn11 (fun h => absurd (lt_cell (hE10 0 _ rfl)) (Nat.not_lt.2 h))
 have hE10 : ∀ j v, (cA .u8 8 a4)[j]? = some v → w31.cell? ⟨g8, 0 + j, none⟩ = some v := fun j v hv => (cell_keep hc31 o1 hn11 (hE10 j v hv))
 have hn11 := q_hn11
 have hM : MS ([g25] ++ ([g17] ++ (M))) w31 := (hM.chg hc31)
 have hC := hC.trans hc31 (Ok.nil _ _)
 refine seg ha 9 [(8, .pointer (some ⟨g3, 0, none⟩)), (9, .pointer (some ⟨g8, 0, none⟩)), (11, .bool t13), (12, .pointer (some ⟨g17, 0, none⟩)), (13, .int .i64 t15.2), (14, .pointer (some ⟨g25, 0, none⟩)), (15, .int .i64 t23.2), (16, .int .i64 t31.1), (17, .int .i64 t31.2.1), (18, .int .i64 t31.2.2.1), (19, .bool t31.2.2.2)] (by kernel_rfl) fun a ha => ?_
 refine hK30 _ _ ?_; try clear hK30 K30
 refine wp_seq_k fun K32 hK32 => ?_
 refine wp_region_lit ?_
 refine ldA (cs := (cA .u8 8 a3)) ha rfl (by kernel_rfl) rfl rfl rfl (cells_sub hE5 (all := (cA .u8 8 a3)) [] [] (by kernel_rfl)) fun a ha => ?_
 obtain ⟨t33, H33, H⟩ := bind_some H
 refine cl ha (by rfl) (by kernel_rfl) (by rfl) (by rfl) (by rfl) (vineryref03_Parts.walk w31 _ hM a3 k _ H33) ?_
 rintro _ w33 ⟨rfl, hc33, hMn⟩ a ha
 have o1 : Ok [] ([g25] ++ ([g17] ++ (M))) w31.heap.size := Ok.nil _ _
 have o2 : Ok ([g25] ++ ([g17] ++ (M))) ([g25] ++ ([g17] ++ (M))) w31.heap.size := (Ok.refl _ _)
 have hG := hG.chg hc33 o1 o2
 have hBg17 := hBg17.chg hc33 (fun h => nomatch h)
 have hBg25 := hBg25.chg hc33 (fun h => nomatch h)
 have q_hn6 : g3 ∉ [g25] ++ ([g17] ++ (M)) := fun h => (o2 g3 h).elim hn6 (fun h => absurd (lt_cell (hE5 0 _ rfl)) (Nat.not_lt.2 h))
 have hE5 : ∀ j v, (cA .u8 8 a3)[j]? = some v → w33.cell? ⟨g3, 0 + j, none⟩ = some v := fun j v hv => (cell_keep hc33 o1 hn6 (hE5 j v hv))
 have hn6 := q_hn6
 have q_hn11 : g8 ∉ [g25] ++ ([g17] ++ (M)) := fun h => (o2 g8 h).elim hn11 (fun h => absurd (lt_cell (hE10 0 _ rfl)) (Nat.not_lt.2 h))
 have hE10 : ∀ j v, (cA .u8 8 a4)[j]? = some v → w33.cell? ⟨g8, 0 + j, none⟩ = some v := fun j v hv => (cell_keep hc33 o1 hn11 (hE10 j v hv))
 have hn11 := q_hn11
 have hM : MS ([g25] ++ ([g17] ++ (M))) w33 := (hM.chg hc33)
 have hC := hC.trans hc33 (Ok.nil _ _)
 refine seg ha 9 [(8, .pointer (some ⟨g3, 0, none⟩)), (9, .pointer (some ⟨g8, 0, none⟩)), (11, .bool t13), (12, .pointer (some ⟨g17, 0, none⟩)), (13, .int .i64 t15.2), (14, .pointer (some ⟨g25, 0, none⟩)), (15, .int .i64 t23.2), (16, .int .i64 t31.1), (17, .int .i64 t31.2.1), (18, .int .i64 t31.2.2.1), (19, .bool t31.2.2.2), (20, .int .i64 t33.1), (21, .int .i64 t33.2.1), (22, .int .i64 t33.2.2.1), (23, .bool t33.2.2.2)] (by kernel_rfl) fun a ha => ?_
 refine hK32 _ _ ?_; try clear hK32 K32
 refine wp_seq_k fun K34 hK34 => ?_
 refine drq0 (fun w' => Chg [] w33 w') (by kernel_rfl) (by kernel_rfl) (fun _ h => h) ?_
 obtain ⟨s35, H35, H⟩ := bind_some H
 have J35 : ∀ (a : Act) (w35 : World), Has a Tryd.f5.ntmps [(10, .bool s35)] → (Box w35 g17 (cA .u8 8 t15.1)) → (Box w35 g25 (cA .u8 8 t23.1)) → (GF w35 ([g25] ++ ([g17] ++ (M)))) → (Chg [] w w35) → (MS ([g25] ++ ([g17] ++ (M))) w35) → K34 a w35 := by
  intro a w35 ha hBg17 hBg25 hG hC hM
  refine hK34 _ _ ?_; try clear hK34 K34
  refine wp_ret ?_
  try simp only [Exit.then, Exit.inBlock]
  have o1 : Ok [] ([g25] ++ ([g17] ++ (M))) w35.heap.size := Ok.nil _ _
  have o2 : Ok (M) ([g25] ++ ([g17] ++ (M))) w35.heap.size := (fun _ h => .inl (mr (mr (h))))
  have hG := hG.chg (Chg.refl [] _) o1 o2
  have hBg17 := hBg17.chg (Chg.refl [] _) (fun h => nomatch h)
  have hBg25 := hBg25.chg (Chg.refl [] _) (fun h => nomatch h)
  have hM : MS (M) w35 := (fun x h => hM.chg (Chg.refl [] _) x (mr (mr (h))))
  have hC := hC.trans (Chg.refl [] _) (Ok.nil _ _)
  obtain rfl := Option.some.inj H
  refine rt1 ha rfl rfl ?_
  exact ⟨rfl, hC, hM⟩
 have H := H35
 refine qp 0 (.bool t13) ha rfl rfl rfl (by kernel_rfl) fun a ha => ?_
 refine qp 0 (.bool t13) ha rfl rfl rfl (by kernel_rfl) fun a ha => ?_
 have ha := ha.sel (env' := [(54, .bool t13), (8, .pointer (some ⟨g3, 0, none⟩)), (9, .pointer (some ⟨g8, 0, none⟩)), (12, .pointer (some ⟨g17, 0, none⟩)), (13, .int .i64 t15.2), (14, .pointer (some ⟨g25, 0, none⟩)), (15, .int .i64 t23.2), (16, .int .i64 t31.1), (17, .int .i64 t31.2.1), (18, .int .i64 t31.2.2.1), (19, .bool t31.2.2.2), (20, .int .i64 t33.1), (21, .int .i64 t33.2.1), (22, .int .i64 t33.2.2.1), (23, .bool t33.2.2.2)]) (by kernel_rfl)
 rcases Bool.eq_false_or_eq_true (t13) with hb36 | hb36
 ·have ha := ha.lit hb36
  have H := ite_t hb36 H
  refine qv (v := .agg (cA .u8 8 t15.1).toArray) ha rfl rfl rfl (fun w' hs => ldA_run (cs := (cA .u8 8 t15.1)) ha rfl (by kernel_rfl) (cells_sub (Box.cells (Box.chg hBg17 hs (fun h => nomatch h))) (all := (cA .u8 8 t15.1)) [] [] (by kernel_rfl))) fun a ha => ?_
  refine qv (v := .agg (cA .u8 8 t23.1).toArray) ha rfl rfl rfl (fun w' hs => ldA_run (cs := (cA .u8 8 t23.1)) ha rfl (by kernel_rfl) (cells_sub (Box.cells (Box.chg hBg25 hs (fun h => nomatch h))) (all := (cA .u8 8 t23.1)) [] [] (by kernel_rfl))) fun a ha => ?_
  refine qv (v := .bool (eqA 8 t15.1 t23.1)) ha rfl rfl rfl (fun w' hs => eqs_run (r := (eqA 8 t15.1 t23.1)) (m := 9) ha rfl rfl (by kernel_rfl) rfl (by kernel_rfl) w') fun a ha => ?_
  refine qp 3 (.bool (eqA 8 t15.1 t23.1)) ha rfl rfl rfl (by kernel_rfl) fun a ha => ?_
  refine qp 0 (.bool (eqA 8 t15.1 t23.1)) ha rfl rfl rfl (by kernel_rfl) fun a ha => ?_
  have ha := ha.sel (env' := [(59, .bool (eqA 8 t15.1 t23.1)), (8, .pointer (some ⟨g3, 0, none⟩)), (9, .pointer (some ⟨g8, 0, none⟩)), (13, .int .i64 t15.2), (15, .int .i64 t23.2), (16, .int .i64 t31.1), (17, .int .i64 t31.2.1), (18, .int .i64 t31.2.2.1), (19, .bool t31.2.2.2), (20, .int .i64 t33.1), (21, .int .i64 t33.2.1), (22, .int .i64 t33.2.2.1), (23, .bool t33.2.2.2)]) (by kernel_rfl)
  rcases Bool.eq_false_or_eq_true ((eqA 8 t15.1 t23.1)) with hb37 | hb37
  ·have ha := ha.lit hb37
   have H := ite_t hb37 H
   refine qp 0 (.int .i64 t15.2) ha rfl rfl rfl (by kernel_rfl) fun a ha => ?_
   refine qp 0 (.int .i64 t23.2) ha rfl rfl rfl (by kernel_rfl) fun a ha => ?_
   refine qp 0 (.bool (t15.2 == t23.2)) ha rfl rfl rfl (by kernel_rfl) fun a ha => ?_
   refine qp 3 (.bool (t15.2 == t23.2)) ha rfl rfl rfl (by kernel_rfl) fun a ha => ?_
   refine qp 0 (.bool (t15.2 == t23.2)) ha rfl rfl rfl (by kernel_rfl) fun a ha => ?_
   have ha := ha.sel (env' := [(64, .bool (t15.2 == t23.2)), (8, .pointer (some ⟨g3, 0, none⟩)), (9, .pointer (some ⟨g8, 0, none⟩)), (16, .int .i64 t31.1), (17, .int .i64 t31.2.1), (18, .int .i64 t31.2.2.1), (19, .bool t31.2.2.2), (20, .int .i64 t33.1), (21, .int .i64 t33.2.1), (22, .int .i64 t33.2.2.1), (23, .bool t33.2.2.2)]) (by kernel_rfl)
   rcases Bool.eq_false_or_eq_true (t15.2 == t23.2) with hb38 | hb38
   ·have ha := ha.lit hb38
    have H := ite_t hb38 H
    refine qp 0 (.int .i64 t31.1) ha rfl rfl rfl (by kernel_rfl) fun a ha => ?_
    refine qp 0 (.int .i64 t33.1) ha rfl rfl rfl (by kernel_rfl) fun a ha => ?_
    refine qp 0 (.bool (t31.1 == t33.1)) ha rfl rfl rfl (by kernel_rfl) fun a ha => ?_
    refine qp 3 (.bool (t31.1 == t33.1)) ha rfl rfl rfl (by kernel_rfl) fun a ha => ?_
    refine qp 0 (.bool (t31.1 == t33.1)) ha rfl rfl rfl (by kernel_rfl) fun a ha => ?_
    have ha := ha.sel (env' := [(69, .bool (t31.1 == t33.1)), (8, .pointer (some ⟨g3, 0, none⟩)), (9, .pointer (some ⟨g8, 0, none⟩)), (17, .int .i64 t31.2.1), (18, .int .i64 t31.2.2.1), (19, .bool t31.2.2.2), (21, .int .i64 t33.2.1), (22, .int .i64 t33.2.2.1), (23, .bool t33.2.2.2)]) (by kernel_rfl)
    rcases Bool.eq_false_or_eq_true (t31.1 == t33.1) with hb39 | hb39
    ·have ha := ha.lit hb39
     have H := ite_t hb39 H
     refine qp 0 (.int .i64 t31.2.1) ha rfl rfl rfl (by kernel_rfl) fun a ha => ?_
     refine qp 0 (.int .i64 t33.2.1) ha rfl rfl rfl (by kernel_rfl) fun a ha => ?_
     refine qp 0 (.bool (t31.2.1 == t33.2.1)) ha rfl rfl rfl (by kernel_rfl) fun a ha => ?_
     refine qp 3 (.bool (t31.2.1 == t33.2.1)) ha rfl rfl rfl (by kernel_rfl) fun a ha => ?_
     refine qp 0 (.bool (t31.2.1 == t33.2.1)) ha rfl rfl rfl (by kernel_rfl) fun a ha => ?_
     have ha := ha.sel (env' := [(74, .bool (t31.2.1 == t33.2.1)), (8, .pointer (some ⟨g3, 0, none⟩)), (9, .pointer (some ⟨g8, 0, none⟩)), (18, .int .i64 t31.2.2.1), (19, .bool t31.2.2.2), (22, .int .i64 t33.2.2.1), (23, .bool t33.2.2.2)]) (by kernel_rfl)
     rcases Bool.eq_false_or_eq_true (t31.2.1 == t33.2.1) with hb40 | hb40
     ·have ha := ha.lit hb40
      have H := ite_t hb40 H
      refine qp 0 (.int .i64 t31.2.2.1) ha rfl rfl rfl (by kernel_rfl) fun a ha => ?_
      refine qp 0 (.int .i64 t33.2.2.1) ha rfl rfl rfl (by kernel_rfl) fun a ha => ?_
      refine qp 0 (.bool (t31.2.2.1 == t33.2.2.1)) ha rfl rfl rfl (by kernel_rfl) fun a ha => ?_
      refine qp 3 (.bool (t31.2.2.1 == t33.2.2.1)) ha rfl rfl rfl (by kernel_rfl) fun a ha => ?_
      refine qp 0 (.bool (t31.2.2.1 == t33.2.2.1)) ha rfl rfl rfl (by kernel_rfl) fun a ha => ?_
      have ha := ha.sel (env' := [(79, .bool (t31.2.2.1 == t33.2.2.1)), (8, .pointer (some ⟨g3, 0, none⟩)), (9, .pointer (some ⟨g8, 0, none⟩)), (19, .bool t31.2.2.2), (23, .bool t33.2.2.2)]) (by kernel_rfl)
      rcases Bool.eq_false_or_eq_true (t31.2.2.1 == t33.2.2.1) with hb41 | hb41
      ·have ha := ha.lit hb41
       have H := ite_t hb41 H
       refine qp 0 (.bool t31.2.2.2) ha rfl rfl rfl (by kernel_rfl) fun a ha => ?_
       refine qp 0 (.bool t33.2.2.2) ha rfl rfl rfl (by kernel_rfl) fun a ha => ?_
       refine qp 0 (.bool (t31.2.2.2 == t33.2.2.2)) ha rfl rfl rfl (by kernel_rfl) fun a ha => ?_
       refine qp 3 (.bool (t31.2.2.2 == t33.2.2.2)) ha rfl rfl rfl (by kernel_rfl) fun a ha => ?_
       refine qp 0 (.bool (t31.2.2.2 == t33.2.2.2)) ha rfl rfl rfl (by kernel_rfl) fun a ha => ?_
       have ha := ha.sel (env' := [(84, .bool (t31.2.2.2 == t33.2.2.2)), (8, .pointer (some ⟨g3, 0, none⟩)), (9, .pointer (some ⟨g8, 0, none⟩))]) (by kernel_rfl)
       rcases Bool.eq_false_or_eq_true (t31.2.2.2 == t33.2.2.2) with hb42 | hb42
       ·have ha := ha.lit hb42
        have H := ite_t hb42 H
        refine qv (v := .agg (cA .u8 8 a3).toArray) ha rfl rfl rfl (fun w' hs => ldA_run (cs := (cA .u8 8 a3)) ha rfl (by kernel_rfl) (cells_sub (fun j v hv => hs.keep (hE5 j v hv)) (all := (cA .u8 8 a3)) [] [] (by kernel_rfl))) fun a ha => ?_
        refine qv (v := .agg (cA .u8 8 a4).toArray) ha rfl rfl rfl (fun w' hs => ldA_run (cs := (cA .u8 8 a4)) ha rfl (by kernel_rfl) (cells_sub (fun j v hv => hs.keep (hE10 j v hv)) (all := (cA .u8 8 a4)) [] [] (by kernel_rfl))) fun a ha => ?_
        obtain ⟨t43, H43, H⟩ := bind_some H
        refine qc (.int .i64 t43) ha (by rfl) (by kernel_rfl) (by rfl) (by rfl) (by rfl) (fun w' hs => (rd_Compare.walk w' [] (MS.nil _) a3 a4 _ H43).mono fun v w'' ⟨hv, hc, _⟩ => ⟨hv, hs.trans hc (Ok.nil _ _)⟩) fun a ha => ?_
        refine qv (v := .agg (cA .u8 8 a3).toArray) ha rfl rfl rfl (fun w' hs => ldA_run (cs := (cA .u8 8 a3)) ha rfl (by kernel_rfl) (cells_sub (fun j v hv => hs.keep (hE5 j v hv)) (all := (cA .u8 8 a3)) [] [] (by kernel_rfl))) fun a ha => ?_
        refine qv (v := .agg (cA .u8 8 a4).toArray) ha rfl rfl rfl (fun w' hs => ldA_run (cs := (cA .u8 8 a4)) ha rfl (by kernel_rfl) (cells_sub (fun j v hv => hs.keep (hE10 j v hv)) (all := (cA .u8 8 a4)) [] [] (by kernel_rfl))) fun a ha => ?_
        obtain ⟨t44, H44, H⟩ := bind_some H
        refine qc (.int .i64 t44) ha (by rfl) (by kernel_rfl) (by rfl) (by rfl) (by rfl) (fun w' hs => (vineryref03_Compare.walk w' [] (MS.nil _) a3 a4 k _ H44).mono fun v w'' ⟨hv, hc, _⟩ => ⟨hv, hs.trans hc (Ok.nil _ _)⟩) fun a ha => ?_
        refine qp 0 (.bool (t43 == t44)) ha rfl rfl rfl (by kernel_rfl) fun a ha => ?_
        refine qp 3 (.bool (t43 == t44)) ha rfl rfl rfl (by kernel_rfl) fun a ha => ?_
        refine qp 0 (.bool (t43 == t44)) ha rfl rfl rfl (by kernel_rfl) fun a ha => ?_
        refine wpQuiet_nil ?_
        intro w45 hc46
        have o1 : Ok [] ([g25] ++ ([g17] ++ (M))) w33.heap.size := Ok.nil _ _
        have o2 : Ok ([g25] ++ ([g17] ++ (M))) ([g25] ++ ([g17] ++ (M))) w33.heap.size := (Ok.refl _ _)
        have hG := hG.chg hc46 o1 o2
        have hBg17 := hBg17.chg hc46 (fun h => nomatch h)
        have hBg25 := hBg25.chg hc46 (fun h => nomatch h)
        have q_hn6 : g3 ∉ [g25] ++ ([g17] ++ (M)) := fun h => (o2 g3 h).elim hn6 (fun h => absurd (lt_cell (hE5 0 _ rfl)) (Nat.not_lt.2 h))
        have hE5 : ∀ j v, (cA .u8 8 a3)[j]? = some v → w45.cell? ⟨g3, 0 + j, none⟩ = some v := fun j v hv => (cell_keep hc46 o1 hn6 (hE5 j v hv))
        have hn6 := q_hn6
        have q_hn11 : g8 ∉ [g25] ++ ([g17] ++ (M)) := fun h => (o2 g8 h).elim hn11 (fun h => absurd (lt_cell (hE10 0 _ rfl)) (Nat.not_lt.2 h))
        have hE10 : ∀ j v, (cA .u8 8 a4)[j]? = some v → w45.cell? ⟨g8, 0 + j, none⟩ = some v := fun j v hv => (cell_keep hc46 o1 hn11 (hE10 j v hv))
        have hn11 := q_hn11
        have hM : MS ([g25] ++ ([g17] ++ (M))) w45 := (hM.chg hc46)
        have hC := hC.trans hc46 (Ok.nil _ _)
        refine wpl_end ?_
        obtain rfl := Option.some.inj H
        exact J35 _ _ (ha.sel (by kernel_rfl)) hBg17 hBg25 hG hC hM
       ·have ha := ha.lit hb42
        have H := ite_f hb42 H
        refine qo ha rfl rfl rfl fun a ha => ?_
        refine qo ha rfl rfl rfl fun a ha => ?_
        refine qo ha rfl rfl rfl fun a ha => ?_
        refine qo ha rfl rfl rfl fun a ha => ?_
        refine qo ha rfl rfl rfl fun a ha => ?_
        refine qo ha rfl rfl rfl fun a ha => ?_
        refine qo ha rfl rfl rfl fun a ha => ?_
        refine qp 4 (.bool false) ha rfl rfl rfl (by kernel_rfl) fun a ha => ?_
        refine qp 0 (.bool false) ha rfl rfl rfl (by kernel_rfl) fun a ha => ?_
        refine wpQuiet_nil ?_
        intro w47 hc48
        have o1 : Ok [] ([g25] ++ ([g17] ++ (M))) w33.heap.size := Ok.nil _ _
        have o2 : Ok ([g25] ++ ([g17] ++ (M))) ([g25] ++ ([g17] ++ (M))) w33.heap.size := (Ok.refl _ _)
        have hG := hG.chg hc48 o1 o2
        have hBg17 := hBg17.chg hc48 (fun h => nomatch h)
        have hBg25 := hBg25.chg hc48 (fun h => nomatch h)
        have q_hn6 : g3 ∉ [g25] ++ ([g17] ++ (M)) := fun h => (o2 g3 h).elim hn6 (fun h => absurd (lt_cell (hE5 0 _ rfl)) (Nat.not_lt.2 h))
        have hE5 : ∀ j v, (cA .u8 8 a3)[j]? = some v → w47.cell? ⟨g3, 0 + j, none⟩ = some v := fun j v hv => (cell_keep hc48 o1 hn6 (hE5 j v hv))
        have hn6 := q_hn6
        have q_hn11 : g8 ∉ [g25] ++ ([g17] ++ (M)) := fun h => (o2 g8 h).elim hn11 (fun h => absurd (lt_cell (hE10 0 _ rfl)) (Nat.not_lt.2 h))
        have hE10 : ∀ j v, (cA .u8 8 a4)[j]? = some v → w47.cell? ⟨g8, 0 + j, none⟩ = some v := fun j v hv => (cell_keep hc48 o1 hn11 (hE10 j v hv))
        have hn11 := q_hn11
        have hM : MS ([g25] ++ ([g17] ++ (M))) w47 := (hM.chg hc48)
        have hC := hC.trans hc48 (Ok.nil _ _)
        refine wpl_end ?_
        obtain rfl := Option.some.inj H
        exact J35 _ _ (ha.sel (by kernel_rfl)) hBg17 hBg25 hG hC hM
      ·have ha := ha.lit hb41
       have H := ite_f hb41 H
       refine qo ha rfl rfl rfl fun a ha => ?_
       refine qo ha rfl rfl rfl fun a ha => ?_
       refine qo ha rfl rfl rfl fun a ha => ?_
       refine qp 4 (.bool false) ha rfl rfl rfl (by kernel_rfl) fun a ha => ?_
       refine qp 0 (.bool false) ha rfl rfl rfl (by kernel_rfl) fun a ha => ?_
       refine qo ha rfl rfl rfl fun a ha => ?_
       refine qo ha rfl rfl rfl fun a ha => ?_
       refine qo ha rfl rfl rfl fun a ha => ?_
       refine qo ha rfl rfl rfl fun a ha => ?_
       refine qo ha rfl rfl rfl fun a ha => ?_
       refine qo ha rfl rfl rfl fun a ha => ?_
       refine qo ha rfl rfl rfl fun a ha => ?_
       refine qp 4 (.bool false) ha rfl rfl rfl (by kernel_rfl) fun a ha => ?_
       refine qp 0 (.bool false) ha rfl rfl rfl (by kernel_rfl) fun a ha => ?_
       refine wpQuiet_nil ?_
       intro w49 hc50
       have o1 : Ok [] ([g25] ++ ([g17] ++ (M))) w33.heap.size := Ok.nil _ _
       have o2 : Ok ([g25] ++ ([g17] ++ (M))) ([g25] ++ ([g17] ++ (M))) w33.heap.size := (Ok.refl _ _)
       have hG := hG.chg hc50 o1 o2
       have hBg17 := hBg17.chg hc50 (fun h => nomatch h)
       have hBg25 := hBg25.chg hc50 (fun h => nomatch h)
       have q_hn6 : g3 ∉ [g25] ++ ([g17] ++ (M)) := fun h => (o2 g3 h).elim hn6 (fun h => absurd (lt_cell (hE5 0 _ rfl)) (Nat.not_lt.2 h))
       have hE5 : ∀ j v, (cA .u8 8 a3)[j]? = some v → w49.cell? ⟨g3, 0 + j, none⟩ = some v := fun j v hv => (cell_keep hc50 o1 hn6 (hE5 j v hv))
       have hn6 := q_hn6
       have q_hn11 : g8 ∉ [g25] ++ ([g17] ++ (M)) := fun h => (o2 g8 h).elim hn11 (fun h => absurd (lt_cell (hE10 0 _ rfl)) (Nat.not_lt.2 h))
       have hE10 : ∀ j v, (cA .u8 8 a4)[j]? = some v → w49.cell? ⟨g8, 0 + j, none⟩ = some v := fun j v hv => (cell_keep hc50 o1 hn11 (hE10 j v hv))
       have hn11 := q_hn11
       have hM : MS ([g25] ++ ([g17] ++ (M))) w49 := (hM.chg hc50)
       have hC := hC.trans hc50 (Ok.nil _ _)
       refine wpl_end ?_
       obtain rfl := Option.some.inj H
       exact J35 _ _ (ha.sel (by kernel_rfl)) hBg17 hBg25 hG hC hM
     ·have ha := ha.lit hb40
      have H := ite_f hb40 H
      refine qo ha rfl rfl rfl fun a ha => ?_
      refine qo ha rfl rfl rfl fun a ha => ?_
      refine qo ha rfl rfl rfl fun a ha => ?_
      refine qp 4 (.bool false) ha rfl rfl rfl (by kernel_rfl) fun a ha => ?_
      refine qp 0 (.bool false) ha rfl rfl rfl (by kernel_rfl) fun a ha => ?_
      refine qo ha rfl rfl rfl fun a ha => ?_
      refine qo ha rfl rfl rfl fun a ha => ?_
      refine qo ha rfl rfl rfl fun a ha => ?_
      refine qp 4 (.bool false) ha rfl rfl rfl (by kernel_rfl) fun a ha => ?_
      refine qp 0 (.bool false) ha rfl rfl rfl (by kernel_rfl) fun a ha => ?_
      refine qo ha rfl rfl rfl fun a ha => ?_
      refine qo ha rfl rfl rfl fun a ha => ?_
      refine qo ha rfl rfl rfl fun a ha => ?_
      refine qo ha rfl rfl rfl fun a ha => ?_
      refine qo ha rfl rfl rfl fun a ha => ?_
      refine qo ha rfl rfl rfl fun a ha => ?_
      refine qo ha rfl rfl rfl fun a ha => ?_
      refine qp 4 (.bool false) ha rfl rfl rfl (by kernel_rfl) fun a ha => ?_
      refine qp 0 (.bool false) ha rfl rfl rfl (by kernel_rfl) fun a ha => ?_
      refine wpQuiet_nil ?_
      intro w51 hc52
      have o1 : Ok [] ([g25] ++ ([g17] ++ (M))) w33.heap.size := Ok.nil _ _
      have o2 : Ok ([g25] ++ ([g17] ++ (M))) ([g25] ++ ([g17] ++ (M))) w33.heap.size := (Ok.refl _ _)
      have hG := hG.chg hc52 o1 o2
      have hBg17 := hBg17.chg hc52 (fun h => nomatch h)
      have hBg25 := hBg25.chg hc52 (fun h => nomatch h)
      have q_hn6 : g3 ∉ [g25] ++ ([g17] ++ (M)) := fun h => (o2 g3 h).elim hn6 (fun h => absurd (lt_cell (hE5 0 _ rfl)) (Nat.not_lt.2 h))
      have hE5 : ∀ j v, (cA .u8 8 a3)[j]? = some v → w51.cell? ⟨g3, 0 + j, none⟩ = some v := fun j v hv => (cell_keep hc52 o1 hn6 (hE5 j v hv))
      have hn6 := q_hn6
      have q_hn11 : g8 ∉ [g25] ++ ([g17] ++ (M)) := fun h => (o2 g8 h).elim hn11 (fun h => absurd (lt_cell (hE10 0 _ rfl)) (Nat.not_lt.2 h))
      have hE10 : ∀ j v, (cA .u8 8 a4)[j]? = some v → w51.cell? ⟨g8, 0 + j, none⟩ = some v := fun j v hv => (cell_keep hc52 o1 hn11 (hE10 j v hv))
      have hn11 := q_hn11
      have hM : MS ([g25] ++ ([g17] ++ (M))) w51 := (hM.chg hc52)
      have hC := hC.trans hc52 (Ok.nil _ _)
      refine wpl_end ?_
      obtain rfl := Option.some.inj H
      exact J35 _ _ (ha.sel (by kernel_rfl)) hBg17 hBg25 hG hC hM
    ·have ha := ha.lit hb39
     have H := ite_f hb39 H
     refine qo ha rfl rfl rfl fun a ha => ?_
     refine qo ha rfl rfl rfl fun a ha => ?_
     refine qo ha rfl rfl rfl fun a ha => ?_
     refine qp 4 (.bool false) ha rfl rfl rfl (by kernel_rfl) fun a ha => ?_
     refine qp 0 (.bool false) ha rfl rfl rfl (by kernel_rfl) fun a ha => ?_
     refine qo ha rfl rfl rfl fun a ha => ?_
     refine qo ha rfl rfl rfl fun a ha => ?_
     refine qo ha rfl rfl rfl fun a ha => ?_
     refine qp 4 (.bool false) ha rfl rfl rfl (by kernel_rfl) fun a ha => ?_
     refine qp 0 (.bool false) ha rfl rfl rfl (by kernel_rfl) fun a ha => ?_
     refine qo ha rfl rfl rfl fun a ha => ?_
     refine qo ha rfl rfl rfl fun a ha => ?_
     refine qo ha rfl rfl rfl fun a ha => ?_
     refine qp 4 (.bool false) ha rfl rfl rfl (by kernel_rfl) fun a ha => ?_
     refine qp 0 (.bool false) ha rfl rfl rfl (by kernel_rfl) fun a ha => ?_
     refine qo ha rfl rfl rfl fun a ha => ?_
     refine qo ha rfl rfl rfl fun a ha => ?_
     refine qo ha rfl rfl rfl fun a ha => ?_
     refine qo ha rfl rfl rfl fun a ha => ?_
     refine qo ha rfl rfl rfl fun a ha => ?_
     refine qo ha rfl rfl rfl fun a ha => ?_
     refine qo ha rfl rfl rfl fun a ha => ?_
     refine qp 4 (.bool false) ha rfl rfl rfl (by kernel_rfl) fun a ha => ?_
     refine qp 0 (.bool false) ha rfl rfl rfl (by kernel_rfl) fun a ha => ?_
     refine wpQuiet_nil ?_
     intro w53 hc54
     have o1 : Ok [] ([g25] ++ ([g17] ++ (M))) w33.heap.size := Ok.nil _ _
     have o2 : Ok ([g25] ++ ([g17] ++ (M))) ([g25] ++ ([g17] ++ (M))) w33.heap.size := (Ok.refl _ _)
     have hG := hG.chg hc54 o1 o2
     have hBg17 := hBg17.chg hc54 (fun h => nomatch h)
     have hBg25 := hBg25.chg hc54 (fun h => nomatch h)
     have q_hn6 : g3 ∉ [g25] ++ ([g17] ++ (M)) := fun h => (o2 g3 h).elim hn6 (fun h => absurd (lt_cell (hE5 0 _ rfl)) (Nat.not_lt.2 h))
     have hE5 : ∀ j v, (cA .u8 8 a3)[j]? = some v → w53.cell? ⟨g3, 0 + j, none⟩ = some v := fun j v hv => (cell_keep hc54 o1 hn6 (hE5 j v hv))
     have hn6 := q_hn6
     have q_hn11 : g8 ∉ [g25] ++ ([g17] ++ (M)) := fun h => (o2 g8 h).elim hn11 (fun h => absurd (lt_cell (hE10 0 _ rfl)) (Nat.not_lt.2 h))
     have hE10 : ∀ j v, (cA .u8 8 a4)[j]? = some v → w53.cell? ⟨g8, 0 + j, none⟩ = some v := fun j v hv => (cell_keep hc54 o1 hn11 (hE10 j v hv))
     have hn11 := q_hn11
     have hM : MS ([g25] ++ ([g17] ++ (M))) w53 := (hM.chg hc54)
     have hC := hC.trans hc54 (Ok.nil _ _)
     refine wpl_end ?_
     obtain rfl := Option.some.inj H
     exact J35 _ _ (ha.sel (by kernel_rfl)) hBg17 hBg25 hG hC hM
   ·have ha := ha.lit hb38
    have H := ite_f hb38 H
    refine qo ha rfl rfl rfl fun a ha => ?_
    refine qo ha rfl rfl rfl fun a ha => ?_
    refine qo ha rfl rfl rfl fun a ha => ?_
    refine qp 4 (.bool false) ha rfl rfl rfl (by kernel_rfl) fun a ha => ?_
    refine qp 0 (.bool false) ha rfl rfl rfl (by kernel_rfl) fun a ha => ?_
    refine qo ha rfl rfl rfl fun a ha => ?_
    refine qo ha rfl rfl rfl fun a ha => ?_
    refine qo ha rfl rfl rfl fun a ha => ?_
    refine qp 4 (.bool false) ha rfl rfl rfl (by kernel_rfl) fun a ha => ?_
    refine qp 0 (.bool false) ha rfl rfl rfl (by kernel_rfl) fun a ha => ?_
    refine qo ha rfl rfl rfl fun a ha => ?_
    refine qo ha rfl rfl rfl fun a ha => ?_
    refine qo ha rfl rfl rfl fun a ha => ?_
    refine qp 4 (.bool false) ha rfl rfl rfl (by kernel_rfl) fun a ha => ?_
    refine qp 0 (.bool false) ha rfl rfl rfl (by kernel_rfl) fun a ha => ?_
    refine qo ha rfl rfl rfl fun a ha => ?_
    refine qo ha rfl rfl rfl fun a ha => ?_
    refine qo ha rfl rfl rfl fun a ha => ?_
    refine qp 4 (.bool false) ha rfl rfl rfl (by kernel_rfl) fun a ha => ?_
    refine qp 0 (.bool false) ha rfl rfl rfl (by kernel_rfl) fun a ha => ?_
    refine qo ha rfl rfl rfl fun a ha => ?_
    refine qo ha rfl rfl rfl fun a ha => ?_
    refine qo ha rfl rfl rfl fun a ha => ?_
    refine qo ha rfl rfl rfl fun a ha => ?_
    refine qo ha rfl rfl rfl fun a ha => ?_
    refine qo ha rfl rfl rfl fun a ha => ?_
    refine qo ha rfl rfl rfl fun a ha => ?_
    refine qp 4 (.bool false) ha rfl rfl rfl (by kernel_rfl) fun a ha => ?_
    refine qp 0 (.bool false) ha rfl rfl rfl (by kernel_rfl) fun a ha => ?_
    refine wpQuiet_nil ?_
    intro w55 hc56
    have o1 : Ok [] ([g25] ++ ([g17] ++ (M))) w33.heap.size := Ok.nil _ _
    have o2 : Ok ([g25] ++ ([g17] ++ (M))) ([g25] ++ ([g17] ++ (M))) w33.heap.size := (Ok.refl _ _)
    have hG := hG.chg hc56 o1 o2
    have hBg17 := hBg17.chg hc56 (fun h => nomatch h)
    have hBg25 := hBg25.chg hc56 (fun h => nomatch h)
    have q_hn6 : g3 ∉ [g25] ++ ([g17] ++ (M)) := fun h => (o2 g3 h).elim hn6 (fun h => absurd (lt_cell (hE5 0 _ rfl)) (Nat.not_lt.2 h))
    have hE5 : ∀ j v, (cA .u8 8 a3)[j]? = some v → w55.cell? ⟨g3, 0 + j, none⟩ = some v := fun j v hv => (cell_keep hc56 o1 hn6 (hE5 j v hv))
    have hn6 := q_hn6
    have q_hn11 : g8 ∉ [g25] ++ ([g17] ++ (M)) := fun h => (o2 g8 h).elim hn11 (fun h => absurd (lt_cell (hE10 0 _ rfl)) (Nat.not_lt.2 h))
    have hE10 : ∀ j v, (cA .u8 8 a4)[j]? = some v → w55.cell? ⟨g8, 0 + j, none⟩ = some v := fun j v hv => (cell_keep hc56 o1 hn11 (hE10 j v hv))
    have hn11 := q_hn11
    have hM : MS ([g25] ++ ([g17] ++ (M))) w55 := (hM.chg hc56)
    have hC := hC.trans hc56 (Ok.nil _ _)
    refine wpl_end ?_
    obtain rfl := Option.some.inj H
    exact J35 _ _ (ha.sel (by kernel_rfl)) hBg17 hBg25 hG hC hM
  ·have ha := ha.lit hb37
   have H := ite_f hb37 H
   refine qo ha rfl rfl rfl fun a ha => ?_
   refine qo ha rfl rfl rfl fun a ha => ?_
   refine qo ha rfl rfl rfl fun a ha => ?_
   refine qp 4 (.bool false) ha rfl rfl rfl (by kernel_rfl) fun a ha => ?_
   refine qp 0 (.bool false) ha rfl rfl rfl (by kernel_rfl) fun a ha => ?_
   refine qo ha rfl rfl rfl fun a ha => ?_
   refine qo ha rfl rfl rfl fun a ha => ?_
   refine qo ha rfl rfl rfl fun a ha => ?_
   refine qp 4 (.bool false) ha rfl rfl rfl (by kernel_rfl) fun a ha => ?_
   refine qp 0 (.bool false) ha rfl rfl rfl (by kernel_rfl) fun a ha => ?_
   refine qo ha rfl rfl rfl fun a ha => ?_
   refine qo ha rfl rfl rfl fun a ha => ?_
   refine qo ha rfl rfl rfl fun a ha => ?_
   refine qp 4 (.bool false) ha rfl rfl rfl (by kernel_rfl) fun a ha => ?_
   refine qp 0 (.bool false) ha rfl rfl rfl (by kernel_rfl) fun a ha => ?_
   refine qo ha rfl rfl rfl fun a ha => ?_
   refine qo ha rfl rfl rfl fun a ha => ?_
   refine qo ha rfl rfl rfl fun a ha => ?_
   refine qp 4 (.bool false) ha rfl rfl rfl (by kernel_rfl) fun a ha => ?_
   refine qp 0 (.bool false) ha rfl rfl rfl (by kernel_rfl) fun a ha => ?_
   refine qo ha rfl rfl rfl fun a ha => ?_
   refine qo ha rfl rfl rfl fun a ha => ?_
   refine qo ha rfl rfl rfl fun a ha => ?_
   refine qp 4 (.bool false) ha rfl rfl rfl (by kernel_rfl) fun a ha => ?_
   refine qp 0 (.bool false) ha rfl rfl rfl (by kernel_rfl) fun a ha => ?_
   refine qo ha rfl rfl rfl fun a ha => ?_
   refine qo ha rfl rfl rfl fun a ha => ?_
   refine qo ha rfl rfl rfl fun a ha => ?_
   refine qo ha rfl rfl rfl fun a ha => ?_
   refine qo ha rfl rfl rfl fun a ha => ?_
   refine qo ha rfl rfl rfl fun a ha => ?_
   refine qo ha rfl rfl rfl fun a ha => ?_
   refine qp 4 (.bool false) ha rfl rfl rfl (by kernel_rfl) fun a ha => ?_
   refine qp 0 (.bool false) ha rfl rfl rfl (by kernel_rfl) fun a ha => ?_
   refine wpQuiet_nil ?_
   intro w57 hc58
   have o1 : Ok [] ([g25] ++ ([g17] ++ (M))) w33.heap.size := Ok.nil _ _
   have o2 : Ok ([g25] ++ ([g17] ++ (M))) ([g25] ++ ([g17] ++ (M))) w33.heap.size := (Ok.refl _ _)
   have hG := hG.chg hc58 o1 o2
   have hBg17 := hBg17.chg hc58 (fun h => nomatch h)
   have hBg25 := hBg25.chg hc58 (fun h => nomatch h)
   have q_hn6 : g3 ∉ [g25] ++ ([g17] ++ (M)) := fun h => (o2 g3 h).elim hn6 (fun h => absurd (lt_cell (hE5 0 _ rfl)) (Nat.not_lt.2 h))
   have hE5 : ∀ j v, (cA .u8 8 a3)[j]? = some v → w57.cell? ⟨g3, 0 + j, none⟩ = some v := fun j v hv => (cell_keep hc58 o1 hn6 (hE5 j v hv))
   have hn6 := q_hn6
   have q_hn11 : g8 ∉ [g25] ++ ([g17] ++ (M)) := fun h => (o2 g8 h).elim hn11 (fun h => absurd (lt_cell (hE10 0 _ rfl)) (Nat.not_lt.2 h))
   have hE10 : ∀ j v, (cA .u8 8 a4)[j]? = some v → w57.cell? ⟨g8, 0 + j, none⟩ = some v := fun j v hv => (cell_keep hc58 o1 hn11 (hE10 j v hv))
   have hn11 := q_hn11
   have hM : MS ([g25] ++ ([g17] ++ (M))) w57 := (hM.chg hc58)
   have hC := hC.trans hc58 (Ok.nil _ _)
   refine wpl_end ?_
   obtain rfl := Option.some.inj H
   exact J35 _ _ (ha.sel (by kernel_rfl)) hBg17 hBg25 hG hC hM
 ·have ha := ha.lit hb36
  have H := ite_f hb36 H
  refine qo ha rfl rfl rfl fun a ha => ?_
  refine qo ha rfl rfl rfl fun a ha => ?_
  refine qo ha rfl rfl rfl fun a ha => ?_
  refine qp 4 (.bool false) ha rfl rfl rfl (by kernel_rfl) fun a ha => ?_
  refine qp 0 (.bool false) ha rfl rfl rfl (by kernel_rfl) fun a ha => ?_
  refine qo ha rfl rfl rfl fun a ha => ?_
  refine qo ha rfl rfl rfl fun a ha => ?_
  refine qo ha rfl rfl rfl fun a ha => ?_
  refine qp 4 (.bool false) ha rfl rfl rfl (by kernel_rfl) fun a ha => ?_
  refine qp 0 (.bool false) ha rfl rfl rfl (by kernel_rfl) fun a ha => ?_
  refine qo ha rfl rfl rfl fun a ha => ?_
  refine qo ha rfl rfl rfl fun a ha => ?_
  refine qo ha rfl rfl rfl fun a ha => ?_
  refine qp 4 (.bool false) ha rfl rfl rfl (by kernel_rfl) fun a ha => ?_
  refine qp 0 (.bool false) ha rfl rfl rfl (by kernel_rfl) fun a ha => ?_
  refine qo ha rfl rfl rfl fun a ha => ?_
  refine qo ha rfl rfl rfl fun a ha => ?_
  refine qo ha rfl rfl rfl fun a ha => ?_
  refine qp 4 (.bool false) ha rfl rfl rfl (by kernel_rfl) fun a ha => ?_
  refine qp 0 (.bool false) ha rfl rfl rfl (by kernel_rfl) fun a ha => ?_
  refine qo ha rfl rfl rfl fun a ha => ?_
  refine qo ha rfl rfl rfl fun a ha => ?_
  refine qo ha rfl rfl rfl fun a ha => ?_
  refine qp 4 (.bool false) ha rfl rfl rfl (by kernel_rfl) fun a ha => ?_
  refine qp 0 (.bool false) ha rfl rfl rfl (by kernel_rfl) fun a ha => ?_
  refine qo ha rfl rfl rfl fun a ha => ?_
  refine qo ha rfl rfl rfl fun a ha => ?_
  refine qo ha rfl rfl rfl fun a ha => ?_
  refine qp 4 (.bool false) ha rfl rfl rfl (by kernel_rfl) fun a ha => ?_
  refine qp 0 (.bool false) ha rfl rfl rfl (by kernel_rfl) fun a ha => ?_
  refine qo ha rfl rfl rfl fun a ha => ?_
  refine qo ha rfl rfl rfl fun a ha => ?_
  refine qo ha rfl rfl rfl fun a ha => ?_
  refine qo ha rfl rfl rfl fun a ha => ?_
  refine qo ha rfl rfl rfl fun a ha => ?_
  refine qo ha rfl rfl rfl fun a ha => ?_
  refine qo ha rfl rfl rfl fun a ha => ?_
  refine qp 4 (.bool false) ha rfl rfl rfl (by kernel_rfl) fun a ha => ?_
  refine qp 0 (.bool false) ha rfl rfl rfl (by kernel_rfl) fun a ha => ?_
  refine wpQuiet_nil ?_
  intro w59 hc60
  have o1 : Ok [] ([g25] ++ ([g17] ++ (M))) w33.heap.size := Ok.nil _ _
  have o2 : Ok ([g25] ++ ([g17] ++ (M))) ([g25] ++ ([g17] ++ (M))) w33.heap.size := (Ok.refl _ _)
  have hG := hG.chg hc60 o1 o2
  have hBg17 := hBg17.chg hc60 (fun h => nomatch h)
  have hBg25 := hBg25.chg hc60 (fun h => nomatch h)
  have q_hn6 : g3 ∉ [g25] ++ ([g17] ++ (M)) := fun h => (o2 g3 h).elim hn6 (fun h => absurd (lt_cell (hE5 0 _ rfl)) (Nat.not_lt.2 h))
  have hE5 : ∀ j v, (cA .u8 8 a3)[j]? = some v → w59.cell? ⟨g3, 0 + j, none⟩ = some v := fun j v hv => (cell_keep hc60 o1 hn6 (hE5 j v hv))
  have hn6 := q_hn6
  have q_hn11 : g8 ∉ [g25] ++ ([g17] ++ (M)) := fun h => (o2 g8 h).elim hn11 (fun h => absurd (lt_cell (hE10 0 _ rfl)) (Nat.not_lt.2 h))
  have hE10 : ∀ j v, (cA .u8 8 a4)[j]? = some v → w59.cell? ⟨g8, 0 + j, none⟩ = some v := fun j v hv => (cell_keep hc60 o1 hn11 (hE10 j v hv))
  have hn11 := q_hn11
  have hM : MS ([g25] ++ ([g17] ++ (M))) w59 := (hM.chg hc60)
  have hC := hC.trans hc60 (Ok.nil _ _)
  refine wpl_end ?_
  obtain rfl := Option.some.inj H
  exact J35 _ _ (ha.sel (by kernel_rfl)) hBg17 hBg25 hG hC hM
end Go.E
