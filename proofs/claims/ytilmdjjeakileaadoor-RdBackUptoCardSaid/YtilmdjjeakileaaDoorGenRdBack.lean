/- What the functions that the law reaches compute, and the walks that show it. -/
import Derived.Test.YtilmdjjeakileaaDoorEngU
import Derived.Test.YtilmdjjeakileaaDoorShelf
import Derived.Test.YtilmdjjeakileaaDoorProg
import Derived.Test.YtilmdjjeakileaaDoorGenRdBackP1
set_option linter.unusedVariables false
set_option linter.unusedSimpArgs false
namespace Go.E
open Go.RowKit Go.Proofs
def rd_Parse.f (k : Nat) (a0 : List UInt8) : Option (List Int × Int) := (strings_Split.f a0 ([58] : List UInt8)).bind fun t7 => (if ((t7.length : Int) == (2 : Int)) = true then (if 0 ≤ (1 : Int) ∧ (1 : Int) < (t7.length : Int) then (rd_strange.f k (rd t7 (1 : Int))).bind fun t21 => (rd_Text.f k t21).bind fun t26 => (if (!((bstr t26).toList == (bstr a0).toList)) = true then some ((([(0 : Int), (0 : Int), (0 : Int), (0 : Int), (0 : Int), (0 : Int), (0 : Int), (0 : Int)] : List Int) : List Int), ((4 : Int) : Int)) else some ((t21 : List Int), ((0 : Int) : Int))) else none) else (if ((t7.length : Int) == (3 : Int)) = true then (if 0 ≤ (0 : Int) ∧ (0 : Int) < (t7.length : Int) then (if 0 ≤ (1 : Int) ∧ (1 : Int) < (t7.length : Int) then (if 0 ≤ (2 : Int) ∧ (2 : Int) < (t7.length : Int) then (rd_known.f k (rd t7 (0 : Int)) (rd t7 (1 : Int)) (rd t7 (2 : Int))).bind fun t60 => ((if (!t60.2) = true then some (true : Bool) else (rd_Text.f k t60.1).bind fun t75 => some (!((bstr t75).toList == (bstr a0).toList) : Bool))).bind fun s66 => (if s66 = true then some ((([(0 : Int), (0 : Int), (0 : Int), (0 : Int), (0 : Int), (0 : Int), (0 : Int), (0 : Int)] : List Int) : List Int), ((4 : Int) : Int)) else some ((t60.1 : List Int), ((0 : Int) : Int))) else none) else none) else none) else some ((([(0 : Int), (0 : Int), (0 : Int), (0 : Int), (0 : Int), (0 : Int), (0 : Int), (0 : Int)] : List Int) : List Int), ((4 : Int) : Int))))
set_option maxRecDepth 100000 in
theorem rd_Parse.walk (w : World) (M : List Nat) (hM : MS M w) (hG : GF w M) (a0 : List UInt8) (k : Nat) (r : List Int × Int) (H : rd_Parse.f k a0 = some r) :
    To Tryd.prog 8 [.string (bstr a0)] w fun v w' => v = .tuple #[.agg (cA .u8 8 r.1).toArray, .int .i64 r.2] ∧ Chg [] w w' ∧ MS (M) w' := by
 unfold rd_Parse.f at H
 refine ent Tryd.func8 rfl [(0, .string (bstr a0))] rfl (by rfl) fun a ha => ?_
 have hC : Chg [] w w := Chg.refl _ _
 refine wp_seq_k fun K1 hK1 => ?_
 refine wp_region_lit ?_
 refine al (cs := (cA .u8 8 (List.replicate 8 (0 : Int)))) (z := .agg (cA .u8 8 (List.replicate 8 (0 : Int))).toArray) ha (fun w => by kernel_rfl) rfl rfl rfl rfl fun a w2 g3 hN4 ha => ?_
 have o1 : Ok [] (M) w.heap.size := Ok.nil _ _
 have o2 : Ok ([g3] ++ (M)) (M) w.heap.size := (Ok.app (hN4.ok _) (Ok.refl _ _))
 have hG := hG.chg hN4.chg o1 o2
 have p_i5_M : ∀ x ∈ [g3], x ∉ M := fun x hx hy => absurd (hM x (hy)) (Nat.not_lt.2 ((hN4.ge1) x hx))
 have e_i5 : ∀ x ∈ [g3], w.heap.size ≤ x := fun x hx => Nat.le_trans hC.size ((hN4.ge1) x hx)
 have hM : MS ([g3] ++ (M)) w2 := (MS.app hN4.ms (hM.chg hN4.chg))
 have hC := hC.trans hN4.chg (Ok.nil _ _)
 have hBg3 : Box w2 g3 (cA .u8 8 (List.replicate 8 (0 : Int))) := hN4.box
 refine seg ha 1 [(0, .string (bstr a0)), (2, .pointer (some ⟨g3, 0, none⟩))] (by kernel_rfl) fun a ha => ?_
 refine hK1 _ _ ?_; try clear hK1 K1
 refine wp_seq_k fun K6 hK6 => ?_
 refine wp_region_lit ?_
 refine seg ha 1 [(0, .string (bstr a0)), (2, .pointer (some ⟨g3, 0, none⟩)), (6, .string (bstr a0))] (by kernel_rfl) fun a ha => ?_
 obtain ⟨t7, H7, H⟩ := bind_some H
 refine cl ha (by rfl) (by kernel_rfl) (by rfl) (by rfl) (by rfl) (strings_Split.walk w2 _ hM hG a0 ([58] : List UInt8) _ H7) ?_
 rintro _ w7 ⟨ao8, cap8, rfl, f8, ne_i8, hc7, hMn⟩ a ha
 have o1 : Ok [] ([g3] ++ (M)) w2.heap.size := Ok.nil _ _
 have o2 : Ok (blkL ao8 ++ ([g3] ++ (M))) ([g3] ++ (M)) w2.heap.size := (Ok.app (fun x h => .inr (ne_i8 x h)) (Ok.refl _ _))
 have hG := hG.chg hc7 o1 o2
 have hBg3 := hBg3.chg hc7 (fun h => nomatch h)
 have p_i8_i5 : ∀ x ∈ blkL ao8, x ∉ ([g3]) := fun x hx hy => absurd (hM x (ml hy)) (Nat.not_lt.2 (ne_i8 x hx))
 have p_i8_M : ∀ x ∈ blkL ao8, x ∉ M := fun x hx hy => absurd (hM x (mr (hy))) (Nat.not_lt.2 (ne_i8 x hx))
 have e_i8 : ∀ x ∈ blkL ao8, w.heap.size ≤ x := fun x hx => Nat.le_trans hC.size (ne_i8 x hx)
 have hM : MS (blkL ao8 ++ ([g3] ++ (M))) w7 := (MS.app (fun x h => hMn x (ml h)) (hM.chg hc7))
 have hC := hC.trans hc7 (Ok.nil _ _)
 refine seg ha 1 [(0, .string (bstr a0)), (2, .pointer (some ⟨g3, 0, none⟩)), (4, .slice ao8 t7.length cap8)] (by kernel_rfl) fun a ha => ?_
 refine hK6 _ _ ?_; try clear hK6 K6
 refine wp_seq_k fun K9 hK9 => ?_
 refine wp_region_lit ?_
 refine seg ha 1 [(0, .string (bstr a0)), (2, .pointer (some ⟨g3, 0, none⟩)), (4, .slice ao8 t7.length cap8), (5, .bool true)] (by kernel_rfl) fun a ha => ?_
 refine hK9 _ _ ?_; try clear hK9 K9
 refine wp_seq_k fun K10 hK10 => ?_
 refine wp_seq_k fun K11 hK11 => ?_
 refine wp_region_lit ?_
 refine seg ha 2 [(0, .string (bstr a0)), (2, .pointer (some ⟨g3, 0, none⟩)), (4, .slice ao8 t7.length cap8), (5, .bool true), (9, .int .i64 (t7.length : Int))] (by kernel_rfl) fun a ha => ?_
 refine hK11 _ _ ?_; try clear hK11 K11
 refine wp_block ?_
 refine wp_seq_k fun K12 hK12 => ?_
 refine wp_region_lit ?_
 refine seg ha 2 [(0, .string (bstr a0)), (2, .pointer (some ⟨g3, 0, none⟩)), (4, .slice ao8 t7.length cap8), (5, .bool true), (9, .int .i64 (t7.length : Int)), (10, .bool ((t7.length : Int) == (2 : Int)))] (by kernel_rfl) fun a ha => ?_
 refine hK12 _ _ ?_; try clear hK12 K12
 refine cnd ha rfl (fun hc13 => ?_) (fun hc13 => ?_)
 ·have H := ite_t hc13 H
  refine wp_region_lit ?_
  refine seg ha 1 [(0, .string (bstr a0)), (2, .pointer (some ⟨g3, 0, none⟩)), (5, .bool true), (12, .slice ao8 t7.length cap8)] (by kernel_rfl) fun a ha => ?_
  obtain ⟨⟨hx14, hx14'⟩, H⟩ := ite_some H
  refine ix (r := rStr) ha (by kernel_rfl) (by kernel_rfl) rfl rfl rfl rfl rfl (Own.toRSl (M' := []) f8 (Ok.nil _ _) (fun _ _ h => nomatch h)) hx14 hx14' fun a ge15 oe16 cs17 hn20 hR18 hE19 ha => ?_
  rw [rd_get] at hR18
  obtain rfl := hR18
  have hE19 : ∀ j v, ([.string (bstr (rd t7 (1 : Int)))] : List Value)[j]? = some v → w7.cell? ⟨ge15, oe16 + j, none⟩ = some v := hE19
  refine ld ha rfl (by kernel_rfl) rfl rfl rfl (hE19 0 (.string (bstr (rd t7 (1 : Int)))) (by kernel_rfl)) fun a ha => ?_
  obtain ⟨t21, H21, H⟩ := bind_some H
  refine cl ha (by rfl) (by kernel_rfl) (by rfl) (by rfl) (by rfl) (rd_strange.walk w7 _ hM (rd t7 (1 : Int)) k _ H21) ?_
  rintro _ w21 ⟨rfl, hc21, hMn⟩ a ha
  have o1 : Ok [] (blkL ao8 ++ ([g3] ++ (M))) w7.heap.size := Ok.nil _ _
  have o2 : Ok (blkL ao8 ++ ([g3] ++ (M))) (blkL ao8 ++ ([g3] ++ (M))) w7.heap.size := (Ok.refl _ _)
  have hG := hG.chg hc21 o1 o2
  have hBg3 := hBg3.chg hc21 (fun h => nomatch h)
  have hM : MS (blkL ao8 ++ ([g3] ++ (M))) w21 := (hM.chg hc21)
  have hC := hC.trans hc21 (Ok.nil _ _)
  refine stA (l := (cA .u8 8 t21)) ha rfl rfl rfl (by kernel_rfl) rfl rfl hBg3 rfl fun a w22 ha hb2 hc23 _ => ?_
  have o1 : Ok [g3] (blkL ao8 ++ ([g3] ++ (M))) w21.heap.size := (fun _ h => .inl (mr (ml h)))
  have o2 : Ok (blkL ao8 ++ ([g3] ++ (M))) (blkL ao8 ++ ([g3] ++ (M))) w21.heap.size := (Ok.refl _ _)
  have hG := hG.chg hc23 o1 o2
  have hM : MS (blkL ao8 ++ ([g3] ++ (M))) w22 := (hM.chg hc23)
  have hC := hC.trans hc23 (fun x h => .inr (e_i5 x h))
  have hBg3 : Box w22 g3 (cA .u8 8 t21) := hb2
  refine hK10 _ _ ?_; try clear hK10 K10
  refine wp_seq_k fun K24 hK24 => ?_
  refine wp_seq_k fun K25 hK25 => ?_
  refine wp_region_lit ?_
  refine seg ha 3 [(0, .string (bstr a0)), (2, .pointer (some ⟨g3, 0, none⟩)), (33, .bool false)] (by kernel_rfl) fun a ha => ?_
  refine ldA (cs := (cA .u8 8 t21)) ha rfl (by kernel_rfl) rfl rfl rfl (cells_sub (Box.cells hBg3) (all := (cA .u8 8 t21)) [] [] (by kernel_rfl)) fun a ha => ?_
  obtain ⟨t26, H26, H⟩ := bind_some H
  refine cl ha (by rfl) (by kernel_rfl) (by rfl) (by rfl) (by rfl) (rd_Text.walk w22 _ hM hG t21 k _ H26) ?_
  rintro _ w26 ⟨rfl, hc26, hMn⟩ a ha
  have o1 : Ok [] (blkL ao8 ++ ([g3] ++ (M))) w22.heap.size := Ok.nil _ _
  have o2 : Ok (blkL ao8 ++ ([g3] ++ (M))) (blkL ao8 ++ ([g3] ++ (M))) w22.heap.size := (Ok.refl _ _)
  have hG := hG.chg hc26 o1 o2
  have hBg3 := hBg3.chg hc26 (fun h => nomatch h)
  have hM : MS (blkL ao8 ++ ([g3] ++ (M))) w26 := (hM.chg hc26)
  have hC := hC.trans hc26 (Ok.nil _ _)
  refine sgh ha 3 [2, 2, 4] [(2, .pointer (some ⟨g3, 0, none⟩)), (38, .bool (!((bstr t26).toList == (bstr a0).toList)))] (by kernel_rfl) fun a ha => ?_
  refine hK25 _ _ ?_; try clear hK25 K25
  refine cnd ha rfl (fun hc27 => ?_) (fun hc27 => ?_)
  ·have H := ite_t hc27 H
   refine wp_seq_k fun K28 hK28 => ?_
   refine wp_region_lit ?_
   refine opk (v := .agg (cA .u8 8 ([(0 : Int), (0 : Int), (0 : Int), (0 : Int), (0 : Int), (0 : Int), (0 : Int), (0 : Int)] : List Int)).toArray) ha rfl rfl rfl rfl rfl (fun w => by kernel_rfl) fun a ha => ?_
   refine stA (l := (cA .u8 8 ([(0 : Int), (0 : Int), (0 : Int), (0 : Int), (0 : Int), (0 : Int), (0 : Int), (0 : Int)] : List Int))) ha rfl rfl rfl (by kernel_rfl) rfl rfl hBg3 rfl fun a w29 ha hb2 hc30 _ => ?_
   have o1 : Ok [g3] (blkL ao8 ++ ([g3] ++ (M))) w26.heap.size := (fun _ h => .inl (mr (ml h)))
   have o2 : Ok (blkL ao8 ++ ([g3] ++ (M))) (blkL ao8 ++ ([g3] ++ (M))) w26.heap.size := (Ok.refl _ _)
   have hG := hG.chg hc30 o1 o2
   have hM : MS (blkL ao8 ++ ([g3] ++ (M))) w29 := (hM.chg hc30)
   have hC := hC.trans hc30 (fun x h => .inr (e_i5 x h))
   have hBg3 : Box w29 g3 (cA .u8 8 ([(0 : Int), (0 : Int), (0 : Int), (0 : Int), (0 : Int), (0 : Int), (0 : Int), (0 : Int)] : List Int)) := hb2
   refine seg ha 1 [(2, .pointer (some ⟨g3, 0, none⟩)), (3, .int .i64 (4 : Int))] (by kernel_rfl) fun a ha => ?_
   refine hK28 _ _ ?_; try clear hK28 K28
   refine wp_ret ?_
   try simp only [Exit.then, Exit.inBlock]
   have o1 : Ok [] (blkL ao8 ++ ([g3] ++ (M))) w29.heap.size := Ok.nil _ _
   have o2 : Ok (M) (blkL ao8 ++ ([g3] ++ (M))) w29.heap.size := (fun _ h => .inl (mr (mr (h))))
   have hG := hG.chg (Chg.refl [] _) o1 o2
   have hBg3 := hBg3.chg (Chg.refl [] _) (fun h => nomatch h)
   have hM : MS (M) w29 := (fun x h => hM.chg (Chg.refl [] _) x (mr (mr (h))))
   have hC := hC.trans (Chg.refl [] _) (Ok.nil _ _)
   obtain rfl := Option.some.inj H
   refine rtr ha (res2 rfl (roA ha rfl hBg3 (by kernel_rfl)) (roT ha rfl)) ?_
   exact ⟨rfl, hC, hM⟩
  ·have H := ite_f hc27 H
   refine wp_skip ?_
   refine hK24 _ _ ?_; try clear hK24 K24
   refine wp_seq_k fun K31 hK31 => ?_
   refine wp_region_lit ?_
   refine ldA (cs := (cA .u8 8 t21)) ha rfl (by kernel_rfl) rfl rfl rfl (cells_sub (Box.cells hBg3) (all := (cA .u8 8 t21)) [] [] (by kernel_rfl)) fun a ha => ?_
   refine stA (l := (cA .u8 8 t21)) ha rfl rfl rfl (by kernel_rfl) rfl rfl hBg3 rfl fun a w32 ha hb2 hc33 _ => ?_
   have o1 : Ok [g3] (blkL ao8 ++ ([g3] ++ (M))) w26.heap.size := (fun _ h => .inl (mr (ml h)))
   have o2 : Ok (blkL ao8 ++ ([g3] ++ (M))) (blkL ao8 ++ ([g3] ++ (M))) w26.heap.size := (Ok.refl _ _)
   have hG := hG.chg hc33 o1 o2
   have hM : MS (blkL ao8 ++ ([g3] ++ (M))) w32 := (hM.chg hc33)
   have hC := hC.trans hc33 (fun x h => .inr (e_i5 x h))
   have hBg3 : Box w32 g3 (cA .u8 8 t21) := hb2
   refine seg ha 1 [(2, .pointer (some ⟨g3, 0, none⟩)), (3, .int .i64 (0 : Int))] (by kernel_rfl) fun a ha => ?_
   refine hK31 _ _ ?_; try clear hK31 K31
   refine wp_ret ?_
   try simp only [Exit.then, Exit.inBlock]
   have o1 : Ok [] (blkL ao8 ++ ([g3] ++ (M))) w32.heap.size := Ok.nil _ _
   have o2 : Ok (M) (blkL ao8 ++ ([g3] ++ (M))) w32.heap.size := (fun _ h => .inl (mr (mr (h))))
   have hG := hG.chg (Chg.refl [] _) o1 o2
   have hBg3 := hBg3.chg (Chg.refl [] _) (fun h => nomatch h)
   have hM : MS (M) w32 := (fun x h => hM.chg (Chg.refl [] _) x (mr (mr (h))))
   have hC := hC.trans (Chg.refl [] _) (Ok.nil _ _)
   obtain rfl := Option.some.inj H
   refine rtr ha (res2 rfl (roA ha rfl hBg3 (by kernel_rfl)) (roT ha rfl)) ?_
   exact ⟨rfl, hC, hM⟩
 ·have H := ite_f hc13 H
  refine wp_seq_k fun K34 hK34 => ?_
  refine wp_region_lit ?_
  refine seg ha 2 [(0, .string (bstr a0)), (2, .pointer (some ⟨g3, 0, none⟩)), (4, .slice ao8 t7.length cap8), (16, .bool ((t7.length : Int) == (3 : Int)))] (by kernel_rfl) fun a ha => ?_
  refine hK34 _ _ ?_; try clear hK34 K34
  refine cnd ha rfl (fun hc35 => ?_) (fun hc35 => ?_)
  ·have H := ite_t hc35 H
   have okS : Ok ([g3]) (blkL ao8 ++ ([g3] ++ (M))) w7.heap.size := (fun _ h => .inl (mr (ml h)))
   have z_f8 := Own.toRSl (M' := ([g3])) f8 okS p_i8_i5
   refine drw (fun w' => Chg ([g3]) w7 w') (by kernel_rfl) fun w36 hc37 _ => ?_
   have hS : Chg ([g3]) w7 w36 := (Chg.refl ([g3]) _).trans hc37 (Ok.nil _ _)
   have o1 : Ok [] (blkL ao8 ++ ([g3] ++ (M))) w7.heap.size := Ok.nil _ _
   have o2 : Ok (blkL ao8 ++ ([g3] ++ (M))) (blkL ao8 ++ ([g3] ++ (M))) w7.heap.size := (Ok.refl _ _)
   have hG := hG.chg hc37 o1 o2
   have f8 := f8.chg hc37 o1 o2 (fun _ _ h => nomatch h) (fun _ h => ml h)
   have hBg3 := hBg3.chg hc37 (fun h => nomatch h)
   have hM : MS (blkL ao8 ++ ([g3] ++ (M))) w36 := (hM.chg hc37)
   have hC := hC.trans hc37 (Ok.nil _ _)
   refine tkpz 0 0 (.slice ao8 t7.length cap8) ha (s := hS) (q := fun a ha => ?_)
   obtain ⟨⟨hx38, hx38'⟩, H⟩ := ite_some H
   obtain ⟨ge39, oe400, cs41, hx38eq, hn44, hR42, hE43⟩ := RSl.elem z_f8 (Int.toNat (0 : Int)) (by omega)
   rw [rd_get] at hR42
   obtain rfl := hR42
   have hE43 : ∀ j v, ([.string (bstr (rd t7 (0 : Int)))] : List Value)[j]? = some v → w7.cell? ⟨ge39, (oe400 + (Int.toNat (0 : Int)) * rStr.sz) + j, none⟩ = some v := hE43
   refine tkz 1 ha (v := .pointer (some ⟨ge39, (oe400 + (Int.toNat (0 : Int)) * rStr.sz), none⟩)) (y := fun w' _ => ix_run (r := rStr) (T := 9) ha (by kernel_rfl) (by kernel_rfl) (by rfl) (by rfl) hx38eq hx38 hx38') (s := hS) (q := fun a ha => ?_)
   refine tkz 2 ha (v := .string (bstr (rd t7 (0 : Int)))) (y := fun w' hs => ld_run ha rfl (by kernel_rfl) (cell_keep hs (Ok.refl _ _) hn44 (hE43 0 (.string (bstr (rd t7 (0 : Int)))) (by kernel_rfl)))) (s := hS) (q := fun a ha => ?_)
   refine tkpz 3 0 (.slice ao8 t7.length cap8) ha (s := hS) (q := fun a ha => ?_)
   obtain ⟨⟨hx45, hx45'⟩, H⟩ := ite_some H
   obtain ⟨ge46, oe470, cs48, hx45eq, hn51, hR49, hE50⟩ := RSl.elem z_f8 (Int.toNat (1 : Int)) (by omega)
   rw [rd_get] at hR49
   obtain rfl := hR49
   have hE50 : ∀ j v, ([.string (bstr (rd t7 (1 : Int)))] : List Value)[j]? = some v → w7.cell? ⟨ge46, (oe470 + (Int.toNat (1 : Int)) * rStr.sz) + j, none⟩ = some v := hE50
   refine tkz 4 ha (v := .pointer (some ⟨ge46, (oe470 + (Int.toNat (1 : Int)) * rStr.sz), none⟩)) (y := fun w' _ => ix_run (r := rStr) (T := 9) ha (by kernel_rfl) (by kernel_rfl) (by rfl) (by rfl) hx45eq hx45 hx45') (s := hS) (q := fun a ha => ?_)
   refine tkz 5 ha (v := .string (bstr (rd t7 (1 : Int)))) (y := fun w' hs => ld_run ha rfl (by kernel_rfl) (cell_keep hs (Ok.refl _ _) hn51 (hE50 0 (.string (bstr (rd t7 (1 : Int)))) (by kernel_rfl)))) (s := hS) (q := fun a ha => ?_)
   refine tkpz 6 0 (.slice ao8 t7.length cap8) ha (s := hS) (q := fun a ha => ?_)
   obtain ⟨⟨hx52, hx52'⟩, H⟩ := ite_some H
   obtain ⟨ge53, oe540, cs55, hx52eq, hn58, hR56, hE57⟩ := RSl.elem z_f8 (Int.toNat (2 : Int)) (by omega)
   rw [rd_get] at hR56
   obtain rfl := hR56
   have hE57 : ∀ j v, ([.string (bstr (rd t7 (2 : Int)))] : List Value)[j]? = some v → w7.cell? ⟨ge53, (oe540 + (Int.toNat (2 : Int)) * rStr.sz) + j, none⟩ = some v := hE57
   refine tkz 7 ha (v := .pointer (some ⟨ge53, (oe540 + (Int.toNat (2 : Int)) * rStr.sz), none⟩)) (y := fun w' _ => ix_run (r := rStr) (T := 9) ha (by kernel_rfl) (by kernel_rfl) (by rfl) (by rfl) hx52eq hx52 hx52') (s := hS) (q := fun a ha => ?_)
   refine tkz 8 ha (v := .string (bstr (rd t7 (2 : Int)))) (y := fun w' hs => ld_run ha rfl (by kernel_rfl) (cell_keep hs (Ok.refl _ _) hn58 (hE57 0 (.string (bstr (rd t7 (2 : Int)))) (by kernel_rfl)))) (s := hS) (q := fun a ha => ?_)
   refine ac 9 (by kernel_rfl) (by rfl) fun K59 hK59 => ?_
   obtain ⟨t60, H60, H⟩ := bind_some H
   refine cl ha (by rfl) (by kernel_rfl) (by rfl) (by rfl) (by rfl) (rd_known.walk w36 _ hM hG (rd t7 (0 : Int)) (rd t7 (1 : Int)) (rd t7 (2 : Int)) k _ H60) ?_
   rintro _ w60 ⟨rfl, hc60, hMn⟩ a ha
   have o1 : Ok [] (blkL ao8 ++ ([g3] ++ (M))) w36.heap.size := Ok.nil _ _
   have o2 : Ok (blkL ao8 ++ ([g3] ++ (M))) (blkL ao8 ++ ([g3] ++ (M))) w36.heap.size := (Ok.refl _ _)
   have hG := hG.chg hc60 o1 o2
   have f8 := f8.chg hc60 o1 o2 (fun _ _ h => nomatch h) (fun _ h => ml h)
   have hBg3 := hBg3.chg hc60 (fun h => nomatch h)
   have hM : MS (blkL ao8 ++ ([g3] ++ (M))) w60 := (hM.chg hc60)
   have hC := hC.trans hc60 (Ok.nil _ _)
   have hS := hS.trans hc60 (Ok.nil _ _)
   refine ae hK59 hS ?_; clear hK59 K59
   refine tkpz 10 0 (.tuple #[.agg (cA .u8 8 t60.1).toArray, .bool t60.2]) ha (s := hS) (q := fun a ha => ?_)
   refine tkpz 11 0 (.agg (cA .u8 8 t60.1).toArray) ha (s := hS) (q := fun a ha => ?_)
   refine tkpz 12 0 (.bool t60.2) ha (s := hS) (q := fun a ha => ?_)
   refine ac 13 (by kernel_rfl) (by rfl) fun K61 hK61 => ?_
   refine stA (l := (cA .u8 8 t60.1)) ha rfl rfl rfl (by kernel_rfl) rfl rfl hBg3 rfl fun a w62 ha hb2 hc63 _ => ?_
   have o1 : Ok [g3] (blkL ao8 ++ ([g3] ++ (M))) w60.heap.size := (fun _ h => .inl (mr (ml h)))
   have o2 : Ok (blkL ao8 ++ ([g3] ++ (M))) (blkL ao8 ++ ([g3] ++ (M))) w60.heap.size := (Ok.refl _ _)
   have hG := hG.chg hc63 o1 o2
   have f8 := f8.chg hc63 o1 o2 p_i8_i5 (fun _ h => ml h)
   have hM : MS (blkL ao8 ++ ([g3] ++ (M))) w62 := (hM.chg hc63)
   have hC := hC.trans hc63 (fun x h => .inr (e_i5 x h))
   have hS := hS.trans hc63 (fun x h => .inl (h))
   have hBg3 : Box w62 g3 (cA .u8 8 t60.1) := hb2
   refine ae hK61 hS ?_; clear hK61 K61
   refine tkpz 14 0 (.bool t60.2) ha (s := hS) (q := fun a ha => ?_)
   refine dn (by kernel_rfl) ?_
   refine hK10 _ _ ?_; try clear hK10 K10
   refine wp_seq_k fun K64 hK64 => ?_
   refine wp_seq_k fun K65 hK65 => ?_
   refine wp_region_lit ?_
   obtain ⟨s66, H66, H⟩ := bind_some H
   have J66 : ∀ (a : Act) (w66 : World), Has a Tryd.f8.ntmps [(2, .pointer (some ⟨g3, 0, none⟩)), (38, .bool s66)] → (Box w66 g3 (cA .u8 8 t60.1)) → (GF w66 ([g3] ++ (M))) → (Chg [] w w66) → (MS ([g3] ++ (M)) w66) → K65 a w66 := by
    intro a w66 ha hBg3 hG hC hM
    refine hK65 _ _ ?_; try clear hK65 K65
    refine cnd ha rfl (fun hc67 => ?_) (fun hc67 => ?_)
    ·have H := ite_t hc67 H
     refine wp_seq_k fun K68 hK68 => ?_
     refine wp_region_lit ?_
     refine opk (v := .agg (cA .u8 8 ([(0 : Int), (0 : Int), (0 : Int), (0 : Int), (0 : Int), (0 : Int), (0 : Int), (0 : Int)] : List Int)).toArray) ha rfl rfl rfl rfl rfl (fun w => by kernel_rfl) fun a ha => ?_
     refine stA (l := (cA .u8 8 ([(0 : Int), (0 : Int), (0 : Int), (0 : Int), (0 : Int), (0 : Int), (0 : Int), (0 : Int)] : List Int))) ha rfl rfl rfl (by kernel_rfl) rfl rfl hBg3 rfl fun a w69 ha hb2 hc70 _ => ?_
     have o1 : Ok [g3] ([g3] ++ (M)) w66.heap.size := (fun _ h => .inl (ml h))
     have o2 : Ok ([g3] ++ (M)) ([g3] ++ (M)) w66.heap.size := (Ok.refl _ _)
     have hG := hG.chg hc70 o1 o2
     have hM : MS ([g3] ++ (M)) w69 := (hM.chg hc70)
     have hC := hC.trans hc70 (fun x h => .inr (e_i5 x h))
     have hBg3 : Box w69 g3 (cA .u8 8 ([(0 : Int), (0 : Int), (0 : Int), (0 : Int), (0 : Int), (0 : Int), (0 : Int), (0 : Int)] : List Int)) := hb2
     refine seg ha 1 [(2, .pointer (some ⟨g3, 0, none⟩)), (3, .int .i64 (4 : Int))] (by kernel_rfl) fun a ha => ?_
     refine hK68 _ _ ?_; try clear hK68 K68
     refine wp_ret ?_
     try simp only [Exit.then, Exit.inBlock]
     have o1 : Ok [] ([g3] ++ (M)) w69.heap.size := Ok.nil _ _
     have o2 : Ok (M) ([g3] ++ (M)) w69.heap.size := (fun _ h => .inl (mr (h)))
     have hG := hG.chg (Chg.refl [] _) o1 o2
     have hBg3 := hBg3.chg (Chg.refl [] _) (fun h => nomatch h)
     have hM : MS (M) w69 := (fun x h => hM.chg (Chg.refl [] _) x (mr (h)))
     have hC := hC.trans (Chg.refl [] _) (Ok.nil _ _)
     obtain rfl := Option.some.inj H
     refine rtr ha (res2 rfl (roA ha rfl hBg3 (by kernel_rfl)) (roT ha rfl)) ?_
     exact ⟨rfl, hC, hM⟩
    ·have H := ite_f hc67 H
     refine wp_skip ?_
     refine hK64 _ _ ?_; try clear hK64 K64
     refine wp_seq_k fun K71 hK71 => ?_
     refine wp_region_lit ?_
     refine ldA (cs := (cA .u8 8 t60.1)) ha rfl (by kernel_rfl) rfl rfl rfl (cells_sub (Box.cells hBg3) (all := (cA .u8 8 t60.1)) [] [] (by kernel_rfl)) fun a ha => ?_
     refine stA (l := (cA .u8 8 t60.1)) ha rfl rfl rfl (by kernel_rfl) rfl rfl hBg3 rfl fun a w72 ha hb2 hc73 _ => ?_
     have o1 : Ok [g3] ([g3] ++ (M)) w66.heap.size := (fun _ h => .inl (ml h))
     have o2 : Ok ([g3] ++ (M)) ([g3] ++ (M)) w66.heap.size := (Ok.refl _ _)
     have hG := hG.chg hc73 o1 o2
     have hM : MS ([g3] ++ (M)) w72 := (hM.chg hc73)
     have hC := hC.trans hc73 (fun x h => .inr (e_i5 x h))
     have hBg3 : Box w72 g3 (cA .u8 8 t60.1) := hb2
     refine seg ha 1 [(2, .pointer (some ⟨g3, 0, none⟩)), (3, .int .i64 (0 : Int))] (by kernel_rfl) fun a ha => ?_
     refine hK71 _ _ ?_; try clear hK71 K71
     refine wp_ret ?_
     try simp only [Exit.then, Exit.inBlock]
     have o1 : Ok [] ([g3] ++ (M)) w72.heap.size := Ok.nil _ _
     have o2 : Ok (M) ([g3] ++ (M)) w72.heap.size := (fun _ h => .inl (mr (h)))
     have hG := hG.chg (Chg.refl [] _) o1 o2
     have hBg3 := hBg3.chg (Chg.refl [] _) (fun h => nomatch h)
     have hM : MS (M) w72 := (fun x h => hM.chg (Chg.refl [] _) x (mr (h)))
     have hC := hC.trans (Chg.refl [] _) (Ok.nil _ _)
     obtain rfl := Option.some.inj H
     refine rtr ha (res2 rfl (roA ha rfl hBg3 (by kernel_rfl)) (roT ha rfl)) ?_
     exact ⟨rfl, hC, hM⟩
   have H := H66
   refine seg ha 3 [(33, .bool (!t60.2)), (0, .string (bstr a0)), (2, .pointer (some ⟨g3, 0, none⟩))] (by kernel_rfl) fun a ha => ?_
   rcases Bool.eq_false_or_eq_true (!t60.2) with hb74 | hb74
   ·have ha := ha.lit hb74
    have H := ite_t hb74 H
    refine sgh ha 5 [1, 1, 1, 1, 3] [(2, .pointer (some ⟨g3, 0, none⟩)), (38, .bool true)] (by kernel_rfl) fun a ha => ?_
    obtain rfl := Option.some.inj H
    have o1 : Ok [] (blkL ao8 ++ ([g3] ++ (M))) w62.heap.size := Ok.nil _ _
    have o2 : Ok ([g3] ++ (M)) (blkL ao8 ++ ([g3] ++ (M))) w62.heap.size := (fun _ h => .inl (mr (h)))
    have hG := hG.chg (Chg.refl [] _) o1 o2
    have hBg3 := hBg3.chg (Chg.refl [] _) (fun h => nomatch h)
    have hM : MS ([g3] ++ (M)) w62 := (fun x h => hM.chg (Chg.refl [] _) x (mr (h)))
    have hC := hC.trans (Chg.refl [] _) (Ok.nil _ _)
    exact J66 _ _ (ha.sel (by kernel_rfl)) hBg3 hG hC hM
   ·have ha := ha.lit hb74
    have H := ite_f hb74 H
    refine ldA (cs := (cA .u8 8 t60.1)) ha rfl (by kernel_rfl) rfl rfl rfl (cells_sub (Box.cells hBg3) (all := (cA .u8 8 t60.1)) [] [] (by kernel_rfl)) fun a ha => ?_
    obtain ⟨t75, H75, H⟩ := bind_some H
    refine cl ha (by rfl) (by kernel_rfl) (by rfl) (by rfl) (by rfl) (rd_Text.walk w62 _ hM hG t60.1 k _ H75) ?_
    rintro _ w75 ⟨rfl, hc75, hMn⟩ a ha
    have o1 : Ok [] (blkL ao8 ++ ([g3] ++ (M))) w62.heap.size := Ok.nil _ _
    have o2 : Ok (blkL ao8 ++ ([g3] ++ (M))) (blkL ao8 ++ ([g3] ++ (M))) w62.heap.size := (Ok.refl _ _)
    have hG := hG.chg hc75 o1 o2
    have hBg3 := hBg3.chg hc75 (fun h => nomatch h)
    have hM : MS (blkL ao8 ++ ([g3] ++ (M))) w75 := (hM.chg hc75)
    have hC := hC.trans hc75 (Ok.nil _ _)
    refine sgh ha 3 [2, 2, 4] [(2, .pointer (some ⟨g3, 0, none⟩)), (38, .bool (!((bstr t75).toList == (bstr a0).toList)))] (by kernel_rfl) fun a ha => ?_
    obtain rfl := Option.some.inj H
    have o1 : Ok [] (blkL ao8 ++ ([g3] ++ (M))) w75.heap.size := Ok.nil _ _
    have o2 : Ok ([g3] ++ (M)) (blkL ao8 ++ ([g3] ++ (M))) w75.heap.size := (fun _ h => .inl (mr (h)))
    have hG := hG.chg (Chg.refl [] _) o1 o2
    have hBg3 := hBg3.chg (Chg.refl [] _) (fun h => nomatch h)
    have hM : MS ([g3] ++ (M)) w75 := (fun x h => hM.chg (Chg.refl [] _) x (mr (h)))
    have hC := hC.trans (Chg.refl [] _) (Ok.nil _ _)
    exact J66 _ _ (ha.sel (by kernel_rfl)) hBg3 hG hC hM
  ·have H := ite_f hc35 H
   refine wp_region_lit ?_
   refine seg ha 1 [(0, .string (bstr a0)), (2, .pointer (some ⟨g3, 0, none⟩)), (5, .bool false)] (by kernel_rfl) fun a ha => ?_
   refine hK10 _ _ ?_; try clear hK10 K10
   refine wp_seq_k fun K76 hK76 => ?_
   refine wp_seq_k fun K77 hK77 => ?_
   refine wp_region_lit ?_
   refine sgh ha 8 [0, 0, 0, 1, 1, 1, 1, 3] [(2, .pointer (some ⟨g3, 0, none⟩)), (38, .bool true)] (by kernel_rfl) fun a ha => ?_
   refine hK77 _ _ ?_; try clear hK77 K77
   refine cnd ha rfl (fun _ => ?_) (fun h => nomatch h)
   refine wp_seq_k fun K79 hK79 => ?_
   refine wp_region_lit ?_
   refine opk (v := .agg (cA .u8 8 ([(0 : Int), (0 : Int), (0 : Int), (0 : Int), (0 : Int), (0 : Int), (0 : Int), (0 : Int)] : List Int)).toArray) ha rfl rfl rfl rfl rfl (fun w => by kernel_rfl) fun a ha => ?_
   refine stA (l := (cA .u8 8 ([(0 : Int), (0 : Int), (0 : Int), (0 : Int), (0 : Int), (0 : Int), (0 : Int), (0 : Int)] : List Int))) ha rfl rfl rfl (by kernel_rfl) rfl rfl hBg3 rfl fun a w80 ha hb2 hc81 _ => ?_
   have o1 : Ok [g3] (blkL ao8 ++ ([g3] ++ (M))) w7.heap.size := (fun _ h => .inl (mr (ml h)))
   have o2 : Ok (blkL ao8 ++ ([g3] ++ (M))) (blkL ao8 ++ ([g3] ++ (M))) w7.heap.size := (Ok.refl _ _)
   have hG := hG.chg hc81 o1 o2
   have hM : MS (blkL ao8 ++ ([g3] ++ (M))) w80 := (hM.chg hc81)
   have hC := hC.trans hc81 (fun x h => .inr (e_i5 x h))
   have hBg3 : Box w80 g3 (cA .u8 8 ([(0 : Int), (0 : Int), (0 : Int), (0 : Int), (0 : Int), (0 : Int), (0 : Int), (0 : Int)] : List Int)) := hb2
   refine seg ha 1 [(2, .pointer (some ⟨g3, 0, none⟩)), (3, .int .i64 (4 : Int))] (by kernel_rfl) fun a ha => ?_
   refine hK79 _ _ ?_; try clear hK79 K79
   refine wp_ret ?_
   try simp only [Exit.then, Exit.inBlock]
   have o1 : Ok [] (blkL ao8 ++ ([g3] ++ (M))) w80.heap.size := Ok.nil _ _
   have o2 : Ok (M) (blkL ao8 ++ ([g3] ++ (M))) w80.heap.size := (fun _ h => .inl (mr (mr (h))))
   have hG := hG.chg (Chg.refl [] _) o1 o2
   have hBg3 := hBg3.chg (Chg.refl [] _) (fun h => nomatch h)
   have hM : MS (M) w80 := (fun x h => hM.chg (Chg.refl [] _) x (mr (mr (h))))
   have hC := hC.trans (Chg.refl [] _) (Ok.nil _ _)
   obtain rfl := Option.some.inj H
   refine rtr ha (res2 rfl (roA ha rfl hBg3 (by kernel_rfl)) (roT ha rfl)) ?_
   exact ⟨rfl, hC, hM⟩
def vinerylaw03_small.f (k : Nat) : Option (Bool) := (rd_Make.f k (1 : Int) (167772161 : Int) (7 : Int)).bind fun t3 => (rd_Make.f k (0 : Int) (65536 : Int) (0 : Int)).bind fun t11 => (rd_Parse.f k ([48, 58, 54, 53, 48, 48, 48, 58, 55, 55] : List UInt8)).bind fun t19 => ((if (t3.2 == (0 : Int)) = true then (rd_Text.f k t3.1).bind fun t29 => (if ((bstr t29).toList == (bstr ([49, 58, 49, 48, 46, 48, 46, 48, 46, 49, 58, 55] : List UInt8)).toList) = true then (if (t11.2 == (5 : Int)) = true then (if (t19.2 == (0 : Int)) = true then (if (eqA 8 t19.1 ([(0 : Int), (0 : Int), (253 : Int), (232 : Int), (0 : Int), (0 : Int), (0 : Int), (77 : Int)] : List Int)) = true then (rd_Text.f k ([(0 : Int), (9 : Int), (0 : Int), (0 : Int), (0 : Int), (0 : Int), (0 : Int), (1 : Int)] : List Int)).bind fun t34 => some ((bstr t34).toList == (bstr ([63, 58, 48, 48, 48, 57, 48, 48, 48, 48, 48, 48, 48, 48, 48, 48, 48, 49] : List UInt8)).toList : Bool) else some (false : Bool)) else some (false : Bool)) else some (false : Bool)) else some (false : Bool)) else some (false : Bool))).bind fun s27 => some ((s27 : Bool))
set_option maxRecDepth 100000 in
theorem vinerylaw03_small.walk (w : World) (M : List Nat) (hM : MS M w) (hG : GF w M)  (k : Nat) (r : Bool) (H : vinerylaw03_small.f k = some r) :
    To Tryd.prog 7 [] w fun v w' => v = .bool r ∧ Chg [] w w' ∧ MS (M) w' := by
 unfold vinerylaw03_small.f at H
 refine ent Tryd.func7 rfl [] rfl (by rfl) fun a ha => ?_
 have hC : Chg [] w w := Chg.refl _ _
 refine wp_seq_k fun K1 hK1 => ?_
 refine wp_region_lit ?_
 refine seg ha 1 [] (by kernel_rfl) fun a ha => ?_
 refine hK1 _ _ ?_; try clear hK1 K1
 refine wp_seq_k fun K2 hK2 => ?_
 refine wp_region_lit ?_
 obtain ⟨t3, H3, H⟩ := bind_some H
 refine cl ha (by rfl) (by kernel_rfl) (by rfl) (by rfl) (by rfl) (rd_Make.walk w _ hM (1 : Int) (167772161 : Int) (7 : Int) k _ H3) ?_
 rintro _ w3 ⟨rfl, hc3, hMn⟩ a ha
 have o1 : Ok [] (M) w.heap.size := Ok.nil _ _
 have o2 : Ok (M) (M) w.heap.size := (Ok.refl _ _)
 have hG := hG.chg hc3 o1 o2
 have hM : MS (M) w3 := (hM.chg hc3)
 have hC := hC.trans hc3 (Ok.nil _ _)
 refine seg ha 3 [(9, .agg (cA .u8 8 t3.1).toArray), (10, .int .i64 t3.2)] (by kernel_rfl) fun a ha => ?_
 refine al (cs := (cA .u8 8 (List.replicate 8 (0 : Int)))) (z := .agg (cA .u8 8 (List.replicate 8 (0 : Int))).toArray) ha (fun w => by kernel_rfl) rfl rfl rfl rfl fun a w4 g5 hN6 ha => ?_
 have o1 : Ok [] (M) w3.heap.size := Ok.nil _ _
 have o2 : Ok ([g5] ++ (M)) (M) w3.heap.size := (Ok.app (hN6.ok _) (Ok.refl _ _))
 have hG := hG.chg hN6.chg o1 o2
 have p_i7_M : ∀ x ∈ [g5], x ∉ M := fun x hx hy => absurd (hM x (hy)) (Nat.not_lt.2 ((hN6.ge1) x hx))
 have e_i7 : ∀ x ∈ [g5], w.heap.size ≤ x := fun x hx => Nat.le_trans hC.size ((hN6.ge1) x hx)
 have hM : MS ([g5] ++ (M)) w4 := (MS.app hN6.ms (hM.chg hN6.chg))
 have hC := hC.trans hN6.chg (Ok.nil _ _)
 have hBg5 : Box w4 g5 (cA .u8 8 (List.replicate 8 (0 : Int))) := hN6.box
 refine stA (l := (cA .u8 8 t3.1)) ha rfl rfl rfl (by kernel_rfl) rfl rfl hBg5 rfl fun a w8 ha hb2 hc9 _ => ?_
 have o1 : Ok [g5] ([g5] ++ (M)) w4.heap.size := (fun _ h => .inl (ml h))
 have o2 : Ok ([g5] ++ (M)) ([g5] ++ (M)) w4.heap.size := (Ok.refl _ _)
 have hG := hG.chg hc9 o1 o2
 have hM : MS ([g5] ++ (M)) w8 := (hM.chg hc9)
 have hC := hC.trans hc9 (fun x h => .inr (e_i7 x h))
 have hBg5 : Box w8 g5 (cA .u8 8 t3.1) := hb2
 refine seg ha 1 [(1, .pointer (some ⟨g5, 0, none⟩)), (2, .int .i64 t3.2)] (by kernel_rfl) fun a ha => ?_
 refine hK2 _ _ ?_; try clear hK2 K2
 refine wp_seq_k fun K10 hK10 => ?_
 refine wp_region_lit ?_
 obtain ⟨t11, H11, H⟩ := bind_some H
 refine cl ha (by rfl) (by kernel_rfl) (by rfl) (by rfl) (by rfl) (rd_Make.walk w8 _ hM (0 : Int) (65536 : Int) (0 : Int) k _ H11) ?_
 rintro _ w11 ⟨rfl, hc11, hMn⟩ a ha
 have o1 : Ok [] ([g5] ++ (M)) w8.heap.size := Ok.nil _ _
 have o2 : Ok ([g5] ++ (M)) ([g5] ++ (M)) w8.heap.size := (Ok.refl _ _)
 have hG := hG.chg hc11 o1 o2
 have hBg5 := hBg5.chg hc11 (fun h => nomatch h)
 have hM : MS ([g5] ++ (M)) w11 := (hM.chg hc11)
 have hC := hC.trans hc11 (Ok.nil _ _)
 refine seg ha 3 [(1, .pointer (some ⟨g5, 0, none⟩)), (2, .int .i64 t3.2), (13, .agg (cA .u8 8 t11.1).toArray), (14, .int .i64 t11.2)] (by kernel_rfl) fun a ha => ?_
 refine al (cs := (cA .u8 8 (List.replicate 8 (0 : Int)))) (z := .agg (cA .u8 8 (List.replicate 8 (0 : Int))).toArray) ha (fun w => by kernel_rfl) rfl rfl rfl rfl fun a w12 g13 hN14 ha => ?_
 have o1 : Ok [] ([g5] ++ (M)) w11.heap.size := Ok.nil _ _
 have o2 : Ok ([g13] ++ ([g5] ++ (M))) ([g5] ++ (M)) w11.heap.size := (Ok.app (hN14.ok _) (Ok.refl _ _))
 have hG := hG.chg hN14.chg o1 o2
 have hBg5 := hBg5.chg hN14.chg (fun h => nomatch h)
 have p_i15_i7 : ∀ x ∈ [g13], x ∉ ([g5]) := fun x hx hy => absurd (hM x (ml hy)) (Nat.not_lt.2 ((hN14.ge1) x hx))
 have p_i15_M : ∀ x ∈ [g13], x ∉ M := fun x hx hy => absurd (hM x (mr (hy))) (Nat.not_lt.2 ((hN14.ge1) x hx))
 have e_i15 : ∀ x ∈ [g13], w.heap.size ≤ x := fun x hx => Nat.le_trans hC.size ((hN14.ge1) x hx)
 have hM : MS ([g13] ++ ([g5] ++ (M))) w12 := (MS.app hN14.ms (hM.chg hN14.chg))
 have hC := hC.trans hN14.chg (Ok.nil _ _)
 have hBg13 : Box w12 g13 (cA .u8 8 (List.replicate 8 (0 : Int))) := hN14.box
 refine stA (l := (cA .u8 8 t11.1)) ha rfl rfl rfl (by kernel_rfl) rfl rfl hBg13 rfl fun a w16 ha hb2 hc17 _ => ?_
 have o1 : Ok [g13] ([g13] ++ ([g5] ++ (M))) w12.heap.size := (fun _ h => .inl (ml h))
 have o2 : Ok ([g13] ++ ([g5] ++ (M))) ([g13] ++ ([g5] ++ (M))) w12.heap.size := (Ok.refl _ _)
 have hG := hG.chg hc17 o1 o2
 have hBg5 := hBg5.chg hc17 ((fun x (hx : x ∈ [g5]) (hy : x ∈ [g13]) => p_i15_i7 x hy hx) g5 (by simp))
 have hM : MS ([g13] ++ ([g5] ++ (M))) w16 := (hM.chg hc17)
 have hC := hC.trans hc17 (fun x h => .inr (e_i15 x h))
 have hBg13 : Box w16 g13 (cA .u8 8 t11.1) := hb2
 refine seg ha 1 [(1, .pointer (some ⟨g5, 0, none⟩)), (2, .int .i64 t3.2), (4, .int .i64 t11.2)] (by kernel_rfl) fun a ha => ?_
 refine hK10 _ _ ?_; try clear hK10 K10
 refine wp_seq_k fun K18 hK18 => ?_
 refine wp_region_lit ?_
 obtain ⟨t19, H19, H⟩ := bind_some H
 refine cl ha (by rfl) (by kernel_rfl) (by rfl) (by rfl) (by rfl) (rd_Parse.walk w16 _ hM hG ([48, 58, 54, 53, 48, 48, 48, 58, 55, 55] : List UInt8) k _ H19) ?_
 rintro _ w19 ⟨rfl, hc19, hMn⟩ a ha
 have o1 : Ok [] ([g13] ++ ([g5] ++ (M))) w16.heap.size := Ok.nil _ _
 have o2 : Ok ([g13] ++ ([g5] ++ (M))) ([g13] ++ ([g5] ++ (M))) w16.heap.size := (Ok.refl _ _)
 have hG := hG.chg hc19 o1 o2
 have hBg5 := hBg5.chg hc19 (fun h => nomatch h)
 have hBg13 := hBg13.chg hc19 (fun h => nomatch h)
 have hM : MS ([g13] ++ ([g5] ++ (M))) w19 := (hM.chg hc19)
 have hC := hC.trans hc19 (Ok.nil _ _)
 refine seg ha 3 [(1, .pointer (some ⟨g5, 0, none⟩)), (2, .int .i64 t3.2), (4, .int .i64 t11.2), (17, .agg (cA .u8 8 t19.1).toArray), (18, .int .i64 t19.2)] (by kernel_rfl) fun a ha => ?_
 refine al (cs := (cA .u8 8 (List.replicate 8 (0 : Int)))) (z := .agg (cA .u8 8 (List.replicate 8 (0 : Int))).toArray) ha (fun w => by kernel_rfl) rfl rfl rfl rfl fun a w20 g21 hN22 ha => ?_
 have o1 : Ok [] ([g13] ++ ([g5] ++ (M))) w19.heap.size := Ok.nil _ _
 have o2 : Ok ([g21] ++ ([g13] ++ ([g5] ++ (M)))) ([g13] ++ ([g5] ++ (M))) w19.heap.size := (Ok.app (hN22.ok _) (Ok.refl _ _))
 have hG := hG.chg hN22.chg o1 o2
 have hBg5 := hBg5.chg hN22.chg (fun h => nomatch h)
 have hBg13 := hBg13.chg hN22.chg (fun h => nomatch h)
 have p_i23_i15 : ∀ x ∈ [g21], x ∉ ([g13]) := fun x hx hy => absurd (hM x (ml hy)) (Nat.not_lt.2 ((hN22.ge1) x hx))
 have p_i23_i7 : ∀ x ∈ [g21], x ∉ ([g5]) := fun x hx hy => absurd (hM x (mr (ml hy))) (Nat.not_lt.2 ((hN22.ge1) x hx))
 have p_i23_M : ∀ x ∈ [g21], x ∉ M := fun x hx hy => absurd (hM x (mr (mr (hy)))) (Nat.not_lt.2 ((hN22.ge1) x hx))
 have e_i23 : ∀ x ∈ [g21], w.heap.size ≤ x := fun x hx => Nat.le_trans hC.size ((hN22.ge1) x hx)
 have hM : MS ([g21] ++ ([g13] ++ ([g5] ++ (M)))) w20 := (MS.app hN22.ms (hM.chg hN22.chg))
 have hC := hC.trans hN22.chg (Ok.nil _ _)
 have hBg21 : Box w20 g21 (cA .u8 8 (List.replicate 8 (0 : Int))) := hN22.box
 refine stA (l := (cA .u8 8 t19.1)) ha rfl rfl rfl (by kernel_rfl) rfl rfl hBg21 rfl fun a w24 ha hb2 hc25 _ => ?_
 have o1 : Ok [g21] ([g21] ++ ([g13] ++ ([g5] ++ (M)))) w20.heap.size := (fun _ h => .inl (ml h))
 have o2 : Ok ([g21] ++ ([g13] ++ ([g5] ++ (M)))) ([g21] ++ ([g13] ++ ([g5] ++ (M)))) w20.heap.size := (Ok.refl _ _)
 have hG := hG.chg hc25 o1 o2
 have hBg5 := hBg5.chg hc25 ((fun x (hx : x ∈ [g5]) (hy : x ∈ [g21]) => p_i23_i7 x hy hx) g5 (by simp))
 have hBg13 := hBg13.chg hc25 ((fun x (hx : x ∈ [g13]) (hy : x ∈ [g21]) => p_i23_i15 x hy hx) g13 (by simp))
 have hM : MS ([g21] ++ ([g13] ++ ([g5] ++ (M)))) w24 := (hM.chg hc25)
 have hC := hC.trans hc25 (fun x h => .inr (e_i23 x h))
 have hBg21 : Box w24 g21 (cA .u8 8 t19.1) := hb2
 refine seg ha 1 [(1, .pointer (some ⟨g5, 0, none⟩)), (2, .int .i64 t3.2), (4, .int .i64 t11.2), (5, .pointer (some ⟨g21, 0, none⟩)), (6, .int .i64 t19.2)] (by kernel_rfl) fun a ha => ?_
 refine hK18 _ _ ?_; try clear hK18 K18
 refine wp_seq_k fun K26 hK26 => ?_
 refine wp_region_lit ?_
 obtain ⟨s27, H27, H⟩ := bind_some H
 have J27 : ∀ (a : Act) (w27 : World), Has a Tryd.f7.ntmps [(0, .bool s27)] → (Box w27 g5 (cA .u8 8 t3.1)) → (Box w27 g13 (cA .u8 8 t11.1)) → (Box w27 g21 (cA .u8 8 t19.1)) → (GF w27 ([g21] ++ ([g13] ++ ([g5] ++ (M))))) → (Chg [] w w27) → (MS ([g21] ++ ([g13] ++ ([g5] ++ (M)))) w27) → K26 a w27 := by
  intro a w27 ha hBg5 hBg13 hBg21 hG hC hM
  refine hK26 _ _ ?_; try clear hK26 K26
  refine wp_ret ?_
  try simp only [Exit.then, Exit.inBlock]
  have o1 : Ok [] ([g21] ++ ([g13] ++ ([g5] ++ (M)))) w27.heap.size := Ok.nil _ _
  have o2 : Ok (M) ([g21] ++ ([g13] ++ ([g5] ++ (M)))) w27.heap.size := (fun _ h => .inl (mr (mr (mr (h)))))
  have hG := hG.chg (Chg.refl [] _) o1 o2
  have hBg5 := hBg5.chg (Chg.refl [] _) (fun h => nomatch h)
  have hBg13 := hBg13.chg (Chg.refl [] _) (fun h => nomatch h)
  have hBg21 := hBg21.chg (Chg.refl [] _) (fun h => nomatch h)
  have hM : MS (M) w27 := (fun x h => hM.chg (Chg.refl [] _) x (mr (mr (mr (h)))))
  have hC := hC.trans (Chg.refl [] _) (Ok.nil _ _)
  obtain rfl := Option.some.inj H
  refine rt1 ha rfl rfl ?_
  exact ⟨rfl, hC, hM⟩
 have H := H27
 refine seg ha 3 [(21, .bool (t3.2 == (0 : Int))), (1, .pointer (some ⟨g5, 0, none⟩)), (4, .int .i64 t11.2), (5, .pointer (some ⟨g21, 0, none⟩)), (6, .int .i64 t19.2)] (by kernel_rfl) fun a ha => ?_
 rcases Bool.eq_false_or_eq_true (t3.2 == (0 : Int)) with hb28 | hb28
 ·have ha := ha.lit hb28
  have H := ite_t hb28 H
  refine ldA (cs := (cA .u8 8 t3.1)) ha rfl (by kernel_rfl) rfl rfl rfl (cells_sub (Box.cells hBg5) (all := (cA .u8 8 t3.1)) [] [] (by kernel_rfl)) fun a ha => ?_
  obtain ⟨t29, H29, H⟩ := bind_some H
  refine cl ha (by rfl) (by kernel_rfl) (by rfl) (by rfl) (by rfl) (rd_Text.walk w24 _ hM hG t3.1 k _ H29) ?_
  rintro _ w29 ⟨rfl, hc29, hMn⟩ a ha
  have o1 : Ok [] ([g21] ++ ([g13] ++ ([g5] ++ (M)))) w24.heap.size := Ok.nil _ _
  have o2 : Ok ([g21] ++ ([g13] ++ ([g5] ++ (M)))) ([g21] ++ ([g13] ++ ([g5] ++ (M)))) w24.heap.size := (Ok.refl _ _)
  have hG := hG.chg hc29 o1 o2
  have hBg5 := hBg5.chg hc29 (fun h => nomatch h)
  have hBg13 := hBg13.chg hc29 (fun h => nomatch h)
  have hBg21 := hBg21.chg hc29 (fun h => nomatch h)
  have hM : MS ([g21] ++ ([g13] ++ ([g5] ++ (M)))) w29 := (hM.chg hc29)
  have hC := hC.trans hc29 (Ok.nil _ _)
  refine sgh ha 3 [2, 3, 0] [(26, .bool ((bstr t29).toList == (bstr ([49, 58, 49, 48, 46, 48, 46, 48, 46, 49, 58, 55] : List UInt8)).toList)), (4, .int .i64 t11.2), (5, .pointer (some ⟨g21, 0, none⟩)), (6, .int .i64 t19.2)] (by kernel_rfl) fun a ha => ?_
  rcases Bool.eq_false_or_eq_true ((bstr t29).toList == (bstr ([49, 58, 49, 48, 46, 48, 46, 48, 46, 49, 58, 55] : List UInt8)).toList) with hb30 | hb30
  ·have ha := ha.lit hb30
   have H := ite_t hb30 H
   refine sgh ha 4 [2, 2, 3, 0] [(30, .bool (t11.2 == (5 : Int))), (5, .pointer (some ⟨g21, 0, none⟩)), (6, .int .i64 t19.2)] (by kernel_rfl) fun a ha => ?_
   rcases Bool.eq_false_or_eq_true (t11.2 == (5 : Int)) with hb31 | hb31
   ·have ha := ha.lit hb31
    have H := ite_t hb31 H
    refine sgh ha 4 [2, 2, 3, 0] [(34, .bool (t19.2 == (0 : Int))), (5, .pointer (some ⟨g21, 0, none⟩))] (by kernel_rfl) fun a ha => ?_
    rcases Bool.eq_false_or_eq_true (t19.2 == (0 : Int)) with hb32 | hb32
    ·have ha := ha.lit hb32
     have H := ite_t hb32 H
     refine ldA (cs := (cA .u8 8 t19.1)) ha rfl (by kernel_rfl) rfl rfl rfl (cells_sub (Box.cells hBg21) (all := (cA .u8 8 t19.1)) [] [] (by kernel_rfl)) fun a ha => ?_
     refine opk (v := .agg (cA .u8 8 ([(0 : Int), (0 : Int), (253 : Int), (232 : Int), (0 : Int), (0 : Int), (0 : Int), (77 : Int)] : List Int)).toArray) ha rfl rfl rfl rfl rfl (fun w => by kernel_rfl) fun a ha => ?_
     refine hop (v := .bool (eqA 8 t19.1 ([(0 : Int), (0 : Int), (253 : Int), (232 : Int), (0 : Int), (0 : Int), (0 : Int), (77 : Int)] : List Int))) (w' := w29) ha rfl rfl rfl (eqs_run (r := (eqA 8 t19.1 ([(0 : Int), (0 : Int), (253 : Int), (232 : Int), (0 : Int), (0 : Int), (0 : Int), (77 : Int)] : List Int))) (m := 9) ha rfl rfl (by kernel_rfl) rfl (by kernel_rfl) _) fun a ha => ?_
     refine sgh ha 2 [3, 0] [(39, .bool (eqA 8 t19.1 ([(0 : Int), (0 : Int), (253 : Int), (232 : Int), (0 : Int), (0 : Int), (0 : Int), (77 : Int)] : List Int)))] (by kernel_rfl) fun a ha => ?_
     rcases Bool.eq_false_or_eq_true ((eqA 8 t19.1 ([(0 : Int), (0 : Int), (253 : Int), (232 : Int), (0 : Int), (0 : Int), (0 : Int), (77 : Int)] : List Int))) with hb33 | hb33
     ·have ha := ha.lit hb33
      have H := ite_t hb33 H
      refine opk (v := .agg (cA .u8 8 ([(0 : Int), (9 : Int), (0 : Int), (0 : Int), (0 : Int), (0 : Int), (0 : Int), (1 : Int)] : List Int)).toArray) ha rfl rfl rfl rfl rfl (fun w => by kernel_rfl) fun a ha => ?_
      obtain ⟨t34, H34, H⟩ := bind_some H
      refine cl ha (by rfl) (by kernel_rfl) (by rfl) (by rfl) (by rfl) (rd_Text.walk w29 _ hM hG ([(0 : Int), (9 : Int), (0 : Int), (0 : Int), (0 : Int), (0 : Int), (0 : Int), (1 : Int)] : List Int) k _ H34) ?_
      rintro _ w34 ⟨rfl, hc34, hMn⟩ a ha
      have o1 : Ok [] ([g21] ++ ([g13] ++ ([g5] ++ (M)))) w29.heap.size := Ok.nil _ _
      have o2 : Ok ([g21] ++ ([g13] ++ ([g5] ++ (M)))) ([g21] ++ ([g13] ++ ([g5] ++ (M)))) w29.heap.size := (Ok.refl _ _)
      have hG := hG.chg hc34 o1 o2
      have hBg5 := hBg5.chg hc34 (fun h => nomatch h)
      have hBg13 := hBg13.chg hc34 (fun h => nomatch h)
      have hBg21 := hBg21.chg hc34 (fun h => nomatch h)
      have hM : MS ([g21] ++ ([g13] ++ ([g5] ++ (M)))) w34 := (hM.chg hc34)
      have hC := hC.trans hc34 (Ok.nil _ _)
      refine sgh ha 3 [2, 3, 0] [(0, .bool ((bstr t34).toList == (bstr ([63, 58, 48, 48, 48, 57, 48, 48, 48, 48, 48, 48, 48, 48, 48, 48, 48, 49] : List UInt8)).toList))] (by kernel_rfl) fun a ha => ?_
      obtain rfl := Option.some.inj H
      exact J27 _ _ (ha.sel (by kernel_rfl)) hBg5 hBg13 hBg21 hG hC hM
     ·have ha := ha.lit hb33
      have H := ite_f hb33 H
      refine sgh ha 5 [1, 1, 1, 4, 0] [(0, .bool false)] (by kernel_rfl) fun a ha => ?_
      obtain rfl := Option.some.inj H
      exact J27 _ _ (ha.sel (by kernel_rfl)) hBg5 hBg13 hBg21 hG hC hM
    ·have ha := ha.lit hb32
     have H := ite_f hb32 H
     refine sgh ha 10 [1, 1, 1, 4, 0, 1, 1, 1, 4, 0] [(0, .bool false)] (by kernel_rfl) fun a ha => ?_
     obtain rfl := Option.some.inj H
     exact J27 _ _ (ha.sel (by kernel_rfl)) hBg5 hBg13 hBg21 hG hC hM
   ·have ha := ha.lit hb31
    have H := ite_f hb31 H
    refine sgh ha 14 [1, 1, 4, 0, 1, 1, 1, 4, 0, 1, 1, 1, 4, 0] [(0, .bool false)] (by kernel_rfl) fun a ha => ?_
    obtain rfl := Option.some.inj H
    exact J27 _ _ (ha.sel (by kernel_rfl)) hBg5 hBg13 hBg21 hG hC hM
  ·have ha := ha.lit hb30
   have H := ite_f hb30 H
   refine sgh ha 18 [1, 1, 4, 0, 1, 1, 4, 0, 1, 1, 1, 4, 0, 1, 1, 1, 4, 0] [(0, .bool false)] (by kernel_rfl) fun a ha => ?_
   obtain rfl := Option.some.inj H
   exact J27 _ _ (ha.sel (by kernel_rfl)) hBg5 hBg13 hBg21 hG hC hM
 ·have ha := ha.lit hb28
  have H := ite_f hb28 H
  refine sgh ha 23 [1, 1, 1, 4, 0, 1, 1, 4, 0, 1, 1, 4, 0, 1, 1, 1, 4, 0, 1, 1, 1, 4, 0] [(0, .bool false)] (by kernel_rfl) fun a ha => ?_
  obtain rfl := Option.some.inj H
  exact J27 _ _ (ha.sel (by kernel_rfl)) hBg5 hBg13 hBg21 hG hC hM
def vinerylaw03_RdBack.f (k : Nat) (a0 : List Int) (a1 : List UInt8) (a2 : Int) (a3 : Int) (a4 : Int) : Option (Bool) := (vinerylaw03_small.f k ).bind fun t8 => (rd_Text.f k a0).bind fun t10 => (rd_Parse.f k t10).bind fun t11 => ((if (t11.2 != (0 : Int)) = true then some (true : Bool) else some (!(eqA 8 t11.1 a0) : Bool))).bind fun s20 => (if s20 = true then some ((false : Bool)) else (rd_Parse.f k a1).bind fun t24 => ((if (t24.2 == (0 : Int)) = true then (rd_Text.f k t24.1).bind fun t67 => some (!((bstr t67).toList == (bstr a1).toList) : Bool) else some (false : Bool))).bind fun s33 => (if s33 = true then some ((false : Bool)) else (rd_Parts.f k a0).bind fun t37 => lv (S := Unit) ((if t37.2.2.2 = true then (rd_Make.f k t37.1 t37.2.1 t37.2.2.1).bind fun t54 => ((if (t54.2 != (0 : Int)) = true then some (true : Bool) else some (!(eqA 8 t54.1 a0) : Bool))).bind fun s62 => (if s62 = true then some (.inl (some ((false : Bool)))) else some (.inr ((() : Unit)))) else some (.inr ((() : Unit))))) fun s39 => (rd_Make.f k a2 a3 a4).bind fun t41 => (rd_Parts.f k t41.1).bind fun t49 => some ((if t8 = true then (if (t41.2 != (0 : Int)) = true then true else (if (if (if t49.2.2.2 = true then (t49.1 == a2) else false) = true then (t49.2.1 == a3) else false) = true then (t49.2.2.1 == a4) else false)) else false : Bool))))
set_option maxRecDepth 100000 in
theorem vinerylaw03_RdBack.walk (w : World) (M : List Nat) (hM : MS M w) (hG : GF w M) (a0 : List Int) (a1 : List UInt8) (a2 : Int) (a3 : Int) (a4 : Int) (k : Nat) (r : Bool) (H : vinerylaw03_RdBack.f k a0 a1 a2 a3 a4 = some r) :
    To Tryd.prog 3 [.agg (cA .u8 8 a0).toArray, .string (bstr a1), .int .i64 a2, .int .i64 a3, .int .i64 a4] w fun v w' => v = .bool r ∧ Chg [] w w' ∧ MS (M) w' := by
 unfold vinerylaw03_RdBack.f at H
 refine ent Tryd.func3 rfl [(0, .agg (cA .u8 8 a0).toArray), (1, .string (bstr a1)), (2, .int .i64 a2), (3, .int .i64 a3), (4, .int .i64 a4)] rfl (by rfl) fun a ha => ?_
 have hC : Chg [] w w := Chg.refl _ _
 refine wp_seq_k fun K1 hK1 => ?_
 refine wp_region_lit ?_
 refine bx (cs := (cA .u8 8 a0)) ha rfl rfl rfl rfl rfl fun a w2 g3 hN4 ha => ?_
 have hn6 := hN4.notin hM
 have o1 : Ok [] (M) w.heap.size := Ok.nil _ _
 have o2 : Ok (M) (M) w.heap.size := (Ok.refl _ _)
 have hG := hG.chg hN4.chg o1 o2
 have hM : MS (M) w2 := (hM.chg hN4.chg)
 have hC := hC.trans hN4.chg (Ok.nil _ _)
 have hE5 : ∀ j v, (cA .u8 8 a0)[j]? = some v → w2.cell? ⟨g3, 0 + j, none⟩ = some v := Box.cells (New.box hN4)
 refine seg ha 1 [(1, .string (bstr a1)), (2, .int .i64 a2), (3, .int .i64 a3), (4, .int .i64 a4), (5, .pointer (some ⟨g3, 0, none⟩))] (by kernel_rfl) fun a ha => ?_
 refine hK1 _ _ ?_; try clear hK1 K1
 refine wp_seq_k fun K7 hK7 => ?_
 refine wp_region_lit ?_
 obtain ⟨t8, H8, H⟩ := bind_some H
 refine cl ha (by rfl) (by kernel_rfl) (by rfl) (by rfl) (by rfl) (vinerylaw03_small.walk w2 _ hM hG  k _ H8) ?_
 rintro _ w8 ⟨rfl, hc8, hMn⟩ a ha
 have o1 : Ok [] (M) w2.heap.size := Ok.nil _ _
 have o2 : Ok (M) (M) w2.heap.size := (Ok.refl _ _)
 have hG := hG.chg hc8 o1 o2
 have q_hn6 : g3 ∉ M := fun h => (o2 g3 h).elim hn6 (fun h => absurd (lt_cell (hE5 0 _ rfl)) (Nat.not_lt.2 h))
 have hE5 : ∀ j v, (cA .u8 8 a0)[j]? = some v → w8.cell? ⟨g3, 0 + j, none⟩ = some v := fun j v hv => (cell_keep hc8 o1 hn6 (hE5 j v hv))
 have hn6 := q_hn6
 have hM : MS (M) w8 := (hM.chg hc8)
 have hC := hC.trans hc8 (Ok.nil _ _)
 refine seg ha 1 [(1, .string (bstr a1)), (2, .int .i64 a2), (3, .int .i64 a3), (4, .int .i64 a4), (5, .pointer (some ⟨g3, 0, none⟩)), (11, .bool t8)] (by kernel_rfl) fun a ha => ?_
 refine hK7 _ _ ?_; try clear hK7 K7
 refine wp_seq_k fun K9 hK9 => ?_
 refine wp_region_lit ?_
 refine ldA (cs := (cA .u8 8 a0)) ha rfl (by kernel_rfl) rfl rfl rfl (cells_sub hE5 (all := (cA .u8 8 a0)) [] [] (by kernel_rfl)) fun a ha => ?_
 obtain ⟨t10, H10, H⟩ := bind_some H
 refine cl ha (by rfl) (by kernel_rfl) (by rfl) (by rfl) (by rfl) (rd_Text.walk w8 _ hM hG a0 k _ H10) ?_
 rintro _ w10 ⟨rfl, hc10, hMn⟩ a ha
 have o1 : Ok [] (M) w8.heap.size := Ok.nil _ _
 have o2 : Ok (M) (M) w8.heap.size := (Ok.refl _ _)
 have hG := hG.chg hc10 o1 o2
 have q_hn6 : g3 ∉ M := fun h => (o2 g3 h).elim hn6 (fun h => absurd (lt_cell (hE5 0 _ rfl)) (Nat.not_lt.2 h))
 have hE5 : ∀ j v, (cA .u8 8 a0)[j]? = some v → w10.cell? ⟨g3, 0 + j, none⟩ = some v := fun j v hv => (cell_keep hc10 o1 hn6 (hE5 j v hv))
 have hn6 := q_hn6
 have hM : MS (M) w10 := (hM.chg hc10)
 have hC := hC.trans hc10 (Ok.nil _ _)
 obtain ⟨t11, H11, H⟩ := bind_some H
 refine cl ha (by rfl) (by kernel_rfl) (by rfl) (by rfl) (by rfl) (rd_Parse.walk w10 _ hM hG t10 k _ H11) ?_
 rintro _ w11 ⟨rfl, hc11, hMn⟩ a ha
 have o1 : Ok [] (M) w10.heap.size := Ok.nil _ _
 have o2 : Ok (M) (M) w10.heap.size := (Ok.refl _ _)
 have hG := hG.chg hc11 o1 o2
 have q_hn6 : g3 ∉ M := fun h => (o2 g3 h).elim hn6 (fun h => absurd (lt_cell (hE5 0 _ rfl)) (Nat.not_lt.2 h))
 have hE5 : ∀ j v, (cA .u8 8 a0)[j]? = some v → w11.cell? ⟨g3, 0 + j, none⟩ = some v := fun j v hv => (cell_keep hc11 o1 hn6 (hE5 j v hv))
 have hn6 := q_hn6
 have hM : MS (M) w11 := (hM.chg hc11)
 have hC := hC.trans hc11 (Ok.nil _ _)
 refine seg ha 3 [(1, .string (bstr a1)), (2, .int .i64 a2), (3, .int .i64 a3), (4, .int .i64 a4), (5, .pointer (some ⟨g3, 0, none⟩)), (11, .bool t8), (29, .agg (cA .u8 8 t11.1).toArray), (30, .int .i64 t11.2)] (by kernel_rfl) fun a ha => ?_
 refine al (cs := (cA .u8 8 (List.replicate 8 (0 : Int)))) (z := .agg (cA .u8 8 (List.replicate 8 (0 : Int))).toArray) ha (fun w => by kernel_rfl) rfl rfl rfl rfl fun a w12 g13 hN14 ha => ?_
 have o1 : Ok [] (M) w11.heap.size := Ok.nil _ _
 have o2 : Ok ([g13] ++ (M)) (M) w11.heap.size := (Ok.app (hN14.ok _) (Ok.refl _ _))
 have hG := hG.chg hN14.chg o1 o2
 have q_hn6 : g3 ∉ [g13] ++ (M) := fun h => (o2 g3 h).elim hn6 (fun h => absurd (lt_cell (hE5 0 _ rfl)) (Nat.not_lt.2 h))
 have hE5 : ∀ j v, (cA .u8 8 a0)[j]? = some v → w12.cell? ⟨g3, 0 + j, none⟩ = some v := fun j v hv => (cell_keep hN14.chg o1 hn6 (hE5 j v hv))
 have hn6 := q_hn6
 have p_i15_M : ∀ x ∈ [g13], x ∉ M := fun x hx hy => absurd (hM x (hy)) (Nat.not_lt.2 ((hN14.ge1) x hx))
 have e_i15 : ∀ x ∈ [g13], w.heap.size ≤ x := fun x hx => Nat.le_trans hC.size ((hN14.ge1) x hx)
 have hM : MS ([g13] ++ (M)) w12 := (MS.app hN14.ms (hM.chg hN14.chg))
 have hC := hC.trans hN14.chg (Ok.nil _ _)
 have hBg13 : Box w12 g13 (cA .u8 8 (List.replicate 8 (0 : Int))) := hN14.box
 refine stA (l := (cA .u8 8 t11.1)) ha rfl rfl rfl (by kernel_rfl) rfl rfl hBg13 rfl fun a w16 ha hb2 hc17 _ => ?_
 have o1 : Ok [g13] ([g13] ++ (M)) w12.heap.size := (fun _ h => .inl (ml h))
 have o2 : Ok ([g13] ++ (M)) ([g13] ++ (M)) w12.heap.size := (Ok.refl _ _)
 have hG := hG.chg hc17 o1 o2
 have q_hn6 : g3 ∉ [g13] ++ (M) := fun h => (o2 g3 h).elim hn6 (fun h => absurd (lt_cell (hE5 0 _ rfl)) (Nat.not_lt.2 h))
 have hE5 : ∀ j v, (cA .u8 8 a0)[j]? = some v → w16.cell? ⟨g3, 0 + j, none⟩ = some v := fun j v hv => (cell_keep hc17 o1 hn6 (hE5 j v hv))
 have hn6 := q_hn6
 have hM : MS ([g13] ++ (M)) w16 := (hM.chg hc17)
 have hC := hC.trans hc17 (fun x h => .inr (e_i15 x h))
 have hBg13 : Box w16 g13 (cA .u8 8 t11.1) := hb2
 refine seg ha 1 [(1, .string (bstr a1)), (2, .int .i64 a2), (3, .int .i64 a3), (4, .int .i64 a4), (5, .pointer (some ⟨g3, 0, none⟩)), (11, .bool t8), (12, .pointer (some ⟨g13, 0, none⟩)), (13, .int .i64 t11.2)] (by kernel_rfl) fun a ha => ?_
 refine hK9 _ _ ?_; try clear hK9 K9
 refine wp_seq_k fun K18 hK18 => ?_
 refine wp_seq_k fun K19 hK19 => ?_
 refine wp_region_lit ?_
 obtain ⟨s20, H20, H⟩ := bind_some H
 have J20 : ∀ (a : Act) (w20 : World), Has a Tryd.f3.ntmps [(1, .string (bstr a1)), (2, .int .i64 a2), (3, .int .i64 a3), (4, .int .i64 a4), (5, .pointer (some ⟨g3, 0, none⟩)), (11, .bool t8), (37, .bool s20)] → (Box w20 g13 (cA .u8 8 t11.1)) → (∀ j v, (cA .u8 8 a0)[j]? = some v → w20.cell? ⟨g3, 0 + j, none⟩ = some v) → (g3 ∉ ([g13] ++ (M))) → (GF w20 ([g13] ++ (M))) → (Chg [] w w20) → (MS ([g13] ++ (M)) w20) → K19 a w20 := by
  intro a w20 ha hBg13 hE5 hn6 hG hC hM
  refine hK19 _ _ ?_; try clear hK19 K19
  refine cnd ha rfl (fun hc21 => ?_) (fun hc21 => ?_)
  ·have H := ite_t hc21 H
   refine wp_seq_k fun K22 hK22 => ?_
   refine wp_region_lit ?_
   refine seg ha 1 [(10, .bool false)] (by kernel_rfl) fun a ha => ?_
   refine hK22 _ _ ?_; try clear hK22 K22
   refine wp_ret ?_
   try simp only [Exit.then, Exit.inBlock]
   have o1 : Ok [] ([g13] ++ (M)) w20.heap.size := Ok.nil _ _
   have o2 : Ok (M) ([g13] ++ (M)) w20.heap.size := (fun _ h => .inl (mr (h)))
   have hG := hG.chg (Chg.refl [] _) o1 o2
   have hBg13 := hBg13.chg (Chg.refl [] _) (fun h => nomatch h)
   have hM : MS (M) w20 := (fun x h => hM.chg (Chg.refl [] _) x (mr (h)))
   have hC := hC.trans (Chg.refl [] _) (Ok.nil _ _)
   obtain rfl := Option.some.inj H
   refine rt1 ha rfl rfl ?_
   exact ⟨rfl, hC, hM⟩
  ·have H := ite_f hc21 H
   refine wp_skip ?_
   refine hK18 _ _ ?_; try clear hK18 K18
   refine wp_seq_k fun K23 hK23 => ?_
   refine wp_region_lit ?_
   refine seg ha 1 [(1, .string (bstr a1)), (2, .int .i64 a2), (3, .int .i64 a3), (4, .int .i64 a4), (5, .pointer (some ⟨g3, 0, none⟩)), (11, .bool t8), (39, .string (bstr a1))] (by kernel_rfl) fun a ha => ?_
   obtain ⟨t24, H24, H⟩ := bind_some H
   refine cl ha (by rfl) (by kernel_rfl) (by rfl) (by rfl) (by rfl) (rd_Parse.walk w20 _ hM hG a1 k _ H24) ?_
   rintro _ w24 ⟨rfl, hc24, hMn⟩ a ha
   have o1 : Ok [] ([g13] ++ (M)) w20.heap.size := Ok.nil _ _
   have o2 : Ok ([g13] ++ (M)) ([g13] ++ (M)) w20.heap.size := (Ok.refl _ _)
   have hG := hG.chg hc24 o1 o2
   have hBg13 := hBg13.chg hc24 (fun h => nomatch h)
   have q_hn6 : g3 ∉ [g13] ++ (M) := fun h => (o2 g3 h).elim hn6 (fun h => absurd (lt_cell (hE5 0 _ rfl)) (Nat.not_lt.2 h))
   have hE5 : ∀ j v, (cA .u8 8 a0)[j]? = some v → w24.cell? ⟨g3, 0 + j, none⟩ = some v := fun j v hv => (cell_keep hc24 o1 hn6 (hE5 j v hv))
   have hn6 := q_hn6
   have hM : MS ([g13] ++ (M)) w24 := (hM.chg hc24)
   have hC := hC.trans hc24 (Ok.nil _ _)
   refine seg ha 3 [(1, .string (bstr a1)), (2, .int .i64 a2), (3, .int .i64 a3), (4, .int .i64 a4), (5, .pointer (some ⟨g3, 0, none⟩)), (11, .bool t8), (41, .agg (cA .u8 8 t24.1).toArray), (42, .int .i64 t24.2)] (by kernel_rfl) fun a ha => ?_
   refine al (cs := (cA .u8 8 (List.replicate 8 (0 : Int)))) (z := .agg (cA .u8 8 (List.replicate 8 (0 : Int))).toArray) ha (fun w => by kernel_rfl) rfl rfl rfl rfl fun a w25 g26 hN27 ha => ?_
   have o1 : Ok [] ([g13] ++ (M)) w24.heap.size := Ok.nil _ _
   have o2 : Ok ([g26] ++ ([g13] ++ (M))) ([g13] ++ (M)) w24.heap.size := (Ok.app (hN27.ok _) (Ok.refl _ _))
   have hG := hG.chg hN27.chg o1 o2
   have hBg13 := hBg13.chg hN27.chg (fun h => nomatch h)
   have q_hn6 : g3 ∉ [g26] ++ ([g13] ++ (M)) := fun h => (o2 g3 h).elim hn6 (fun h => absurd (lt_cell (hE5 0 _ rfl)) (Nat.not_lt.2 h))
   have hE5 : ∀ j v, (cA .u8 8 a0)[j]? = some v → w25.cell? ⟨g3, 0 + j, none⟩ = some v := fun j v hv => (cell_keep hN27.chg o1 hn6 (hE5 j v hv))
   have hn6 := q_hn6
   have p_i28_i15 : ∀ x ∈ [g26], x ∉ ([g13]) := fun x hx hy => absurd (hM x (ml hy)) (Nat.not_lt.2 ((hN27.ge1) x hx))
   have p_i28_M : ∀ x ∈ [g26], x ∉ M := fun x hx hy => absurd (hM x (mr (hy))) (Nat.not_lt.2 ((hN27.ge1) x hx))
   have e_i28 : ∀ x ∈ [g26], w.heap.size ≤ x := fun x hx => Nat.le_trans hC.size ((hN27.ge1) x hx)
   have hM : MS ([g26] ++ ([g13] ++ (M))) w25 := (MS.app hN27.ms (hM.chg hN27.chg))
   have hC := hC.trans hN27.chg (Ok.nil _ _)
   have hBg26 : Box w25 g26 (cA .u8 8 (List.replicate 8 (0 : Int))) := hN27.box
   refine stA (l := (cA .u8 8 t24.1)) ha rfl rfl rfl (by kernel_rfl) rfl rfl hBg26 rfl fun a w29 ha hb2 hc30 _ => ?_
   have o1 : Ok [g26] ([g26] ++ ([g13] ++ (M))) w25.heap.size := (fun _ h => .inl (ml h))
   have o2 : Ok ([g26] ++ ([g13] ++ (M))) ([g26] ++ ([g13] ++ (M))) w25.heap.size := (Ok.refl _ _)
   have hG := hG.chg hc30 o1 o2
   have hBg13 := hBg13.chg hc30 ((fun x (hx : x ∈ [g13]) (hy : x ∈ [g26]) => p_i28_i15 x hy hx) g13 (by simp))
   have q_hn6 : g3 ∉ [g26] ++ ([g13] ++ (M)) := fun h => (o2 g3 h).elim hn6 (fun h => absurd (lt_cell (hE5 0 _ rfl)) (Nat.not_lt.2 h))
   have hE5 : ∀ j v, (cA .u8 8 a0)[j]? = some v → w29.cell? ⟨g3, 0 + j, none⟩ = some v := fun j v hv => (cell_keep hc30 o1 hn6 (hE5 j v hv))
   have hn6 := q_hn6
   have hM : MS ([g26] ++ ([g13] ++ (M))) w29 := (hM.chg hc30)
   have hC := hC.trans hc30 (fun x h => .inr (e_i28 x h))
   have hBg26 : Box w29 g26 (cA .u8 8 t24.1) := hb2
   refine seg ha 1 [(1, .string (bstr a1)), (2, .int .i64 a2), (3, .int .i64 a3), (4, .int .i64 a4), (5, .pointer (some ⟨g3, 0, none⟩)), (11, .bool t8), (14, .pointer (some ⟨g26, 0, none⟩)), (15, .int .i64 t24.2)] (by kernel_rfl) fun a ha => ?_
   refine hK23 _ _ ?_; try clear hK23 K23
   refine wp_seq_k fun K31 hK31 => ?_
   refine wp_seq_k fun K32 hK32 => ?_
   refine wp_region_lit ?_
   obtain ⟨s33, H33, H⟩ := bind_some H
   have J33 : ∀ (a : Act) (w33 : World), Has a Tryd.f3.ntmps [(2, .int .i64 a2), (3, .int .i64 a3), (4, .int .i64 a4), (5, .pointer (some ⟨g3, 0, none⟩)), (11, .bool t8), (50, .bool s33)] → (Box w33 g13 (cA .u8 8 t11.1)) → (Box w33 g26 (cA .u8 8 t24.1)) → (∀ j v, (cA .u8 8 a0)[j]? = some v → w33.cell? ⟨g3, 0 + j, none⟩ = some v) → (g3 ∉ ([g26] ++ ([g13] ++ (M)))) → (GF w33 ([g26] ++ ([g13] ++ (M)))) → (Chg [] w w33) → (MS ([g26] ++ ([g13] ++ (M))) w33) → K32 a w33 := by
    intro a w33 ha hBg13 hBg26 hE5 hn6 hG hC hM
    refine hK32 _ _ ?_; try clear hK32 K32
    refine cnd ha rfl (fun hc34 => ?_) (fun hc34 => ?_)
    ·have H := ite_t hc34 H
     refine wp_seq_k fun K35 hK35 => ?_
     refine wp_region_lit ?_
     refine seg ha 1 [(10, .bool false)] (by kernel_rfl) fun a ha => ?_
     refine hK35 _ _ ?_; try clear hK35 K35
     refine wp_ret ?_
     try simp only [Exit.then, Exit.inBlock]
     have o1 : Ok [] ([g26] ++ ([g13] ++ (M))) w33.heap.size := Ok.nil _ _
     have o2 : Ok (M) ([g26] ++ ([g13] ++ (M))) w33.heap.size := (fun _ h => .inl (mr (mr (h))))
     have hG := hG.chg (Chg.refl [] _) o1 o2
     have hBg13 := hBg13.chg (Chg.refl [] _) (fun h => nomatch h)
     have hBg26 := hBg26.chg (Chg.refl [] _) (fun h => nomatch h)
     have hM : MS (M) w33 := (fun x h => hM.chg (Chg.refl [] _) x (mr (mr (h))))
     have hC := hC.trans (Chg.refl [] _) (Ok.nil _ _)
     obtain rfl := Option.some.inj H
     refine rt1 ha rfl rfl ?_
     exact ⟨rfl, hC, hM⟩
    ·have H := ite_f hc34 H
     refine wp_skip ?_
     refine hK31 _ _ ?_; try clear hK31 K31
     refine wp_seq_k fun K36 hK36 => ?_
     refine wp_region_lit ?_
     refine ldA (cs := (cA .u8 8 a0)) ha rfl (by kernel_rfl) rfl rfl rfl (cells_sub hE5 (all := (cA .u8 8 a0)) [] [] (by kernel_rfl)) fun a ha => ?_
     obtain ⟨t37, H37, H⟩ := bind_some H
     refine cl ha (by rfl) (by kernel_rfl) (by rfl) (by rfl) (by rfl) (rd_Parts.walk w33 _ hM a0 k _ H37) ?_
     rintro _ w37 ⟨rfl, hc37, hMn⟩ a ha
     have o1 : Ok [] ([g26] ++ ([g13] ++ (M))) w33.heap.size := Ok.nil _ _
     have o2 : Ok ([g26] ++ ([g13] ++ (M))) ([g26] ++ ([g13] ++ (M))) w33.heap.size := (Ok.refl _ _)
     have hG := hG.chg hc37 o1 o2
     have hBg13 := hBg13.chg hc37 (fun h => nomatch h)
     have hBg26 := hBg26.chg hc37 (fun h => nomatch h)
     have q_hn6 : g3 ∉ [g26] ++ ([g13] ++ (M)) := fun h => (o2 g3 h).elim hn6 (fun h => absurd (lt_cell (hE5 0 _ rfl)) (Nat.not_lt.2 h))
     have hE5 : ∀ j v, (cA .u8 8 a0)[j]? = some v → w37.cell? ⟨g3, 0 + j, none⟩ = some v := fun j v hv => (cell_keep hc37 o1 hn6 (hE5 j v hv))
     have hn6 := q_hn6
     have hM : MS ([g26] ++ ([g13] ++ (M))) w37 := (hM.chg hc37)
     have hC := hC.trans hc37 (Ok.nil _ _)
     refine seg ha 9 [(2, .int .i64 a2), (3, .int .i64 a3), (4, .int .i64 a4), (5, .pointer (some ⟨g3, 0, none⟩)), (11, .bool t8), (16, .int .i64 t37.1), (17, .int .i64 t37.2.1), (18, .int .i64 t37.2.2.1), (19, .bool t37.2.2.2)] (by kernel_rfl) fun a ha => ?_
     refine hK36 _ _ ?_; try clear hK36 K36
     refine wp_seq_k fun K38 hK38 => ?_
     obtain ⟨s39o, H39, H⟩ := lv_some H
     have J39 : ∀ (s39 : Unit) (a : Act) (w39 : World), s39o = .inr s39 → Has a Tryd.f3.ntmps [(2, .int .i64 a2), (3, .int .i64 a3), (4, .int .i64 a4), (11, .bool t8)] → (Box w39 g13 (cA .u8 8 t11.1)) → (Box w39 g26 (cA .u8 8 t24.1)) → (GF w39 ([g26] ++ ([g13] ++ (M)))) → (Chg [] w w39) → (MS ([g26] ++ ([g13] ++ (M))) w39) → K38 a w39 := by
      intro s39 a w39 hs ha hBg13 hBg26 hG hC hM
      subst hs
      refine hK38 _ _ ?_; try clear hK38 K38
      refine wp_seq_k fun K40 hK40 => ?_
      refine wp_region_lit ?_
      refine seg ha 3 [(2, .int .i64 a2), (3, .int .i64 a3), (4, .int .i64 a4), (11, .bool t8), (74, .int .i64 a2), (75, .int .i64 a3), (76, .int .i64 a4)] (by kernel_rfl) fun a ha => ?_
      obtain ⟨t41, H41, H⟩ := bind_some H
      refine cl ha (by rfl) (by kernel_rfl) (by rfl) (by rfl) (by rfl) (rd_Make.walk w39 _ hM a2 a3 a4 k _ H41) ?_
      rintro _ w41 ⟨rfl, hc41, hMn⟩ a ha
      have o1 : Ok [] ([g26] ++ ([g13] ++ (M))) w39.heap.size := Ok.nil _ _
      have o2 : Ok ([g26] ++ ([g13] ++ (M))) ([g26] ++ ([g13] ++ (M))) w39.heap.size := (Ok.refl _ _)
      have hG := hG.chg hc41 o1 o2
      have hBg13 := hBg13.chg hc41 (fun h => nomatch h)
      have hBg26 := hBg26.chg hc41 (fun h => nomatch h)
      have hM : MS ([g26] ++ ([g13] ++ (M))) w41 := (hM.chg hc41)
      have hC := hC.trans hc41 (Ok.nil _ _)
      refine seg ha 3 [(2, .int .i64 a2), (3, .int .i64 a3), (4, .int .i64 a4), (11, .bool t8), (78, .agg (cA .u8 8 t41.1).toArray), (79, .int .i64 t41.2)] (by kernel_rfl) fun a ha => ?_
      refine al (cs := (cA .u8 8 (List.replicate 8 (0 : Int)))) (z := .agg (cA .u8 8 (List.replicate 8 (0 : Int))).toArray) ha (fun w => by kernel_rfl) rfl rfl rfl rfl fun a w42 g43 hN44 ha => ?_
      have o1 : Ok [] ([g26] ++ ([g13] ++ (M))) w41.heap.size := Ok.nil _ _
      have o2 : Ok ([g43] ++ ([g26] ++ ([g13] ++ (M)))) ([g26] ++ ([g13] ++ (M))) w41.heap.size := (Ok.app (hN44.ok _) (Ok.refl _ _))
      have hG := hG.chg hN44.chg o1 o2
      have hBg13 := hBg13.chg hN44.chg (fun h => nomatch h)
      have hBg26 := hBg26.chg hN44.chg (fun h => nomatch h)
      have p_i45_i28 : ∀ x ∈ [g43], x ∉ ([g26]) := fun x hx hy => absurd (hM x (ml hy)) (Nat.not_lt.2 ((hN44.ge1) x hx))
      have p_i45_i15 : ∀ x ∈ [g43], x ∉ ([g13]) := fun x hx hy => absurd (hM x (mr (ml hy))) (Nat.not_lt.2 ((hN44.ge1) x hx))
      have p_i45_M : ∀ x ∈ [g43], x ∉ M := fun x hx hy => absurd (hM x (mr (mr (hy)))) (Nat.not_lt.2 ((hN44.ge1) x hx))
      have e_i45 : ∀ x ∈ [g43], w.heap.size ≤ x := fun x hx => Nat.le_trans hC.size ((hN44.ge1) x hx)
      have hM : MS ([g43] ++ ([g26] ++ ([g13] ++ (M)))) w42 := (MS.app hN44.ms (hM.chg hN44.chg))
      have hC := hC.trans hN44.chg (Ok.nil _ _)
      have hBg43 : Box w42 g43 (cA .u8 8 (List.replicate 8 (0 : Int))) := hN44.box
      refine stA (l := (cA .u8 8 t41.1)) ha rfl rfl rfl (by kernel_rfl) rfl rfl hBg43 rfl fun a w46 ha hb2 hc47 _ => ?_
      have o1 : Ok [g43] ([g43] ++ ([g26] ++ ([g13] ++ (M)))) w42.heap.size := (fun _ h => .inl (ml h))
      have o2 : Ok ([g43] ++ ([g26] ++ ([g13] ++ (M)))) ([g43] ++ ([g26] ++ ([g13] ++ (M)))) w42.heap.size := (Ok.refl _ _)
      have hG := hG.chg hc47 o1 o2
      have hBg13 := hBg13.chg hc47 ((fun x (hx : x ∈ [g13]) (hy : x ∈ [g43]) => p_i45_i15 x hy hx) g13 (by simp))
      have hBg26 := hBg26.chg hc47 ((fun x (hx : x ∈ [g26]) (hy : x ∈ [g43]) => p_i45_i28 x hy hx) g26 (by simp))
      have hM : MS ([g43] ++ ([g26] ++ ([g13] ++ (M)))) w46 := (hM.chg hc47)
      have hC := hC.trans hc47 (fun x h => .inr (e_i45 x h))
      have hBg43 : Box w46 g43 (cA .u8 8 t41.1) := hb2
      refine seg ha 1 [(2, .int .i64 a2), (3, .int .i64 a3), (4, .int .i64 a4), (11, .bool t8), (22, .pointer (some ⟨g43, 0, none⟩)), (23, .int .i64 t41.2)] (by kernel_rfl) fun a ha => ?_
      refine hK40 _ _ ?_; try clear hK40 K40
      refine wp_seq_k fun K48 hK48 => ?_
      refine wp_region_lit ?_
      refine ldA (cs := (cA .u8 8 t41.1)) ha rfl (by kernel_rfl) rfl rfl rfl (cells_sub (Box.cells hBg43) (all := (cA .u8 8 t41.1)) [] [] (by kernel_rfl)) fun a ha => ?_
      obtain ⟨t49, H49, H⟩ := bind_some H
      refine cl ha (by rfl) (by kernel_rfl) (by rfl) (by rfl) (by rfl) (rd_Parts.walk w46 _ hM t41.1 k _ H49) ?_
      rintro _ w49 ⟨rfl, hc49, hMn⟩ a ha
      have o1 : Ok [] ([g43] ++ ([g26] ++ ([g13] ++ (M)))) w46.heap.size := Ok.nil _ _
      have o2 : Ok ([g43] ++ ([g26] ++ ([g13] ++ (M)))) ([g43] ++ ([g26] ++ ([g13] ++ (M)))) w46.heap.size := (Ok.refl _ _)
      have hG := hG.chg hc49 o1 o2
      have hBg13 := hBg13.chg hc49 (fun h => nomatch h)
      have hBg26 := hBg26.chg hc49 (fun h => nomatch h)
      have hBg43 := hBg43.chg hc49 (fun h => nomatch h)
      have hM : MS ([g43] ++ ([g26] ++ ([g13] ++ (M)))) w49 := (hM.chg hc49)
      have hC := hC.trans hc49 (Ok.nil _ _)
      refine seg ha 9 [(2, .int .i64 a2), (3, .int .i64 a3), (4, .int .i64 a4), (11, .bool t8), (16, .int .i64 t49.1), (17, .int .i64 t49.2.1), (18, .int .i64 t49.2.2.1), (19, .bool t49.2.2.2), (23, .int .i64 t41.2)] (by kernel_rfl) fun a ha => ?_
      refine hK48 _ _ ?_; try clear hK48 K48
      refine wp_seq_k fun K50 hK50 => ?_
      refine wp_region_lit ?_
      refine seg ha 24 [(10, .bool (if t8 = true then (if (t41.2 != (0 : Int)) = true then true else (if (if (if t49.2.2.2 = true then (t49.1 == a2) else false) = true then (t49.2.1 == a3) else false) = true then (t49.2.2.1 == a4) else false)) else false))] (by kernel_rfl) fun a ha => ?_
      refine hK50 _ _ ?_; try clear hK50 K50
      refine wp_ret ?_
      try simp only [Exit.then, Exit.inBlock]
      have o1 : Ok [] ([g43] ++ ([g26] ++ ([g13] ++ (M)))) w49.heap.size := Ok.nil _ _
      have o2 : Ok (M) ([g43] ++ ([g26] ++ ([g13] ++ (M)))) w49.heap.size := (fun _ h => .inl (mr (mr (mr (h)))))
      have hG := hG.chg (Chg.refl [] _) o1 o2
      have hBg13 := hBg13.chg (Chg.refl [] _) (fun h => nomatch h)
      have hBg26 := hBg26.chg (Chg.refl [] _) (fun h => nomatch h)
      have hBg43 := hBg43.chg (Chg.refl [] _) (fun h => nomatch h)
      have hM : MS (M) w49 := (fun x h => hM.chg (Chg.refl [] _) x (mr (mr (mr (h)))))
      have hC := hC.trans (Chg.refl [] _) (Ok.nil _ _)
      obtain rfl := Option.some.inj H
      refine rt1 ha rfl rfl ?_
      exact ⟨rfl, hC, hM⟩
     have Hc39 := H
     have H := H39
     refine wp_seq_k fun K51 hK51 => ?_
     refine wp_region_lit ?_
     refine seg ha 1 [(2, .int .i64 a2), (3, .int .i64 a3), (4, .int .i64 a4), (5, .pointer (some ⟨g3, 0, none⟩)), (11, .bool t8), (16, .int .i64 t37.1), (17, .int .i64 t37.2.1), (18, .int .i64 t37.2.2.1), (58, .bool t37.2.2.2)] (by kernel_rfl) fun a ha => ?_
     refine hK51 _ _ ?_; try clear hK51 K51
     refine cnd ha rfl (fun hc52 => ?_) (fun hc52 => ?_)
     ·have H := ite_t hc52 H
      refine wp_seq_k fun K53 hK53 => ?_
      refine wp_region_lit ?_
      refine seg ha 3 [(2, .int .i64 a2), (3, .int .i64 a3), (4, .int .i64 a4), (5, .pointer (some ⟨g3, 0, none⟩)), (11, .bool t8), (60, .int .i64 t37.1), (61, .int .i64 t37.2.1), (62, .int .i64 t37.2.2.1)] (by kernel_rfl) fun a ha => ?_
      obtain ⟨t54, H54, H⟩ := bind_some H
      refine cl ha (by rfl) (by kernel_rfl) (by rfl) (by rfl) (by rfl) (rd_Make.walk w37 _ hM t37.1 t37.2.1 t37.2.2.1 k _ H54) ?_
      rintro _ w54 ⟨rfl, hc54, hMn⟩ a ha
      have o1 : Ok [] ([g26] ++ ([g13] ++ (M))) w37.heap.size := Ok.nil _ _
      have o2 : Ok ([g26] ++ ([g13] ++ (M))) ([g26] ++ ([g13] ++ (M))) w37.heap.size := (Ok.refl _ _)
      have hG := hG.chg hc54 o1 o2
      have hBg13 := hBg13.chg hc54 (fun h => nomatch h)
      have hBg26 := hBg26.chg hc54 (fun h => nomatch h)
      have q_hn6 : g3 ∉ [g26] ++ ([g13] ++ (M)) := fun h => (o2 g3 h).elim hn6 (fun h => absurd (lt_cell (hE5 0 _ rfl)) (Nat.not_lt.2 h))
      have hE5 : ∀ j v, (cA .u8 8 a0)[j]? = some v → w54.cell? ⟨g3, 0 + j, none⟩ = some v := fun j v hv => (cell_keep hc54 o1 hn6 (hE5 j v hv))
      have hn6 := q_hn6
      have hM : MS ([g26] ++ ([g13] ++ (M))) w54 := (hM.chg hc54)
      have hC := hC.trans hc54 (Ok.nil _ _)
      refine seg ha 3 [(2, .int .i64 a2), (3, .int .i64 a3), (4, .int .i64 a4), (5, .pointer (some ⟨g3, 0, none⟩)), (11, .bool t8), (64, .agg (cA .u8 8 t54.1).toArray), (65, .int .i64 t54.2)] (by kernel_rfl) fun a ha => ?_
      refine al (cs := (cA .u8 8 (List.replicate 8 (0 : Int)))) (z := .agg (cA .u8 8 (List.replicate 8 (0 : Int))).toArray) ha (fun w => by kernel_rfl) rfl rfl rfl rfl fun a w55 g56 hN57 ha => ?_
      have o1 : Ok [] ([g26] ++ ([g13] ++ (M))) w54.heap.size := Ok.nil _ _
      have o2 : Ok ([g56] ++ ([g26] ++ ([g13] ++ (M)))) ([g26] ++ ([g13] ++ (M))) w54.heap.size := (Ok.app (hN57.ok _) (Ok.refl _ _))
      have hG := hG.chg hN57.chg o1 o2
      have hBg13 := hBg13.chg hN57.chg (fun h => nomatch h)
      have hBg26 := hBg26.chg hN57.chg (fun h => nomatch h)
      have q_hn6 : g3 ∉ [g56] ++ ([g26] ++ ([g13] ++ (M))) := fun h => (o2 g3 h).elim hn6 (fun h => absurd (lt_cell (hE5 0 _ rfl)) (Nat.not_lt.2 h))
      have hE5 : ∀ j v, (cA .u8 8 a0)[j]? = some v → w55.cell? ⟨g3, 0 + j, none⟩ = some v := fun j v hv => (cell_keep hN57.chg o1 hn6 (hE5 j v hv))
      have hn6 := q_hn6
      have p_i58_i28 : ∀ x ∈ [g56], x ∉ ([g26]) := fun x hx hy => absurd (hM x (ml hy)) (Nat.not_lt.2 ((hN57.ge1) x hx))
      have p_i58_i15 : ∀ x ∈ [g56], x ∉ ([g13]) := fun x hx hy => absurd (hM x (mr (ml hy))) (Nat.not_lt.2 ((hN57.ge1) x hx))
      have p_i58_M : ∀ x ∈ [g56], x ∉ M := fun x hx hy => absurd (hM x (mr (mr (hy)))) (Nat.not_lt.2 ((hN57.ge1) x hx))
      have e_i58 : ∀ x ∈ [g56], w.heap.size ≤ x := fun x hx => Nat.le_trans hC.size ((hN57.ge1) x hx)
      have hM : MS ([g56] ++ ([g26] ++ ([g13] ++ (M)))) w55 := (MS.app hN57.ms (hM.chg hN57.chg))
      have hC := hC.trans hN57.chg (Ok.nil _ _)
      have hBg56 : Box w55 g56 (cA .u8 8 (List.replicate 8 (0 : Int))) := hN57.box
      refine stA (l := (cA .u8 8 t54.1)) ha rfl rfl rfl (by kernel_rfl) rfl rfl hBg56 rfl fun a w59 ha hb2 hc60 _ => ?_
      have o1 : Ok [g56] ([g56] ++ ([g26] ++ ([g13] ++ (M)))) w55.heap.size := (fun _ h => .inl (ml h))
      have o2 : Ok ([g56] ++ ([g26] ++ ([g13] ++ (M)))) ([g56] ++ ([g26] ++ ([g13] ++ (M)))) w55.heap.size := (Ok.refl _ _)
      have hG := hG.chg hc60 o1 o2
      have hBg13 := hBg13.chg hc60 ((fun x (hx : x ∈ [g13]) (hy : x ∈ [g56]) => p_i58_i15 x hy hx) g13 (by simp))
      have hBg26 := hBg26.chg hc60 ((fun x (hx : x ∈ [g26]) (hy : x ∈ [g56]) => p_i58_i28 x hy hx) g26 (by simp))
      have q_hn6 : g3 ∉ [g56] ++ ([g26] ++ ([g13] ++ (M))) := fun h => (o2 g3 h).elim hn6 (fun h => absurd (lt_cell (hE5 0 _ rfl)) (Nat.not_lt.2 h))
      have hE5 : ∀ j v, (cA .u8 8 a0)[j]? = some v → w59.cell? ⟨g3, 0 + j, none⟩ = some v := fun j v hv => (cell_keep hc60 o1 hn6 (hE5 j v hv))
      have hn6 := q_hn6
      have hM : MS ([g56] ++ ([g26] ++ ([g13] ++ (M)))) w59 := (hM.chg hc60)
      have hC := hC.trans hc60 (fun x h => .inr (e_i58 x h))
      have hBg56 : Box w59 g56 (cA .u8 8 t54.1) := hb2
      refine seg ha 1 [(2, .int .i64 a2), (3, .int .i64 a3), (4, .int .i64 a4), (5, .pointer (some ⟨g3, 0, none⟩)), (11, .bool t8), (20, .pointer (some ⟨g56, 0, none⟩)), (21, .int .i64 t54.2)] (by kernel_rfl) fun a ha => ?_
      refine hK53 _ _ ?_; try clear hK53 K53
      refine wp_seq_k fun K61 hK61 => ?_
      refine wp_region_lit ?_
      obtain ⟨s62, H62, H⟩ := bind_some H
      have J62 : ∀ (a : Act) (w62 : World), Has a Tryd.f3.ntmps [(2, .int .i64 a2), (3, .int .i64 a3), (4, .int .i64 a4), (11, .bool t8), (72, .bool s62)] → (Box w62 g13 (cA .u8 8 t11.1)) → (Box w62 g26 (cA .u8 8 t24.1)) → (Box w62 g56 (cA .u8 8 t54.1)) → (GF w62 ([g56] ++ ([g26] ++ ([g13] ++ (M))))) → (Chg [] w w62) → (MS ([g56] ++ ([g26] ++ ([g13] ++ (M)))) w62) → K61 a w62 := by
       intro a w62 ha hBg13 hBg26 hBg56 hG hC hM
       refine hK61 _ _ ?_; try clear hK61 K61
       refine cnd ha rfl (fun hc63 => ?_) (fun hc63 => ?_)
       ·have H := ite_t hc63 H
        refine wp_seq_k fun K64 hK64 => ?_
        refine wp_region_lit ?_
        refine seg ha 1 [(10, .bool false)] (by kernel_rfl) fun a ha => ?_
        refine hK64 _ _ ?_; try clear hK64 K64
        refine wp_ret ?_
        obtain rfl := Option.some.inj H
        have H := Hc39
        try simp only [Exit.then, Exit.inBlock]
        have o1 : Ok [] ([g56] ++ ([g26] ++ ([g13] ++ (M)))) w62.heap.size := Ok.nil _ _
        have o2 : Ok (M) ([g56] ++ ([g26] ++ ([g13] ++ (M)))) w62.heap.size := (fun _ h => .inl (mr (mr (mr (h)))))
        have hG := hG.chg (Chg.refl [] _) o1 o2
        have hBg13 := hBg13.chg (Chg.refl [] _) (fun h => nomatch h)
        have hBg26 := hBg26.chg (Chg.refl [] _) (fun h => nomatch h)
        have hBg56 := hBg56.chg (Chg.refl [] _) (fun h => nomatch h)
        have hM : MS (M) w62 := (fun x h => hM.chg (Chg.refl [] _) x (mr (mr (mr (h)))))
        have hC := hC.trans (Chg.refl [] _) (Ok.nil _ _)
        obtain rfl := Option.some.inj H
        refine rt1 ha rfl rfl ?_
        exact ⟨rfl, hC, hM⟩
       ·have H := ite_f hc63 H
        refine wp_skip ?_
        obtain rfl := Option.some.inj H
        have o1 : Ok [] ([g56] ++ ([g26] ++ ([g13] ++ (M)))) w62.heap.size := Ok.nil _ _
        have o2 : Ok ([g26] ++ ([g13] ++ (M))) ([g56] ++ ([g26] ++ ([g13] ++ (M)))) w62.heap.size := (fun _ h => .inl (mr (h)))
        have hG := hG.chg (Chg.refl [] _) o1 o2
        have hBg13 := hBg13.chg (Chg.refl [] _) (fun h => nomatch h)
        have hBg26 := hBg26.chg (Chg.refl [] _) (fun h => nomatch h)
        have hBg56 := hBg56.chg (Chg.refl [] _) (fun h => nomatch h)
        have hM : MS ([g26] ++ ([g13] ++ (M))) w62 := (fun x h => hM.chg (Chg.refl [] _) x (mr (h)))
        have hC := hC.trans (Chg.refl [] _) (Ok.nil _ _)
        exact J39 _ _ _ rfl (ha.sel (by kernel_rfl)) hBg13 hBg26 hG hC hM
      have H := H62
      refine seg ha 3 [(68, .bool (t54.2 != (0 : Int))), (2, .int .i64 a2), (3, .int .i64 a3), (4, .int .i64 a4), (5, .pointer (some ⟨g3, 0, none⟩)), (11, .bool t8), (20, .pointer (some ⟨g56, 0, none⟩))] (by kernel_rfl) fun a ha => ?_
      rcases Bool.eq_false_or_eq_true (t54.2 != (0 : Int)) with hb65 | hb65
      ·have ha := ha.lit hb65
       have H := ite_t hb65 H
       refine sgh ha 4 [1, 1, 1, 3] [(2, .int .i64 a2), (3, .int .i64 a3), (4, .int .i64 a4), (11, .bool t8), (72, .bool true)] (by kernel_rfl) fun a ha => ?_
       obtain rfl := Option.some.inj H
       exact J62 _ _ (ha.sel (by kernel_rfl)) hBg13 hBg26 hBg56 hG hC hM
      ·have ha := ha.lit hb65
       have H := ite_f hb65 H
       refine ldA (cs := (cA .u8 8 t54.1)) ha rfl (by kernel_rfl) rfl rfl rfl (cells_sub (Box.cells hBg56) (all := (cA .u8 8 t54.1)) [] [] (by kernel_rfl)) fun a ha => ?_
       refine ldA (cs := (cA .u8 8 a0)) ha rfl (by kernel_rfl) rfl rfl rfl (cells_sub hE5 (all := (cA .u8 8 a0)) [] [] (by kernel_rfl)) fun a ha => ?_
       refine hop (v := .bool (!(eqA 8 t54.1 a0))) (w' := w59) ha rfl rfl rfl (nes_run (r := (eqA 8 t54.1 a0)) (m := 9) ha rfl rfl (by kernel_rfl) rfl (by kernel_rfl) _) fun a ha => ?_
       refine sgh ha 1 [4] [(2, .int .i64 a2), (3, .int .i64 a3), (4, .int .i64 a4), (11, .bool t8), (72, .bool (!(eqA 8 t54.1 a0)))] (by kernel_rfl) fun a ha => ?_
       obtain rfl := Option.some.inj H
       exact J62 _ _ (ha.sel (by kernel_rfl)) hBg13 hBg26 hBg56 hG hC hM
     ·have H := ite_f hc52 H
      refine wp_skip ?_
      obtain rfl := Option.some.inj H
      exact J39 _ _ _ rfl (ha.sel (by kernel_rfl)) hBg13 hBg26 hG hC hM
   have H := H33
   refine seg ha 3 [(45, .bool (t24.2 == (0 : Int))), (1, .string (bstr a1)), (2, .int .i64 a2), (3, .int .i64 a3), (4, .int .i64 a4), (5, .pointer (some ⟨g3, 0, none⟩)), (11, .bool t8), (14, .pointer (some ⟨g26, 0, none⟩))] (by kernel_rfl) fun a ha => ?_
   rcases Bool.eq_false_or_eq_true (t24.2 == (0 : Int)) with hb66 | hb66
   ·have ha := ha.lit hb66
    have H := ite_t hb66 H
    refine ldA (cs := (cA .u8 8 t24.1)) ha rfl (by kernel_rfl) rfl rfl rfl (cells_sub (Box.cells hBg26) (all := (cA .u8 8 t24.1)) [] [] (by kernel_rfl)) fun a ha => ?_
    obtain ⟨t67, H67, H⟩ := bind_some H
    refine cl ha (by rfl) (by kernel_rfl) (by rfl) (by rfl) (by rfl) (rd_Text.walk w29 _ hM hG t24.1 k _ H67) ?_
    rintro _ w67 ⟨rfl, hc67, hMn⟩ a ha
    have o1 : Ok [] ([g26] ++ ([g13] ++ (M))) w29.heap.size := Ok.nil _ _
    have o2 : Ok ([g26] ++ ([g13] ++ (M))) ([g26] ++ ([g13] ++ (M))) w29.heap.size := (Ok.refl _ _)
    have hG := hG.chg hc67 o1 o2
    have hBg13 := hBg13.chg hc67 (fun h => nomatch h)
    have hBg26 := hBg26.chg hc67 (fun h => nomatch h)
    have q_hn6 : g3 ∉ [g26] ++ ([g13] ++ (M)) := fun h => (o2 g3 h).elim hn6 (fun h => absurd (lt_cell (hE5 0 _ rfl)) (Nat.not_lt.2 h))
    have hE5 : ∀ j v, (cA .u8 8 a0)[j]? = some v → w67.cell? ⟨g3, 0 + j, none⟩ = some v := fun j v hv => (cell_keep hc67 o1 hn6 (hE5 j v hv))
    have hn6 := q_hn6
    have hM : MS ([g26] ++ ([g13] ++ (M))) w67 := (hM.chg hc67)
    have hC := hC.trans hc67 (Ok.nil _ _)
    refine sgh ha 3 [2, 2, 3] [(2, .int .i64 a2), (3, .int .i64 a3), (4, .int .i64 a4), (5, .pointer (some ⟨g3, 0, none⟩)), (11, .bool t8), (50, .bool (!((bstr t67).toList == (bstr a1).toList)))] (by kernel_rfl) fun a ha => ?_
    obtain rfl := Option.some.inj H
    exact J33 _ _ (ha.sel (by kernel_rfl)) hBg13 hBg26 hE5 hn6 hG hC hM
   ·have ha := ha.lit hb66
    have H := ite_f hb66 H
    refine sgh ha 5 [1, 1, 1, 1, 4] [(2, .int .i64 a2), (3, .int .i64 a3), (4, .int .i64 a4), (5, .pointer (some ⟨g3, 0, none⟩)), (11, .bool t8), (50, .bool false)] (by kernel_rfl) fun a ha => ?_
    obtain rfl := Option.some.inj H
    exact J33 _ _ (ha.sel (by kernel_rfl)) hBg13 hBg26 hE5 hn6 hG hC hM
 have H := H20
 refine seg ha 3 [(33, .bool (t11.2 != (0 : Int))), (1, .string (bstr a1)), (2, .int .i64 a2), (3, .int .i64 a3), (4, .int .i64 a4), (5, .pointer (some ⟨g3, 0, none⟩)), (11, .bool t8), (12, .pointer (some ⟨g13, 0, none⟩))] (by kernel_rfl) fun a ha => ?_
 rcases Bool.eq_false_or_eq_true (t11.2 != (0 : Int)) with hb68 | hb68
 ·have ha := ha.lit hb68
  have H := ite_t hb68 H
  refine sgh ha 4 [1, 1, 1, 3] [(1, .string (bstr a1)), (2, .int .i64 a2), (3, .int .i64 a3), (4, .int .i64 a4), (5, .pointer (some ⟨g3, 0, none⟩)), (11, .bool t8), (37, .bool true)] (by kernel_rfl) fun a ha => ?_
  obtain rfl := Option.some.inj H
  exact J20 _ _ (ha.sel (by kernel_rfl)) hBg13 hE5 hn6 hG hC hM
 ·have ha := ha.lit hb68
  have H := ite_f hb68 H
  refine ldA (cs := (cA .u8 8 t11.1)) ha rfl (by kernel_rfl) rfl rfl rfl (cells_sub (Box.cells hBg13) (all := (cA .u8 8 t11.1)) [] [] (by kernel_rfl)) fun a ha => ?_
  refine ldA (cs := (cA .u8 8 a0)) ha rfl (by kernel_rfl) rfl rfl rfl (cells_sub hE5 (all := (cA .u8 8 a0)) [] [] (by kernel_rfl)) fun a ha => ?_
  refine hop (v := .bool (!(eqA 8 t11.1 a0))) (w' := w16) ha rfl rfl rfl (nes_run (r := (eqA 8 t11.1 a0)) (m := 9) ha rfl rfl (by kernel_rfl) rfl (by kernel_rfl) _) fun a ha => ?_
  refine sgh ha 1 [4] [(1, .string (bstr a1)), (2, .int .i64 a2), (3, .int .i64 a3), (4, .int .i64 a4), (5, .pointer (some ⟨g3, 0, none⟩)), (11, .bool t8), (37, .bool (!(eqA 8 t11.1 a0)))] (by kernel_rfl) fun a ha => ?_
  obtain rfl := Option.some.inj H
  exact J20 _ _ (ha.sel (by kernel_rfl)) hBg13 hE5 hn6 hG hC hM
end Go.E
