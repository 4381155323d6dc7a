/- What the functions that the law reaches compute, and the walks that show it. -/
import Derived.Test.YtilmdjjeakileaaGreatDoorEngU
import Derived.Test.YtilmdjjeakileaaGreatDoorShelf
import Derived.Test.YtilmdjjeakileaaGreatDoorProg
import Derived.Test.YtilmdjjeakileaaGreatDoorGenRdTextsP1
set_option linter.unusedVariables false
set_option linter.unusedSimpArgs false
namespace Go.E
open Go.RowKit Go.Proofs
def rd_Parse.f (k : Nat) (a0 : List UInt8) : Option (List Int × Int) := (strings_Split.f a0 ([58] : List UInt8)).bind fun t7 => (if ((t7.length : Int) == (2 : Int)) = true then (if 0 ≤ (1 : Int) ∧ (1 : Int) < (t7.length : Int) then (rd_strange.f k (rd t7 (1 : Int))).bind fun t21 => (rd_Text.f k t21).bind fun t26 => (if (!((bstr t26).toList == (bstr a0).toList)) = true then some ((([(0 : Int), (0 : Int), (0 : Int), (0 : Int), (0 : Int), (0 : Int), (0 : Int), (0 : Int)] : List Int) : List Int), ((4 : Int) : Int)) else some ((t21 : List Int), ((0 : Int) : Int))) else none) else (if ((t7.length : Int) == (3 : Int)) = true then (if 0 ≤ (0 : Int) ∧ (0 : Int) < (t7.length : Int) then (if 0 ≤ (1 : Int) ∧ (1 : Int) < (t7.length : Int) then (if 0 ≤ (2 : Int) ∧ (2 : Int) < (t7.length : Int) then (rd_known.f k (rd t7 (0 : Int)) (rd t7 (1 : Int)) (rd t7 (2 : Int))).bind fun t60 => ((if (!t60.2) = true then some (true : Bool) else (rd_Text.f k t60.1).bind fun t75 => some (!((bstr t75).toList == (bstr a0).toList) : Bool))).bind fun s66 => (if s66 = true then some ((([(0 : Int), (0 : Int), (0 : Int), (0 : Int), (0 : Int), (0 : Int), (0 : Int), (0 : Int)] : List Int) : List Int), ((4 : Int) : Int)) else some ((t60.1 : List Int), ((0 : Int) : Int))) else none) else none) else none) else some ((([(0 : Int), (0 : Int), (0 : Int), (0 : Int), (0 : Int), (0 : Int), (0 : Int), (0 : Int)] : List Int) : List Int), ((4 : Int) : Int))))
set_option maxRecDepth 100000 in
theorem rd_Parse.walk (w : World) (M : List Nat) (hM : MS M w) (hG : GF w M) (a0 : List UInt8) (k : Nat) (r : List Int × Int) (H : rd_Parse.f k a0 = some r) :
    To Tryz.prog 9 [.string (bstr a0)] w fun v w' => v = .tuple #[.agg (cA .u8 8 r.1).toArray, .int .i64 r.2] ∧ Chg [] w w' ∧ MS (M) w' := by
 unfold rd_Parse.f at H
 refine ent Tryz.func9 rfl [(0, .string (bstr a0))] rfl (by rfl) fun a ha => ?_
 have hC : Chg [] w w := Chg.refl _ _
 refine wp_seq_k fun K1 hK1 => ?_
 refine wp_region_lit ?_
 refine al (cs := (cA .u8 8 (List.replicate 8 (0 : Int)))) (z := .agg (cA .u8 8 (List.replicate 8 (0 : Int))).toArray) ha (fun w => by kernel_rfl) rfl rfl rfl rfl fun a w2 g3 hN4 ha => ?_
 have o1 : Ok [] (M) w.heap.size := Ok.nil _ _
 have o2 : Ok ([g3] ++ (M)) (M) w.heap.size := (Ok.app (hN4.ok _) (Ok.refl _ _))
 have hG := hG.chg hN4.chg o1 o2
 have p_i5_M : ∀ x ∈ [g3], x ∉ M := fun x hx hy => absurd (hM x (hy)) (Nat.not_lt.2 ((hN4.ge1) x hx))
 have e_i5 : ∀ x ∈ [g3], w.heap.size ≤ x := fun x hx => Nat.le_trans hC.size ((hN4.ge1) x hx)
 have hM : MS ([g3] ++ (M)) w2 := (MS.app hN4.ms (hM.chg hN4.chg))
 have hC := hC.trans hN4.chg (Ok.nil _ _)
 have hBg3 : Box w2 g3 (cA .u8 8 (List.replicate 8 (0 : Int))) := hN4.box
 refine seg ha 1 [(0, .string (bstr a0)), (2, .pointer (some ⟨g3, 0, none⟩))] (by kernel_rfl) fun a ha => ?_
 refine hK1 _ _ ?_; try clear hK1 K1
 refine wp_seq_k fun K6 hK6 => ?_
 refine wp_region_lit ?_
 refine seg ha 1 [(0, .string (bstr a0)), (2, .pointer (some ⟨g3, 0, none⟩)), (6, .string (bstr a0))] (by kernel_rfl) fun a ha => ?_
 obtain ⟨t7, H7, H⟩ := bind_some H
 refine cl ha (by rfl) (by kernel_rfl) (by rfl) (by rfl) (by rfl) (strings_Split.walk w2 _ hM hG a0 ([58] : List UInt8) _ H7) ?_
 rintro _ w7 ⟨ao8, cap8, rfl, f8, ne_i8, hc7, hMn⟩ a ha
 have o1 : Ok [] ([g3] ++ (M)) w2.heap.size := Ok.nil _ _
 have o2 : Ok (blkL ao8 ++ ([g3] ++ (M))) ([g3] ++ (M)) w2.heap.size := (Ok.app (fun x h => .inr (ne_i8 x h)) (Ok.refl _ _))
 have hG := hG.chg hc7 o1 o2
 have hBg3 := hBg3.chg hc7 (fun h => nomatch h)
 have p_i8_i5 : ∀ x ∈ blkL ao8, x ∉ ([g3]) := fun x hx hy => absurd (hM x (ml hy)) (Nat.not_lt.2 (ne_i8 x hx))
 have p_i8_M : ∀ x ∈ blkL ao8, x ∉ M := fun x hx hy => absurd (hM x (mr (hy))) (Nat.not_lt.2 (ne_i8 x hx))
 have e_i8 : ∀ x ∈ blkL ao8, w.heap.size ≤ x := fun x hx => Nat.le_trans hC.size (ne_i8 x hx)
 have hM : MS (blkL ao8 ++ ([g3] ++ (M))) w7 := (MS.app (fun x h => hMn x (ml h)) (hM.chg hc7))
 have hC := hC.trans hc7 (Ok.nil _ _)
 refine seg ha 1 [(0, .string (bstr a0)), (2, .pointer (some ⟨g3, 0, none⟩)), (4, .slice ao8 t7.length cap8)] (by kernel_rfl) fun a ha => ?_
 refine hK6 _ _ ?_; try clear hK6 K6
 refine wp_seq_k fun K9 hK9 => ?_
 refine wp_region_lit ?_
 refine seg ha 1 [(0, .string (bstr a0)), (2, .pointer (some ⟨g3, 0, none⟩)), (4, .slice ao8 t7.length cap8), (5, .bool true)] (by kernel_rfl) fun a ha => ?_
 refine hK9 _ _ ?_; try clear hK9 K9
 refine wp_seq_k fun K10 hK10 => ?_
 refine wp_seq_k fun K11 hK11 => ?_
 refine wp_region_lit ?_
 refine seg ha 2 [(0, .string (bstr a0)), (2, .pointer (some ⟨g3, 0, none⟩)), (4, .slice ao8 t7.length cap8), (5, .bool true), (9, .int .i64 (t7.length : Int))] (by kernel_rfl) fun a ha => ?_
 refine hK11 _ _ ?_; try clear hK11 K11
 refine wp_block ?_
 refine wp_seq_k fun K12 hK12 => ?_
 refine wp_region_lit ?_
 refine seg ha 2 [(0, .string (bstr a0)), (2, .pointer (some ⟨g3, 0, none⟩)), (4, .slice ao8 t7.length cap8), (5, .bool true), (9, .int .i64 (t7.length : Int)), (10, .bool ((t7.length : Int) == (2 : Int)))] (by kernel_rfl) fun a ha => ?_
 refine hK12 _ _ ?_; try clear hK12 K12
 refine cnd ha rfl (fun hc13 => ?_) (fun hc13 => ?_)
 ·have H := ite_t hc13 H
  refine wp_region_lit ?_
  refine seg ha 1 [(0, .string (bstr a0)), (2, .pointer (some ⟨g3, 0, none⟩)), (5, .bool true), (12, .slice ao8 t7.length cap8)] (by kernel_rfl) fun a ha => ?_
  obtain ⟨⟨hx14, hx14'⟩, H⟩ := ite_some H
  refine ix (r := rStr) ha (by kernel_rfl) (by kernel_rfl) rfl rfl rfl rfl rfl (Own.toRSl (M' := []) f8 (Ok.nil _ _) (fun _ _ h => nomatch h)) hx14 hx14' fun a ge15 oe16 cs17 hn20 hR18 hE19 ha => ?_
  rw [rd_get] at hR18
  obtain rfl := hR18
  have hE19 : ∀ j v, ([.string (bstr (rd t7 (1 : Int)))] : List Value)[j]? = some v → w7.cell? ⟨ge15, oe16 + j, none⟩ = some v := hE19
  refine ld ha rfl (by kernel_rfl) rfl rfl rfl (hE19 0 (.string (bstr (rd t7 (1 : Int)))) (by kernel_rfl)) fun a ha => ?_
  obtain ⟨t21, H21, H⟩ := bind_some H
  refine cl ha (by rfl) (by kernel_rfl) (by rfl) (by rfl) (by rfl) (rd_strange.walk w7 _ hM (rd t7 (1 : Int)) k _ H21) ?_
  rintro _ w21 ⟨rfl, hc21, hMn⟩ a ha
  have o1 : Ok [] (blkL ao8 ++ ([g3] ++ (M))) w7.heap.size := Ok.nil _ _
  have o2 : Ok (blkL ao8 ++ ([g3] ++ (M))) (blkL ao8 ++ ([g3] ++ (M))) w7.heap.size := (Ok.refl _ _)
  have hG := hG.chg hc21 o1 o2
  have hBg3 := hBg3.chg hc21 (fun h => nomatch h)
  have hM : MS (blkL ao8 ++ ([g3] ++ (M))) w21 := (hM.chg hc21)
  have hC := hC.trans hc21 (Ok.nil _ _)
  refine stA (l := (cA .u8 8 t21)) ha rfl rfl rfl (by kernel_rfl) rfl rfl hBg3 rfl fun a w22 ha hb2 hc23 _ => ?_
  have o1 : Ok [g3] (blkL ao8 ++ ([g3] ++ (M))) w21.heap.size := (fun _ h => .inl (mr (ml h)))
  have o2 : Ok (blkL ao8 ++ ([g3] ++ (M))) (blkL ao8 ++ ([g3] ++ (M))) w21.heap.size := (Ok.refl _ _)
  have hG := hG.chg hc23 o1 o2
  have hM : MS (blkL ao8 ++ ([g3] ++ (M))) w22 := (hM.chg hc23)
  have hC := hC.trans hc23 (fun x h => .inr (e_i5 x h))
  have hBg3 : Box w22 g3 (cA .u8 8 t21) := hb2
  refine hK10 _ _ ?_; try clear hK10 K10
  refine wp_seq_k fun K24 hK24 => ?_
  refine wp_seq_k fun K25 hK25 => ?_
  refine wp_region_lit ?_
  refine seg ha 3 [(0, .string (bstr a0)), (2, .pointer (some ⟨g3, 0, none⟩)), (33, .bool false)] (by kernel_rfl) fun a ha => ?_
  refine ldA (cs := (cA .u8 8 t21)) ha rfl (by kernel_rfl) rfl rfl rfl (cells_sub (Box.cells hBg3) (all := (cA .u8 8 t21)) [] [] (by kernel_rfl)) fun a ha => ?_
  obtain ⟨t26, H26, H⟩ := bind_some H
  refine cl ha (by rfl) (by kernel_rfl) (by rfl) (by rfl) (by rfl) (rd_Text.walk w22 _ hM hG t21 k _ H26) ?_
  rintro _ w26 ⟨rfl, hc26, hMn⟩ a ha
  have o1 : Ok [] (blkL ao8 ++ ([g3] ++ (M))) w22.heap.size := Ok.nil _ _
  have o2 : Ok (blkL ao8 ++ ([g3] ++ (M))) (blkL ao8 ++ ([g3] ++ (M))) w22.heap.size := (Ok.refl _ _)
  have hG := hG.chg hc26 o1 o2
  have hBg3 := hBg3.chg hc26 (fun h => nomatch h)
  have hM : MS (blkL ao8 ++ ([g3] ++ (M))) w26 := (hM.chg hc26)
  have hC := hC.trans hc26 (Ok.nil _ _)
  refine sgh ha 3 [2, 2, 4] [(2, .pointer (some ⟨g3, 0, none⟩)), (38, .bool (!((bstr t26).toList == (bstr a0).toList)))] (by kernel_rfl) fun a ha => ?_
  refine hK25 _ _ ?_; try clear hK25 K25
  refine cnd ha rfl (fun hc27 => ?_) (fun hc27 => ?_)
  ·have H := ite_t hc27 H
   refine wp_seq_k fun K28 hK28 => ?_
   refine wp_region_lit ?_
   refine opk (v := .agg (cA .u8 8 ([(0 : Int), (0 : Int), (0 : Int), (0 : Int), (0 : Int), (0 : Int), (0 : Int), (0 : Int)] : List Int)).toArray) ha rfl rfl rfl rfl rfl (fun w => by kernel_rfl) fun a ha => ?_
   refine stA (l := (cA .u8 8 ([(0 : Int), (0 : Int), (0 : Int), (0 : Int), (0 : Int), (0 : Int), (0 : Int), (0 : Int)] : List Int))) ha rfl rfl rfl (by kernel_rfl) rfl rfl hBg3 rfl fun a w29 ha hb2 hc30 _ => ?_
   have o1 : Ok [g3] (blkL ao8 ++ ([g3] ++ (M))) w26.heap.size := (fun _ h => .inl (mr (ml h)))
   have o2 : Ok (blkL ao8 ++ ([g3] ++ (M))) (blkL ao8 ++ ([g3] ++ (M))) w26.heap.size := (Ok.refl _ _)
   have hG := hG.chg hc30 o1 o2
   have hM : MS (blkL ao8 ++ ([g3] ++ (M))) w29 := (hM.chg hc30)
   have hC := hC.trans hc30 (fun x h => .inr (e_i5 x h))
   have hBg3 : Box w29 g3 (cA .u8 8 ([(0 : Int), (0 : Int), (0 : Int), (0 : Int), (0 : Int), (0 : Int), (0 : Int), (0 : Int)] : List Int)) := hb2
   refine seg ha 1 [(2, .pointer (some ⟨g3, 0, none⟩)), (3, .int .i64 (4 : Int))] (by kernel_rfl) fun a ha => ?_
   refine hK28 _ _ ?_; try clear hK28 K28
   refine wp_ret ?_
   try simp only [Exit.then, Exit.inBlock]
   have o1 : Ok [] (blkL ao8 ++ ([g3] ++ (M))) w29.heap.size := Ok.nil _ _
   have o2 : Ok (M) (blkL ao8 ++ ([g3] ++ (M))) w29.heap.size := (fun _ h => .inl (mr (mr (h))))
   have hG := hG.chg (Chg.refl [] _) o1 o2
   have hBg3 := hBg3.chg (Chg.refl [] _) (fun h => nomatch h)
   have hM : MS (M) w29 := (fun x h => hM.chg (Chg.refl [] _) x (mr (mr (h))))
   have hC := hC.trans (Chg.refl [] _) (Ok.nil _ _)
   obtain rfl := Option.some.inj H
   refine rtr ha (res2 rfl (roA ha rfl hBg3 (by kernel_rfl)) (roT ha rfl)) ?_
   exact ⟨rfl, hC, hM⟩
  ·have H := ite_f hc27 H
   refine wp_skip ?_
   refine hK24 _ _ ?_; try clear hK24 K24
   refine wp_seq_k fun K31 hK31 => ?_
   refine wp_region_lit ?_
   refine ldA (cs := (cA .u8 8 t21)) ha rfl (by kernel_rfl) rfl rfl rfl (cells_sub (Box.cells hBg3) (all := (cA .u8 8 t21)) [] [] (by kernel_rfl)) fun a ha => ?_
   refine stA (l := (cA .u8 8 t21)) ha rfl rfl rfl (by kernel_rfl) rfl rfl hBg3 rfl fun a w32 ha hb2 hc33 _ => ?_
   have o1 : Ok [g3] (blkL ao8 ++ ([g3] ++ (M))) w26.heap.size := (fun _ h => .inl (mr (ml h)))
   have o2 : Ok (blkL ao8 ++ ([g3] ++ (M))) (blkL ao8 ++ ([g3] ++ (M))) w26.heap.size := (Ok.refl _ _)
   have hG := hG.chg hc33 o1 o2
   have hM : MS (blkL ao8 ++ ([g3] ++ (M))) w32 := (hM.chg hc33)
   have hC := hC.trans hc33 (fun x h => .inr (e_i5 x h))
   have hBg3 : Box w32 g3 (cA .u8 8 t21) := hb2
   refine seg ha 1 [(2, .pointer (some ⟨g3, 0, none⟩)), (3, .int .i64 (0 : Int))] (by kernel_rfl) fun a ha => ?_
   refine hK31 _ _ ?_; try clear hK31 K31
   refine wp_ret ?_
   try simp only [Exit.then, Exit.inBlock]
   have o1 : Ok [] (blkL ao8 ++ ([g3] ++ (M))) w32.heap.size := Ok.nil _ _
   have o2 : Ok (M) (blkL ao8 ++ ([g3] ++ (M))) w32.heap.size := (fun _ h => .inl (mr (mr (h))))
   have hG := hG.chg (Chg.refl [] _) o1 o2
   have hBg3 := hBg3.chg (Chg.refl [] _) (fun h => nomatch h)
   have hM : MS (M) w32 := (fun x h => hM.chg (Chg.refl [] _) x (mr (mr (h))))
   have hC := hC.trans (Chg.refl [] _) (Ok.nil _ _)
   obtain rfl := Option.some.inj H
   refine rtr ha (res2 rfl (roA ha rfl hBg3 (by kernel_rfl)) (roT ha rfl)) ?_
   exact ⟨rfl, hC, hM⟩
 ·have H := ite_f hc13 H
  refine wp_seq_k fun K34 hK34 => ?_
  refine wp_region_lit ?_
  refine seg ha 2 [(0, .string (bstr a0)), (2, .pointer (some ⟨g3, 0, none⟩)), (4, .slice ao8 t7.length cap8), (16, .bool ((t7.length : Int) == (3 : Int)))] (by kernel_rfl) fun a ha => ?_
  refine hK34 _ _ ?_; try clear hK34 K34
  refine cnd ha rfl (fun hc35 => ?_) (fun hc35 => ?_)
  ·have H := ite_t hc35 H
   have okS : Ok ([g3]) (blkL ao8 ++ ([g3] ++ (M))) w7.heap.size := (fun _ h => .inl (mr (ml h)))
   have z_f8 := Own.toRSl (M' := ([g3])) f8 okS p_i8_i5
   refine drw (fun w' => Chg ([g3]) w7 w') (by kernel_rfl) fun w36 hc37 _ => ?_
   have hS : Chg ([g3]) w7 w36 := (Chg.refl ([g3]) _).trans hc37 (Ok.nil _ _)
   have o1 : Ok [] (blkL ao8 ++ ([g3] ++ (M))) w7.heap.size := Ok.nil _ _
   have o2 : Ok (blkL ao8 ++ ([g3] ++ (M))) (blkL ao8 ++ ([g3] ++ (M))) w7.heap.size := (Ok.refl _ _)
   have hG := hG.chg hc37 o1 o2
   have f8 := f8.chg hc37 o1 o2 (fun _ _ h => nomatch h) (fun _ h => ml h)
   have hBg3 := hBg3.chg hc37 (fun h => nomatch h)
   have hM : MS (blkL ao8 ++ ([g3] ++ (M))) w36 := (hM.chg hc37)
   have hC := hC.trans hc37 (Ok.nil _ _)
   refine tkpz 0 0 (.slice ao8 t7.length cap8) ha (s := hS) (q := fun a ha => ?_)
   obtain ⟨⟨hx38, hx38'⟩, H⟩ := ite_some H
   obtain ⟨ge39, oe400, cs41, hx38eq, hn44, hR42, hE43⟩ := RSl.elem z_f8 (Int.toNat (0 : Int)) (by omega)
   rw [rd_get] at hR42
   obtain rfl := hR42
   have hE43 : ∀ j v, ([.string (bstr (rd t7 (0 : Int)))] : List Value)[j]? = some v → w7.cell? ⟨ge39, (oe400 + (Int.toNat (0 : Int)) * rStr.sz) + j, none⟩ = some v := hE43
   refine tkz 1 ha (v := .pointer (some ⟨ge39, (oe400 + (Int.toNat (0 : Int)) * rStr.sz), none⟩)) (y := fun w' _ => ix_run (r := rStr) (T := 9) ha (by kernel_rfl) (by kernel_rfl) (by rfl) (by rfl) hx38eq hx38 hx38') (s := hS) (q := fun a ha => ?_)
   refine tkz 2 ha (v := .string (bstr (rd t7 (0 : Int)))) (y := fun w' hs => ld_run ha rfl (by kernel_rfl) (cell_keep hs (Ok.refl _ _) hn44 (hE43 0 (.string (bstr (rd t7 (0 : Int)))) (by kernel_rfl)))) (s := hS) (q := fun a ha => ?_)
   refine tkpz 3 0 (.slice ao8 t7.length cap8) ha (s := hS) (q := fun a ha => ?_)
   obtain ⟨⟨hx45, hx45'⟩, H⟩ := ite_some H
   obtain ⟨ge46, oe470, cs48, hx45eq, hn51, hR49, hE50⟩ := RSl.elem z_f8 (Int.toNat (1 : Int)) (by omega)
   rw [rd_get] at hR49
   obtain rfl := hR49
   have hE50 : ∀ j v, ([.string (bstr (rd t7 (1 : Int)))] : List Value)[j]? = some v → w7.cell? ⟨ge46, (oe470 + (Int.toNat (1 : Int)) * rStr.sz) + j, none⟩ = some v := hE50
   refine tkz 4 ha (v := .pointer (some ⟨ge46, (oe470 + (Int.toNat (1 : Int)) * rStr.sz), none⟩)) (y := fun w' _ => ix_run (r := rStr) (T := 9) ha (by kernel_rfl) (by kernel_rfl) (by rfl) (by rfl) hx45eq hx45 hx45') (s := hS) (q := fun a ha => ?_)
   refine tkz 5 ha (v := .string (bstr (rd t7 (1 : Int)))) (y := fun w' hs => ld_run ha rfl (by kernel_rfl) (cell_keep hs (Ok.refl _ _) hn51 (hE50 0 (.string (bstr (rd t7 (1 : Int)))) (by kernel_rfl)))) (s := hS) (q := fun a ha => ?_)
   refine tkpz 6 0 (.slice ao8 t7.length cap8) ha (s := hS) (q := fun a ha => ?_)
   obtain ⟨⟨hx52, hx52'⟩, H⟩ := ite_some H
   obtain ⟨ge53, oe540, cs55, hx52eq, hn58, hR56, hE57⟩ := RSl.elem z_f8 (Int.toNat (2 : Int)) (by omega)
   rw [rd_get] at hR56
   obtain rfl := hR56
   have hE57 : ∀ j v, ([.string (bstr (rd t7 (2 : Int)))] : List Value)[j]? = some v → w7.cell? ⟨ge53, (oe540 + (Int.toNat (2 : Int)) * rStr.sz) + j, none⟩ = some v := hE57
   refine tkz 7 ha (v := .pointer (some ⟨ge53, (oe540 + (Int.toNat (2 : Int)) * rStr.sz), none⟩)) (y := fun w' _ => ix_run (r := rStr) (T := 9) ha (by kernel_rfl) (by kernel_rfl) (by rfl) (by rfl) hx52eq hx52 hx52') (s := hS) (q := fun a ha => ?_)
   refine tkz 8 ha (v := .string (bstr (rd t7 (2 : Int)))) (y := fun w' hs => ld_run ha rfl (by kernel_rfl) (cell_keep hs (Ok.refl _ _) hn58 (hE57 0 (.string (bstr (rd t7 (2 : Int)))) (by kernel_rfl)))) (s := hS) (q := fun a ha => ?_)
   refine ac 9 (by kernel_rfl) (by rfl) fun K59 hK59 => ?_
   obtain ⟨t60, H60, H⟩ := bind_some H
   refine cl ha (by rfl) (by kernel_rfl) (by rfl) (by rfl) (by rfl) (rd_known.walk w36 _ hM hG (rd t7 (0 : Int)) (rd t7 (1 : Int)) (rd t7 (2 : Int)) k _ H60) ?_
   rintro _ w60 ⟨rfl, hc60, hMn⟩ a ha
   have o1 : Ok [] (blkL ao8 ++ ([g3] ++ (M))) w36.heap.size := Ok.nil _ _
   have o2 : Ok (blkL ao8 ++ ([g3] ++ (M))) (blkL ao8 ++ ([g3] ++ (M))) w36.heap.size := (Ok.refl _ _)
   have hG := hG.chg hc60 o1 o2
   have f8 := f8.chg hc60 o1 o2 (fun _ _ h => nomatch h) (fun _ h => ml h)
   have hBg3 := hBg3.chg hc60 (fun h => nomatch h)
   have hM : MS (blkL ao8 ++ ([g3] ++ (M))) w60 := (hM.chg hc60)
   have hC := hC.trans hc60 (Ok.nil _ _)
   have hS := hS.trans hc60 (Ok.nil _ _)
   refine ae hK59 hS ?_; clear hK59 K59
   refine tkpz 10 0 (.tuple #[.agg (cA .u8 8 t60.1).toArray, .bool t60.2]) ha (s := hS) (q := fun a ha => ?_)
   refine tkpz 11 0 (.agg (cA .u8 8 t60.1).toArray) ha (s := hS) (q := fun a ha => ?_)
   refine tkpz 12 0 (.bool t60.2) ha (s := hS) (q := fun a ha => ?_)
   refine ac 13 (by kernel_rfl) (by rfl) fun K61 hK61 => ?_
   refine stA (l := (cA .u8 8 t60.1)) ha rfl rfl rfl (by kernel_rfl) rfl rfl hBg3 rfl fun a w62 ha hb2 hc63 _ => ?_
   have o1 : Ok [g3] (blkL ao8 ++ ([g3] ++ (M))) w60.heap.size := (fun _ h => .inl (mr (ml h)))
   have o2 : Ok (blkL ao8 ++ ([g3] ++ (M))) (blkL ao8 ++ ([g3] ++ (M))) w60.heap.size := (Ok.refl _ _)
   have hG := hG.chg hc63 o1 o2
   have f8 := f8.chg hc63 o1 o2 p_i8_i5 (fun _ h => ml h)
   have hM : MS (blkL ao8 ++ ([g3] ++ (M))) w62 := (hM.chg hc63)
   have hC := hC.trans hc63 (fun x h => .inr (e_i5 x h))
   have hS := hS.trans hc63 (fun x h => .inl (h))
   have hBg3 : Box w62 g3 (cA .u8 8 t60.1) := hb2
   refine ae hK61 hS ?_; clear hK61 K61
   refine tkpz 14 0 (.bool t60.2) ha (s := hS) (q := fun a ha => ?_)
   refine dn (by kernel_rfl) ?_
   refine hK10 _ _ ?_; try clear hK10 K10
   refine wp_seq_k fun K64 hK64 => ?_
   refine wp_seq_k fun K65 hK65 => ?_
   refine wp_region_lit ?_
   obtain ⟨s66, H66, H⟩ := bind_some H
   have J66 : ∀ (a : Act) (w66 : World), Has a Tryz.f9.ntmps [(2, .pointer (some ⟨g3, 0, none⟩)), (38, .bool s66)] → (Box w66 g3 (cA .u8 8 t60.1)) → (GF w66 ([g3] ++ (M))) → (Chg [] w w66) → (MS ([g3] ++ (M)) w66) → K65 a w66 := by
    intro a w66 ha hBg3 hG hC hM
    refine hK65 _ _ ?_; try clear hK65 K65
    refine cnd ha rfl (fun hc67 => ?_) (fun hc67 => ?_)
    ·have H := ite_t hc67 H
     refine wp_seq_k fun K68 hK68 => ?_
     refine wp_region_lit ?_
     refine opk (v := .agg (cA .u8 8 ([(0 : Int), (0 : Int), (0 : Int), (0 : Int), (0 : Int), (0 : Int), (0 : Int), (0 : Int)] : List Int)).toArray) ha rfl rfl rfl rfl rfl (fun w => by kernel_rfl) fun a ha => ?_
     refine stA (l := (cA .u8 8 ([(0 : Int), (0 : Int), (0 : Int), (0 : Int), (0 : Int), (0 : Int), (0 : Int), (0 : Int)] : List Int))) ha rfl rfl rfl (by kernel_rfl) rfl rfl hBg3 rfl fun a w69 ha hb2 hc70 _ => ?_
     have o1 : Ok [g3] ([g3] ++ (M)) w66.heap.size := (fun _ h => .inl (ml h))
     have o2 : Ok ([g3] ++ (M)) ([g3] ++ (M)) w66.heap.size := (Ok.refl _ _)
     have hG := hG.chg hc70 o1 o2
     have hM : MS ([g3] ++ (M)) w69 := (hM.chg hc70)
     have hC := hC.trans hc70 (fun x h => .inr (e_i5 x h))
     have hBg3 : Box w69 g3 (cA .u8 8 ([(0 : Int), (0 : Int), (0 : Int), (0 : Int), (0 : Int), (0 : Int), (0 : Int), (0 : Int)] : List Int)) := hb2
     refine seg ha 1 [(2, .pointer (some ⟨g3, 0, none⟩)), (3, .int .i64 (4 : Int))] (by kernel_rfl) fun a ha => ?_
     refine hK68 _ _ ?_; try clear hK68 K68
     refine wp_ret ?_
     try simp only [Exit.then, Exit.inBlock]
     have o1 : Ok [] ([g3] ++ (M)) w69.heap.size := Ok.nil _ _
     have o2 : Ok (M) ([g3] ++ (M)) w69.heap.size := (fun _ h => .inl (mr (h)))
     have hG := hG.chg (Chg.refl [] _) o1 o2
     have hBg3 := hBg3.chg (Chg.refl [] _) (fun h => nomatch h)
     have hM : MS (M) w69 := (fun x h => hM.chg (Chg.refl [] _) x (mr (h)))
     have hC := hC.trans (Chg.refl [] _) (Ok.nil _ _)
     obtain rfl := Option.some.inj H
     refine rtr ha (res2 rfl (roA ha rfl hBg3 (by kernel_rfl)) (roT ha rfl)) ?_
     exact ⟨rfl, hC, hM⟩
    ·have H := ite_f hc67 H
     refine wp_skip ?_
     refine hK64 _ _ ?_; try clear hK64 K64
     refine wp_seq_k fun K71 hK71 => ?_
     refine wp_region_lit ?_
     refine ldA (cs := (cA .u8 8 t60.1)) ha rfl (by kernel_rfl) rfl rfl rfl (cells_sub (Box.cells hBg3) (all := (cA .u8 8 t60.1)) [] [] (by kernel_rfl)) fun a ha => ?_
     refine stA (l := (cA .u8 8 t60.1)) ha rfl rfl rfl (by kernel_rfl) rfl rfl hBg3 rfl fun a w72 ha hb2 hc73 _ => ?_
     have o1 : Ok [g3] ([g3] ++ (M)) w66.heap.size := (fun _ h => .inl (ml h))
     have o2 : Ok ([g3] ++ (M)) ([g3] ++ (M)) w66.heap.size := (Ok.refl _ _)
     have hG := hG.chg hc73 o1 o2
     have hM : MS ([g3] ++ (M)) w72 := (hM.chg hc73)
     have hC := hC.trans hc73 (fun x h => .inr (e_i5 x h))
     have hBg3 : Box w72 g3 (cA .u8 8 t60.1) := hb2
     refine seg ha 1 [(2, .pointer (some ⟨g3, 0, none⟩)), (3, .int .i64 (0 : Int))] (by kernel_rfl) fun a ha => ?_
     refine hK71 _ _ ?_; try clear hK71 K71
     refine wp_ret ?_
     try simp only [Exit.then, Exit.inBlock]
     have o1 : Ok [] ([g3] ++ (M)) w72.heap.size := Ok.nil _ _
     have o2 : Ok (M) ([g3] ++ (M)) w72.heap.size := (fun _ h => .inl (mr (h)))
     have hG := hG.chg (Chg.refl [] _) o1 o2
     have hBg3 := hBg3.chg (Chg.refl [] _) (fun h => nomatch h)
     have hM : MS (M) w72 := (fun x h => hM.chg (Chg.refl [] _) x (mr (h)))
     have hC := hC.trans (Chg.refl [] _) (Ok.nil _ _)
     obtain rfl := Option.some.inj H
     refine rtr ha (res2 rfl (roA ha rfl hBg3 (by kernel_rfl)) (roT ha rfl)) ?_
     exact ⟨rfl, hC, hM⟩
   have H := H66
   refine seg ha 3 [(33, .bool (!t60.2)), (0, .string (bstr a0)), (2, .pointer (some ⟨g3, 0, none⟩))] (by kernel_rfl) fun a ha => ?_
   rcases Bool.eq_false_or_eq_true (!t60.2) with hb74 | hb74
   ·have ha := ha.lit hb74
    have H := ite_t hb74 H
    refine sgh ha 5 [1, 1, 1, 1, 3] [(2, .pointer (some ⟨g3, 0, none⟩)), (38, .bool true)] (by kernel_rfl) fun a ha => ?_
    obtain rfl := Option.some.inj H
    have o1 : Ok [] (blkL ao8 ++ ([g3] ++ (M))) w62.heap.size := Ok.nil _ _
    have o2 : Ok ([g3] ++ (M)) (blkL ao8 ++ ([g3] ++ (M))) w62.heap.size := (fun _ h => .inl (mr (h)))
    have hG := hG.chg (Chg.refl [] _) o1 o2
    have hBg3 := hBg3.chg (Chg.refl [] _) (fun h => nomatch h)
    have hM : MS ([g3] ++ (M)) w62 := (fun x h => hM.chg (Chg.refl [] _) x (mr (h)))
    have hC := hC.trans (Chg.refl [] _) (Ok.nil _ _)
    exact J66 _ _ (ha.sel (by kernel_rfl)) hBg3 hG hC hM
   ·have ha := ha.lit hb74
    have H := ite_f hb74 H
    refine ldA (cs := (cA .u8 8 t60.1)) ha rfl (by kernel_rfl) rfl rfl rfl (cells_sub (Box.cells hBg3) (all := (cA .u8 8 t60.1)) [] [] (by kernel_rfl)) fun a ha => ?_
    obtain ⟨t75, H75, H⟩ := bind_some H
    refine cl ha (by rfl) (by kernel_rfl) (by rfl) (by rfl) (by rfl) (rd_Text.walk w62 _ hM hG t60.1 k _ H75) ?_
    rintro _ w75 ⟨rfl, hc75, hMn⟩ a ha
    have o1 : Ok [] (blkL ao8 ++ ([g3] ++ (M))) w62.heap.size := Ok.nil _ _
    have o2 : Ok (blkL ao8 ++ ([g3] ++ (M))) (blkL ao8 ++ ([g3] ++ (M))) w62.heap.size := (Ok.refl _ _)
    have hG := hG.chg hc75 o1 o2
    have hBg3 := hBg3.chg hc75 (fun h => nomatch h)
    have hM : MS (blkL ao8 ++ ([g3] ++ (M))) w75 := (hM.chg hc75)
    have hC := hC.trans hc75 (Ok.nil _ _)
    refine sgh ha 3 [2, 2, 4] [(2, .pointer (some ⟨g3, 0, none⟩)), (38, .bool (!((bstr t75).toList == (bstr a0).toList)))] (by kernel_rfl) fun a ha => ?_
    obtain rfl := Option.some.inj H
    have o1 : Ok [] (blkL ao8 ++ ([g3] ++ (M))) w75.heap.size := Ok.nil _ _
    have o2 : Ok ([g3] ++ (M)) (blkL ao8 ++ ([g3] ++ (M))) w75.heap.size := (fun _ h => .inl (mr (h)))
    have hG := hG.chg (Chg.refl [] _) o1 o2
    have hBg3 := hBg3.chg (Chg.refl [] _) (fun h => nomatch h)
    have hM : MS ([g3] ++ (M)) w75 := (fun x h => hM.chg (Chg.refl [] _) x (mr (h)))
    have hC := hC.trans (Chg.refl [] _) (Ok.nil _ _)
    exact J66 _ _ (ha.sel (by kernel_rfl)) hBg3 hG hC hM
  ·have H := ite_f hc35 H
   refine wp_region_lit ?_
   refine seg ha 1 [(0, .string (bstr a0)), (2, .pointer (some ⟨g3, 0, none⟩)), (5, .bool false)] (by kernel_rfl) fun a ha => ?_
   refine hK10 _ _ ?_; try clear hK10 K10
   refine wp_seq_k fun K76 hK76 => ?_
   refine wp_seq_k fun K77 hK77 => ?_
   refine wp_region_lit ?_
   refine sgh ha 8 [0, 0, 0, 1, 1, 1, 1, 3] [(2, .pointer (some ⟨g3, 0, none⟩)), (38, .bool true)] (by kernel_rfl) fun a ha => ?_
   refine hK77 _ _ ?_; try clear hK77 K77
   refine cnd ha rfl (fun _ => ?_) (fun h => nomatch h)
   refine wp_seq_k fun K79 hK79 => ?_
   refine wp_region_lit ?_
   refine opk (v := .agg (cA .u8 8 ([(0 : Int), (0 : Int), (0 : Int), (0 : Int), (0 : Int), (0 : Int), (0 : Int), (0 : Int)] : List Int)).toArray) ha rfl rfl rfl rfl rfl (fun w => by kernel_rfl) fun a ha => ?_
   refine stA (l := (cA .u8 8 ([(0 : Int), (0 : Int), (0 : Int), (0 : Int), (0 : Int), (0 : Int), (0 : Int), (0 : Int)] : List Int))) ha rfl rfl rfl (by kernel_rfl) rfl rfl hBg3 rfl fun a w80 ha hb2 hc81 _ => ?_
   have o1 : Ok [g3] (blkL ao8 ++ ([g3] ++ (M))) w7.heap.size := (fun _ h => .inl (mr (ml h)))
   have o2 : Ok (blkL ao8 ++ ([g3] ++ (M))) (blkL ao8 ++ ([g3] ++ (M))) w7.heap.size := (Ok.refl _ _)
   have hG := hG.chg hc81 o1 o2
   have hM : MS (blkL ao8 ++ ([g3] ++ (M))) w80 := (hM.chg hc81)
   have hC := hC.trans hc81 (fun x h => .inr (e_i5 x h))
   have hBg3 : Box w80 g3 (cA .u8 8 ([(0 : Int), (0 : Int), (0 : Int), (0 : Int), (0 : Int), (0 : Int), (0 : Int), (0 : Int)] : List Int)) := hb2
   refine seg ha 1 [(2, .pointer (some ⟨g3, 0, none⟩)), (3, .int .i64 (4 : Int))] (by kernel_rfl) fun a ha => ?_
   refine hK79 _ _ ?_; try clear hK79 K79
   refine wp_ret ?_
   try simp only [Exit.then, Exit.inBlock]
   have o1 : Ok [] (blkL ao8 ++ ([g3] ++ (M))) w80.heap.size := Ok.nil _ _
   have o2 : Ok (M) (blkL ao8 ++ ([g3] ++ (M))) w80.heap.size := (fun _ h => .inl (mr (mr (h))))
   have hG := hG.chg (Chg.refl [] _) o1 o2
   have hBg3 := hBg3.chg (Chg.refl [] _) (fun h => nomatch h)
   have hM : MS (M) w80 := (fun x h => hM.chg (Chg.refl [] _) x (mr (mr (h))))
   have hC := hC.trans (Chg.refl [] _) (Ok.nil _ _)
   obtain rfl := Option.some.inj H
   refine rtr ha (res2 rfl (roA ha rfl hBg3 (by kernel_rfl)) (roT ha rfl)) ?_
   exact ⟨rfl, hC, hM⟩
def vinerylaw03_small.f (k : Nat) : Option (Bool) := (rd_Make.f k (1 : Int) (167772161 : Int) (7 : Int)).bind fun t3 => (rd_Make.f k (0 : Int) (65536 : Int) (0 : Int)).bind fun t11 => (rd_Parse.f k ([48, 58, 54, 53, 48, 48, 48, 58, 55, 55] : List UInt8)).bind fun t19 => ((if (t3.2 == (0 : Int)) = true then (rd_Text.f k t3.1).bind fun t29 => (if ((bstr t29).toList == (bstr ([49, 58, 49, 48, 46, 48, 46, 48, 46, 49, 58, 55] : List UInt8)).toList) = true then (if (t11.2 == (5 : Int)) = true then (if (t19.2 == (0 : Int)) = true then (if (eqA 8 t19.1 ([(0 : Int), (0 : Int), (253 : Int), (232 : Int), (0 : Int), (0 : Int), (0 : Int), (77 : Int)] : List Int)) = true then (rd_Text.f k ([(0 : Int), (9 : Int), (0 : Int), (0 : Int), (0 : Int), (0 : Int), (0 : Int), (1 : Int)] : List Int)).bind fun t34 => some ((bstr t34).toList == (bstr ([63, 58, 48, 48, 48, 57, 48, 48, 48, 48, 48, 48, 48, 48, 48, 48, 48, 49] : List UInt8)).toList : Bool) else some (false : Bool)) else some (false : Bool)) else some (false : Bool)) else some (false : Bool)) else some (false : Bool))).bind fun s27 => some ((s27 : Bool))
set_option maxRecDepth 100000 in
theorem vinerylaw03_small.walk (w : World) (M : List Nat) (hM : MS M w) (hG : GF w M)  (k : Nat) (r : Bool) (H : vinerylaw03_small.f k = some r) :
    To Tryz.prog 8 [] w fun v w' => v = .bool r ∧ Chg [] w w' ∧ MS (M) w' := by
 unfold vinerylaw03_small.f at H
 refine ent Tryz.func8 rfl [] rfl (by rfl) fun a ha => ?_
 have hC : Chg [] w w := Chg.refl _ _
 refine wp_seq_k fun K1 hK1 => ?_
 refine wp_region_lit ?_
 refine seg ha 1 [] (by kernel_rfl) fun a ha => ?_
 refine hK1 _ _ ?_; try clear hK1 K1
 refine wp_seq_k fun K2 hK2 => ?_
 refine wp_region_lit ?_
 obtain ⟨t3, H3, H⟩ := bind_some H
 refine cl ha (by rfl) (by kernel_rfl) (by rfl) (by rfl) (by rfl) (rd_Make.walk w _ hM (1 : Int) (167772161 : Int) (7 : Int) k _ H3) ?_
 rintro _ w3 ⟨rfl, hc3, hMn⟩ a ha
 have o1 : Ok [] (M) w.heap.size := Ok.nil _ _
 have o2 : Ok (M) (M) w.heap.size := (Ok.refl _ _)
 have hG := hG.chg hc3 o1 o2
 have hM : MS (M) w3 := (hM.chg hc3)
 have hC := hC.trans hc3 (Ok.nil _ _)
 refine seg ha 3 [(9, .agg (cA .u8 8 t3.1).toArray), (10, .int .i64 t3.2)] (by kernel_rfl) fun a ha => ?_
 refine al (cs := (cA .u8 8 (List.replicate 8 (0 : Int)))) (z := .agg (cA .u8 8 (List.replicate 8 (0 : Int))).toArray) ha (fun w => by kernel_rfl) rfl rfl rfl rfl fun a w4 g5 hN6 ha => ?_
 have o1 : Ok [] (M) w3.heap.size := Ok.nil _ _
 have o2 : Ok ([g5] ++ (M)) (M) w3.heap.size := (Ok.app (hN6.ok _) (Ok.refl _ _))
 have hG := hG.chg hN6.chg o1 o2
 have p_i7_M : ∀ x ∈ [g5], x ∉ M := fun x hx hy => absurd (hM x (hy)) (Nat.not_lt.2 ((hN6.ge1) x hx))
 have e_i7 : ∀ x ∈ [g5], w.heap.size ≤ x := fun x hx => Nat.le_trans hC.size ((hN6.ge1) x hx)
 have hM : MS ([g5] ++ (M)) w4 := (MS.app hN6.ms (hM.chg hN6.chg))
 have hC := hC.trans hN6.chg (Ok.nil _ _)
 have hBg5 : Box w4 g5 (cA .u8 8 (List.replicate 8 (0 : Int))) := hN6.box
 refine stA (l := (cA .u8 8 t3.1)) ha rfl rfl rfl (by kernel_rfl) rfl rfl hBg5 rfl fun a w8 ha hb2 hc9 _ => ?_
 have o1 : Ok [g5] ([g5] ++ (M)) w4.heap.size := (fun _ h => .inl (ml h))
 have o2 : Ok ([g5] ++ (M)) ([g5] ++ (M)) w4.heap.size := (Ok.refl _ _)
 have hG := hG.chg hc9 o1 o2
 have hM : MS ([g5] ++ (M)) w8 := (hM.chg hc9)
 have hC := hC.trans hc9 (fun x h => .inr (e_i7 x h))
 have hBg5 : Box w8 g5 (cA .u8 8 t3.1) := hb2
 refine seg ha 1 [(1, .pointer (some ⟨g5, 0, none⟩)), (2, .int .i64 t3.2)] (by kernel_rfl) fun a ha => ?_
 refine hK2 _ _ ?_; try clear hK2 K2
 refine wp_seq_k fun K10 hK10 => ?_
 refine wp_region_lit ?_
 obtain ⟨t11, H11, H⟩ := bind_some H
 refine cl ha (by rfl) (by kernel_rfl) (by rfl) (by rfl) (by rfl) (rd_Make.walk w8 _ hM (0 : Int) (65536 : Int) (0 : Int) k _ H11) ?_
 rintro _ w11 ⟨rfl, hc11, hMn⟩ a ha
 have o1 : Ok [] ([g5] ++ (M)) w8.heap.size := Ok.nil _ _
 have o2 : Ok ([g5] ++ (M)) ([g5] ++ (M)) w8.heap.size := (Ok.refl _ _)
 have hG := hG.chg hc11 o1 o2
 have hBg5 := hBg5.chg hc11 (fun h => nomatch h)
 have hM : MS ([g5] ++ (M)) w11 := (hM.chg hc11)
 have hC := hC.trans hc11 (Ok.nil _ _)
 refine seg ha 3 [(1, .pointer (some ⟨g5, 0, none⟩)), (2, .int .i64 t3.2), (13, .agg (cA .u8 8 t11.1).toArray), (14, .int .i64 t11.2)] (by kernel_rfl) fun a ha => ?_
 refine al (cs := (cA .u8 8 (List.replicate 8 (0 : Int)))) (z := .agg (cA .u8 8 (List.replicate 8 (0 : Int))).toArray) ha (fun w => by kernel_rfl) rfl rfl rfl rfl fun a w12 g13 hN14 ha => ?_
 have o1 : Ok [] ([g5] ++ (M)) w11.heap.size := Ok.nil _ _
 have o2 : Ok ([g13] ++ ([g5] ++ (M))) ([g5] ++ (M)) w11.heap.size := (Ok.app (hN14.ok _) (Ok.refl _ _))
 have hG := hG.chg hN14.chg o1 o2
 have hBg5 := hBg5.chg hN14.chg (fun h => nomatch h)
 have p_i15_i7 : ∀ x ∈ [g13], x ∉ ([g5]) := fun x hx hy => absurd (hM x (ml hy)) (Nat.not_lt.2 ((hN14.ge1) x hx))
 have p_i15_M : ∀ x ∈ [g13], x ∉ M := fun x hx hy => absurd (hM x (mr (hy))) (Nat.not_lt.2 ((hN14.ge1) x hx))
 have e_i15 : ∀ x ∈ [g13], w.heap.size ≤ x := fun x hx => Nat.le_trans hC.size ((hN14.ge1) x hx)
 have hM : MS ([g13] ++ ([g5] ++ (M))) w12 := (MS.app hN14.ms (hM.chg hN14.chg))
 have hC := hC.trans hN14.chg (Ok.nil _ _)
 have hBg13 : Box w12 g13 (cA .u8 8 (List.replicate 8 (0 : Int))) := hN14.box
 refine stA (l := (cA .u8 8 t11.1)) ha rfl rfl rfl (by kernel_rfl) rfl rfl hBg13 rfl fun a w16 ha hb2 hc17 _ => ?_
 have o1 : Ok [g13] ([g13] ++ ([g5] ++ (M))) w12.heap.size := (fun _ h => .inl (ml h))
 have o2 : Ok ([g13] ++ ([g5] ++ (M))) ([g13] ++ ([g5] ++ (M))) w12.heap.size := (Ok.refl _ _)
 have hG := hG.chg hc17 o1 o2
 have hBg5 := hBg5.chg hc17 ((fun x (hx : x ∈ [g5]) (hy : x ∈ [g13]) => p_i15_i7 x hy hx) g5 (by simp))
 have hM : MS ([g13] ++ ([g5] ++ (M))) w16 := (hM.chg hc17)
 have hC := hC.trans hc17 (fun x h => .inr (e_i15 x h))
 have hBg13 : Box w16 g13 (cA .u8 8 t11.1) := hb2
 refine seg ha 1 [(1, .pointer (some ⟨g5, 0, none⟩)), (2, .int .i64 t3.2), (4, .int .i64 t11.2)] (by kernel_rfl) fun a ha => ?_
 refine hK10 _ _ ?_; try clear hK10 K10
 refine wp_seq_k fun K18 hK18 => ?_
 refine wp_region_lit ?_
 obtain ⟨t19, H19, H⟩ := bind_some H
 refine cl ha (by rfl) (by kernel_rfl) (by rfl) (by rfl) (by rfl) (rd_Parse.walk w16 _ hM hG ([48, 58, 54, 53, 48, 48, 48, 58, 55, 55] : List UInt8) k _ H19) ?_
 rintro _ w19 ⟨rfl, hc19, hMn⟩ a ha
 have o1 : Ok [] ([g13] ++ ([g5] ++ (M))) w16.heap.size := Ok.nil _ _
 have o2 : Ok ([g13] ++ ([g5] ++ (M))) ([g13] ++ ([g5] ++ (M))) w16.heap.size := (Ok.refl _ _)
 have hG := hG.chg hc19 o1 o2
 have hBg5 := hBg5.chg hc19 (fun h => nomatch h)
 have hBg13 := hBg13.chg hc19 (fun h => nomatch h)
 have hM : MS ([g13] ++ ([g5] ++ (M))) w19 := (hM.chg hc19)
 have hC := hC.trans hc19 (Ok.nil _ _)
 refine seg ha 3 [(1, .pointer (some ⟨g5, 0, none⟩)), (2, .int .i64 t3.2), (4, .int .i64 t11.2), (17, .agg (cA .u8 8 t19.1).toArray), (18, .int .i64 t19.2)] (by kernel_rfl) fun a ha => ?_
 refine al (cs := (cA .u8 8 (List.replicate 8 (0 : Int)))) (z := .agg (cA .u8 8 (List.replicate 8 (0 : Int))).toArray) ha (fun w => by kernel_rfl) rfl rfl rfl rfl fun a w20 g21 hN22 ha => ?_
 have o1 : Ok [] ([g13] ++ ([g5] ++ (M))) w19.heap.size := Ok.nil _ _
 have o2 : Ok ([g21] ++ ([g13] ++ ([g5] ++ (M)))) ([g13] ++ ([g5] ++ (M))) w19.heap.size := (Ok.app (hN22.ok _) (Ok.refl _ _))
 have hG := hG.chg hN22.chg o1 o2
 have hBg5 := hBg5.chg hN22.chg (fun h => nomatch h)
 have hBg13 := hBg13.chg hN22.chg (fun h => nomatch h)
 have p_i23_i15 : ∀ x ∈ [g21], x ∉ ([g13]) := fun x hx hy => absurd (hM x (ml hy)) (Nat.not_lt.2 ((hN22.ge1) x hx))
 have p_i23_i7 : ∀ x ∈ [g21], x ∉ ([g5]) := fun x hx hy => absurd (hM x (mr (ml hy))) (Nat.not_lt.2 ((hN22.ge1) x hx))
 have p_i23_M : ∀ x ∈ [g21], x ∉ M := fun x hx hy => absurd (hM x (mr (mr (hy)))) (Nat.not_lt.2 ((hN22.ge1) x hx))
 have e_i23 : ∀ x ∈ [g21], w.heap.size ≤ x := fun x hx => Nat.le_trans hC.size ((hN22.ge1) x hx)
 have hM : MS ([g21] ++ ([g13] ++ ([g5] ++ (M)))) w20 := (MS.app hN22.ms (hM.chg hN22.chg))
 have hC := hC.trans hN22.chg (Ok.nil _ _)
 have hBg21 : Box w20 g21 (cA .u8 8 (List.replicate 8 (0 : Int))) := hN22.box
 refine stA (l := (cA .u8 8 t19.1)) ha rfl rfl rfl (by kernel_rfl) rfl rfl hBg21 rfl fun a w24 ha hb2 hc25 _ => ?_
 have o1 : Ok [g21] ([g21] ++ ([g13] ++ ([g5] ++ (M)))) w20.heap.size := (fun _ h => .inl (ml h))
 have o2 : Ok ([g21] ++ ([g13] ++ ([g5] ++ (M)))) ([g21] ++ ([g13] ++ ([g5] ++ (M)))) w20.heap.size := (Ok.refl _ _)
 have hG := hG.chg hc25 o1 o2
 have hBg5 := hBg5.chg hc25 ((fun x (hx : x ∈ [g5]) (hy : x ∈ [g21]) => p_i23_i7 x hy hx) g5 (by simp))
 have hBg13 := hBg13.chg hc25 ((fun x (hx : x ∈ [g13]) (hy : x ∈ [g21]) => p_i23_i15 x hy hx) g13 (by simp))
 have hM : MS ([g21] ++ ([g13] ++ ([g5] ++ (M)))) w24 := (hM.chg hc25)
 have hC := hC.trans hc25 (fun x h => .inr (e_i23 x h))
 have hBg21 : Box w24 g21 (cA .u8 8 t19.1) := hb2
 refine seg ha 1 [(1, .pointer (some ⟨g5, 0, none⟩)), (2, .int .i64 t3.2), (4, .int .i64 t11.2), (5, .pointer (some ⟨g21, 0, none⟩)), (6, .int .i64 t19.2)] (by kernel_rfl) fun a ha => ?_
 refine hK18 _ _ ?_; try clear hK18 K18
 refine wp_seq_k fun K26 hK26 => ?_
 refine wp_region_lit ?_
 obtain ⟨s27, H27, H⟩ := bind_some H
 have J27 : ∀ (a : Act) (w27 : World), Has a Tryz.f8.ntmps [(0, .bool s27)] → (Box w27 g5 (cA .u8 8 t3.1)) → (Box w27 g13 (cA .u8 8 t11.1)) → (Box w27 g21 (cA .u8 8 t19.1)) → (GF w27 ([g21] ++ ([g13] ++ ([g5] ++ (M))))) → (Chg [] w w27) → (MS ([g21] ++ ([g13] ++ ([g5] ++ (M)))) w27) → K26 a w27 := by
  intro a w27 ha hBg5 hBg13 hBg21 hG hC hM
  refine hK26 _ _ ?_; try clear hK26 K26
  refine wp_ret ?_
  try simp only [Exit.then, Exit.inBlock]
  have o1 : Ok [] ([g21] ++ ([g13] ++ ([g5] ++ (M)))) w27.heap.size := Ok.nil _ _
  have o2 : Ok (M) ([g21] ++ ([g13] ++ ([g5] ++ (M)))) w27.heap.size := (fun _ h => .inl (mr (mr (mr (h)))))
  have hG := hG.chg (Chg.refl [] _) o1 o2
  have hBg5 := hBg5.chg (Chg.refl [] _) (fun h => nomatch h)
  have hBg13 := hBg13.chg (Chg.refl [] _) (fun h => nomatch h)
  have hBg21 := hBg21.chg (Chg.refl [] _) (fun h => nomatch h)
  have hM : MS (M) w27 := (fun x h => hM.chg (Chg.refl [] _) x (mr (mr (mr (h)))))
  have hC := hC.trans (Chg.refl [] _) (Ok.nil _ _)
  obtain rfl := Option.some.inj H
  refine rt1 ha rfl rfl ?_
  exact ⟨rfl, hC, hM⟩
 have H := H27
 refine seg ha 3 [(21, .bool (t3.2 == (0 : Int))), (1, .pointer (some ⟨g5, 0, none⟩)), (4, .int .i64 t11.2), (5, .pointer (some ⟨g21, 0, none⟩)), (6, .int .i64 t19.2)] (by kernel_rfl) fun a ha => ?_
 rcases Bool.eq_false_or_eq_true (t3.2 == (0 : Int)) with hb28 | hb28
 ·have ha := ha.lit hb28
  have H := ite_t hb28 H
  refine ldA (cs := (cA .u8 8 t3.1)) ha rfl (by kernel_rfl) rfl rfl rfl (cells_sub (Box.cells hBg5) (all := (cA .u8 8 t3.1)) [] [] (by kernel_rfl)) fun a ha => ?_
  obtain ⟨t29, H29, H⟩ := bind_some H
  refine cl ha (by rfl) (by kernel_rfl) (by rfl) (by rfl) (by rfl) (rd_Text.walk w24 _ hM hG t3.1 k _ H29) ?_
  rintro _ w29 ⟨rfl, hc29, hMn⟩ a ha
  have o1 : Ok [] ([g21] ++ ([g13] ++ ([g5] ++ (M)))) w24.heap.size := Ok.nil _ _
  have o2 : Ok ([g21] ++ ([g13] ++ ([g5] ++ (M)))) ([g21] ++ ([g13] ++ ([g5] ++ (M)))) w24.heap.size := (Ok.refl _ _)
  have hG := hG.chg hc29 o1 o2
  have hBg5 := hBg5.chg hc29 (fun h => nomatch h)
  have hBg13 := hBg13.chg hc29 (fun h => nomatch h)
  have hBg21 := hBg21.chg hc29 (fun h => nomatch h)
  have hM : MS ([g21] ++ ([g13] ++ ([g5] ++ (M)))) w29 := (hM.chg hc29)
  have hC := hC.trans hc29 (Ok.nil _ _)
  refine sgh ha 3 [2, 3, 0] [(26, .bool ((bstr t29).toList == (bstr ([49, 58, 49, 48, 46, 48, 46, 48, 46, 49, 58, 55] : List UInt8)).toList)), (4, .int .i64 t11.2), (5, .pointer (some ⟨g21, 0, none⟩)), (6, .int .i64 t19.2)] (by kernel_rfl) fun a ha => ?_
  rcases Bool.eq_false_or_eq_true ((bstr t29).toList == (bstr ([49, 58, 49, 48, 46, 48, 46, 48, 46, 49, 58, 55] : List UInt8)).toList) with hb30 | hb30
  ·have ha := ha.lit hb30
   have H := ite_t hb30 H
   refine sgh ha 4 [2, 2, 3, 0] [(30, .bool (t11.2 == (5 : Int))), (5, .pointer (some ⟨g21, 0, none⟩)), (6, .int .i64 t19.2)] (by kernel_rfl) fun a ha => ?_
   rcases Bool.eq_false_or_eq_true (t11.2 == (5 : Int)) with hb31 | hb31
   ·have ha := ha.lit hb31
    have H := ite_t hb31 H
    refine sgh ha 4 [2, 2, 3, 0] [(34, .bool (t19.2 == (0 : Int))), (5, .pointer (some ⟨g21, 0, none⟩))] (by kernel_rfl) fun a ha => ?_
    rcases Bool.eq_false_or_eq_true (t19.2 == (0 : Int)) with hb32 | hb32
    ·have ha := ha.lit hb32
     have H := ite_t hb32 H
     refine ldA (cs := (cA .u8 8 t19.1)) ha rfl (by kernel_rfl) rfl rfl rfl (cells_sub (Box.cells hBg21) (all := (cA .u8 8 t19.1)) [] [] (by kernel_rfl)) fun a ha => ?_
     refine opk (v := .agg (cA .u8 8 ([(0 : Int), (0 : Int), (253 : Int), (232 : Int), (0 : Int), (0 : Int), (0 : Int), (77 : Int)] : List Int)).toArray) ha rfl rfl rfl rfl rfl (fun w => by kernel_rfl) fun a ha => ?_
     refine hop (v := .bool (eqA 8 t19.1 ([(0 : Int), (0 : Int), (253 : Int), (232 : Int), (0 : Int), (0 : Int), (0 : Int), (77 : Int)] : List Int))) (w' := w29) ha rfl rfl rfl (eqs_run (r := (eqA 8 t19.1 ([(0 : Int), (0 : Int), (253 : Int), (232 : Int), (0 : Int), (0 : Int), (0 : Int), (77 : Int)] : List Int))) (m := 9) ha rfl rfl (by kernel_rfl) rfl (by kernel_rfl) _) fun a ha => ?_
     refine sgh ha 2 [3, 0] [(39, .bool (eqA 8 t19.1 ([(0 : Int), (0 : Int), (253 : Int), (232 : Int), (0 : Int), (0 : Int), (0 : Int), (77 : Int)] : List Int)))] (by kernel_rfl) fun a ha => ?_
     rcases Bool.eq_false_or_eq_true ((eqA 8 t19.1 ([(0 : Int), (0 : Int), (253 : Int), (232 : Int), (0 : Int), (0 : Int), (0 : Int), (77 : Int)] : List Int))) with hb33 | hb33
     ·have ha := ha.lit hb33
      have H := ite_t hb33 H
      refine opk (v := .agg (cA .u8 8 ([(0 : Int), (9 : Int), (0 : Int), (0 : Int), (0 : Int), (0 : Int), (0 : Int), (1 : Int)] : List Int)).toArray) ha rfl rfl rfl rfl rfl (fun w => by kernel_rfl) fun a ha => ?_
      obtain ⟨t34, H34, H⟩ := bind_some H
      refine cl ha (by rfl) (by kernel_rfl) (by rfl) (by rfl) (by rfl) (rd_Text.walk w29 _ hM hG ([(0 : Int), (9 : Int), (0 : Int), (0 : Int), (0 : Int), (0 : Int), (0 : Int), (1 : Int)] : List Int) k _ H34) ?_
      rintro _ w34 ⟨rfl, hc34, hMn⟩ a ha
      have o1 : Ok [] ([g21] ++ ([g13] ++ ([g5] ++ (M)))) w29.heap.size := Ok.nil _ _
      have o2 : Ok ([g21] ++ ([g13] ++ ([g5] ++ (M)))) ([g21] ++ ([g13] ++ ([g5] ++ (M)))) w29.heap.size := (Ok.refl _ _)
      have hG := hG.chg hc34 o1 o2
      have hBg5 := hBg5.chg hc34 (fun h => nomatch h)
      have hBg13 := hBg13.chg hc34 (fun h => nomatch h)
      have hBg21 := hBg21.chg hc34 (fun h => nomatch h)
      have hM : MS ([g21] ++ ([g13] ++ ([g5] ++ (M)))) w34 := (hM.chg hc34)
      have hC := hC.trans hc34 (Ok.nil _ _)
      refine sgh ha 3 [2, 3, 0] [(0, .bool ((bstr t34).toList == (bstr ([63, 58, 48, 48, 48, 57, 48, 48, 48, 48, 48, 48, 48, 48, 48, 48, 48, 49] : List UInt8)).toList))] (by kernel_rfl) fun a ha => ?_
      obtain rfl := Option.some.inj H
      exact J27 _ _ (ha.sel (by kernel_rfl)) hBg5 hBg13 hBg21 hG hC hM
     ·have ha := ha.lit hb33
      have H := ite_f hb33 H
      refine sgh ha 5 [1, 1, 1, 4, 0] [(0, .bool false)] (by kernel_rfl) fun a ha => ?_
      obtain rfl := Option.some.inj H
      exact J27 _ _ (ha.sel (by kernel_rfl)) hBg5 hBg13 hBg21 hG hC hM
    ·have ha := ha.lit hb32
     have H := ite_f hb32 H
     refine sgh ha 10 [1, 1, 1, 4, 0, 1, 1, 1, 4, 0] [(0, .bool false)] (by kernel_rfl) fun a ha => ?_
     obtain rfl := Option.some.inj H
     exact J27 _ _ (ha.sel (by kernel_rfl)) hBg5 hBg13 hBg21 hG hC hM
   ·have ha := ha.lit hb31
    have H := ite_f hb31 H
    refine sgh ha 14 [1, 1, 4, 0, 1, 1, 1, 4, 0, 1, 1, 1, 4, 0] [(0, .bool false)] (by kernel_rfl) fun a ha => ?_
    obtain rfl := Option.some.inj H
    exact J27 _ _ (ha.sel (by kernel_rfl)) hBg5 hBg13 hBg21 hG hC hM
  ·have ha := ha.lit hb30
   have H := ite_f hb30 H
   refine sgh ha 18 [1, 1, 4, 0, 1, 1, 4, 0, 1, 1, 1, 4, 0, 1, 1, 1, 4, 0] [(0, .bool false)] (by kernel_rfl) fun a ha => ?_
   obtain rfl := Option.some.inj H
   exact J27 _ _ (ha.sel (by kernel_rfl)) hBg5 hBg13 hBg21 hG hC hM
 ·have ha := ha.lit hb28
  have H := ite_f hb28 H
  refine sgh ha 23 [1, 1, 1, 4, 0, 1, 1, 4, 0, 1, 1, 4, 0, 1, 1, 1, 4, 0, 1, 1, 1, 4, 0] [(0, .bool false)] (by kernel_rfl) fun a ha => ?_
  obtain rfl := Option.some.inj H
  exact J27 _ _ (ha.sel (by kernel_rfl)) hBg5 hBg13 hBg21 hG hC hM
def vineryref03_split.l0 (a0 : List UInt8) : Nat → (List (List UInt8)) → Int → Option (List (List UInt8))
  | 0, _, _ => none
  | kk + 1, x12, x13 => (if (decide (x13 < ((bstr a0).size : Int))) = true then (if 0 ≤ x13 ∧ x13 < (a0.length : Int) then (if (((a0.getD (Int.toNat x13) 0).toNat : Int) == (58 : Int)) = true then (if (x12.length + ([([] : List UInt8)] : List (List UInt8)).length) * 16 ≤ 140737488355328 then vineryref03_split.l0 a0 kk (x12 ++ ([([] : List UInt8)] : List (List UInt8))) (IntKind.i64.wrap (x13 + (1 : Int))) else none) else (if 0 ≤ (IntKind.i64.wrap ((x12.length : Int) - (1 : Int))) ∧ (IntKind.i64.wrap ((x12.length : Int) - (1 : Int))) < (x12.length : Int) then (if 0 ≤ x13 ∧ x13 ≤ (IntKind.i64.wrap (x13 + (1 : Int))) ∧ (IntKind.i64.wrap (x13 + (1 : Int))) ≤ (a0.length : Int) then (if ((rd x12 (IntKind.i64.wrap ((x12.length : Int) - (1 : Int)))) ++ ((a0.take (Int.toNat (IntKind.i64.wrap (x13 + (1 : Int))))).drop (Int.toNat x13))).length ≤ 9223372036854775807 then (if 0 ≤ (IntKind.i64.wrap ((x12.length : Int) - (1 : Int))) ∧ (IntKind.i64.wrap ((x12.length : Int) - (1 : Int))) < (x12.length : Int) then vineryref03_split.l0 a0 kk (x12.set (Int.toNat (IntKind.i64.wrap ((x12.length : Int) - (1 : Int)))) ((rd x12 (IntKind.i64.wrap ((x12.length : Int) - (1 : Int)))) ++ ((a0.take (Int.toNat (IntKind.i64.wrap (x13 + (1 : Int))))).drop (Int.toNat x13)))) (IntKind.i64.wrap (x13 + (1 : Int))) else none) else none) else none) else none)) else none) else some (x12 : List (List UInt8)))
def vineryref03_split.f (k : Nat) (a0 : List UInt8) : Option (List (List UInt8)) := (vineryref03_split.l0 a0 k ([([] : List UInt8)] : List (List UInt8)) (0 : Int)).bind fun s10 => some ((s10 : List (List UInt8)))
set_option maxRecDepth 100000 in
theorem vineryref03_split.walk (w : World) (M : List Nat) (hM : MS M w) (a0 : List UInt8) (k : Nat) (r : List (List UInt8)) (H : vineryref03_split.f k a0 = some r) :
    To Tryz.prog 33 [.string (bstr a0)] w fun v w' => ∃ (ao46 : Option Addr) (cap46 : Nat), v = .slice ao46 r.length cap46 ∧ (Own rStr 9 w' (blkL ao46 ++ (M)) ao46 cap46 r) ∧ (∀ x ∈ blkL ao46, w.heap.size ≤ x) ∧ Chg [] w w' ∧ MS (blkL ao46 ++ (M)) w' := by
 unfold vineryref03_split.f at H
 refine ent Tryz.func33 rfl [(0, .string (bstr a0))] rfl (by rfl) fun a ha => ?_
 have hC : Chg [] w w := Chg.refl _ _
 refine wp_seq_k fun K1 hK1 => ?_
 refine wp_region_lit ?_
 refine seg ha 1 [(0, .string (bstr a0))] (by kernel_rfl) fun a ha => ?_
 refine hK1 _ _ ?_; try clear hK1 K1
 refine wp_seq_k fun K2 hK2 => ?_
 refine wp_region_lit ?_
 refine bsl (vals := ([.string (bstr ([] : List UInt8))] : List Value)) (T := 9) ha rfl (([.string (bstr ([] : List UInt8))] : List Value) ++ ([] : List Value)) (fun w => by kernel_rfl) rfl rfl rfl fun a w3 g4 hN5 ha => ?_
 have p_i6_M : ∀ x ∈ [g4], x ∉ M := fun x hx hy => absurd (hM x (hy)) (Nat.not_lt.2 ((hN5.ge1) x hx))
 have e_i6 : ∀ x ∈ [g4], w.heap.size ≤ x := fun x hx => Nat.le_trans hC.size ((hN5.ge1) x hx)
 have hM : MS ([g4] ++ (M)) w3 := (MS.app hN5.ms (hM.chg hN5.chg))
 have hC := hC.trans hN5.chg (Ok.nil _ _)
 have f7 : Own rStr 9 w3 ([g4] ++ (M)) (some ⟨g4, 0, none⟩) 1 ([([] : List UInt8)] : List (List UInt8)) := hN5.own ⟨([.string (bstr ([] : List UInt8))] : List Value), _, rfl, rfl, rfl⟩ (Nat.le_of_ble_eq_true rfl)
 refine seg ha 1 [(0, .string (bstr a0)), (3, .slice (some ⟨g4, 0, none⟩) ([([] : List UInt8)] : List (List UInt8)).length 1)] (by kernel_rfl) fun a ha => ?_
 refine hK2 _ _ ?_; try clear hK2 K2
 refine wp_seq_k fun K8 hK8 => ?_
 refine wp_seq_k fun K9 hK9 => ?_
 refine wp_region_lit ?_
 refine seg ha 1 [(0, .string (bstr a0)), (3, .slice (some ⟨g4, 0, none⟩) ([([] : List UInt8)] : List (List UInt8)).length 1), (4, .int .i64 (0 : Int))] (by kernel_rfl) fun a ha => ?_
 refine hK9 _ _ ?_; try clear hK9 K9
 refine wp_block ?_
 obtain ⟨s10, H10, H⟩ := bind_some H
 have J10 : ∀ (a : Act) (wx10 : World) (ao14 : Option Addr) (cap14 : Nat), Has a Tryz.f33.ntmps [(3, .slice ao14 s10.length cap14)] → (Own rStr 9 wx10 (blkL ao14 ++ (M)) ao14 cap14 s10) → (∀ x ∈ blkL ao14, w.heap.size ≤ x) → (∀ x ∈ blkL ao14, x ∉ M) → (Chg [] w wx10) → (MS (blkL ao14 ++ (M)) wx10) → K8 a wx10 := by
  intro a wx10 ao14 cap14 ha f14 e_i14 p_i14_M hC hM
  refine hK8 _ _ ?_; try clear hK8 K8
  refine wp_seq_k fun K15 hK15 => ?_
  refine wp_region_lit ?_
  refine seg ha 2 [(2, .slice ao14 s10.length cap14)] (by kernel_rfl) fun a ha => ?_
  refine hK15 _ _ ?_; try clear hK15 K15
  refine wp_ret ?_
  try simp only [Exit.then, Exit.inBlock]
  obtain rfl := Option.some.inj H
  refine rt1 ha rfl rfl ?_
  exact ⟨ao14, cap14, rfl, f14, e_i14, hC, hM⟩
 have Hc10 := H
 have H := H10
 refine wp_loop_ghost (fun kk a w10 => ∃ (x12 : List (List UInt8)) (x13 : Int) (ao11 : Option Addr) (cap11 : Nat), vineryref03_split.l0 a0 kk x12 x13 = some s10 ∧ Has a Tryz.f33.ntmps [(0, .string (bstr a0)), (3, .slice ao11 x12.length cap11), (4, .int .i64 x13)] ∧ (Own rStr 9 w10 (blkL ao11 ++ (M)) ao11 cap11 x12) ∧ (∀ x ∈ blkL ao11, w.heap.size ≤ x) ∧ (∀ x ∈ blkL ao11, x ∉ M) ∧ (Chg [] w w10) ∧ (MS (blkL ao11 ++ (M)) w10)) k ?_ ?_
 ·skip
  exact ⟨([([] : List UInt8)] : List (List UInt8)), (0 : Int), (some ⟨g4, 0, none⟩), 1, H, (ha.sel (by kernel_rfl)), f7, e_i6, p_i6_M, hC, hM⟩
 ·rintro kk a w10 ⟨x12, x13, ao11, cap11, H, ha, f11, e_i11, p_i11_M, hC, hM⟩
  obtain _ | kk := kk
  ·exact nomatch (show none = some _ from H)
  rw [vineryref03_split.l0] at H
  refine wp_seq_k fun K16 hK16 => ?_
  refine wp_seq_k fun K17 hK17 => ?_
  refine wp_region_lit ?_
  refine seg ha 4 [(0, .string (bstr a0)), (3, .slice ao11 x12.length cap11), (4, .int .i64 x13), (9, .bool (decide (x13 < ((bstr a0).size : Int))))] (by kernel_rfl) fun a ha => ?_
  refine hK17 _ _ ?_; try clear hK17 K17
  refine cnd ha rfl (fun hc18 => ?_) (fun hc18 => ?_)
  ·have H := ite_t hc18 H
   refine wp_skip ?_
   refine hK16 _ _ ?_; try clear hK16 K16
   refine wp_seq_k fun K19 hK19 => ?_
   refine wp_block ?_
   refine wp_seq_k fun K20 hK20 => ?_
   refine wp_region_lit ?_
   refine seg ha 2 [(0, .string (bstr a0)), (3, .slice ao11 x12.length cap11), (4, .int .i64 x13), (12, .string (bstr a0)), (13, .int .i64 x13)] (by kernel_rfl) fun a ha => ?_
   obtain ⟨⟨hx21, hx21'⟩, H⟩ := ite_some H
   refine hop (v := .int .u8 ((a0.getD (Int.toNat x13) 0).toNat : Int)) (w' := w10) ha rfl rfl rfl (sidx_run (l := a0) (k := .i64) (i := x13) ha (by kernel_rfl) (by rfl) (by rfl) hx21 hx21' _) fun a ha => ?_
   refine seg ha 1 [(0, .string (bstr a0)), (3, .slice ao11 x12.length cap11), (4, .int .i64 x13), (15, .bool (((a0.getD (Int.toNat x13) 0).toNat : Int) == (58 : Int)))] (by kernel_rfl) fun a ha => ?_
   refine hK20 _ _ ?_; try clear hK20 K20
   refine cnd ha rfl (fun hc22 => ?_) (fun hc22 => ?_)
   ·have H := ite_t hc22 H
    refine wp_region_lit ?_
    refine seg ha 1 [(0, .string (bstr a0)), (4, .int .i64 x13), (16, .slice ao11 x12.length cap11)] (by kernel_rfl) fun a ha => ?_
    refine bsl (vals := ([.string (bstr ([] : List UInt8))] : List Value)) (T := 9) ha rfl (([.string (bstr ([] : List UInt8))] : List Value) ++ ([] : List Value)) (fun w => by kernel_rfl) rfl rfl rfl fun a w23 g24 hN25 ha => ?_
    have o1 : Ok [] (blkL ao11 ++ (M)) w10.heap.size := Ok.nil _ _
    have o2 : Ok ([g24] ++ (blkL ao11 ++ (M))) (blkL ao11 ++ (M)) w10.heap.size := (Ok.app (hN25.ok _) (Ok.refl _ _))
    have f11 := f11.chg hN25.chg o1 o2 (fun _ _ h => nomatch h) (fun _ h => mr (ml h))
    have p_i26_i11 : ∀ x ∈ [g24], x ∉ (blkL ao11) := fun x hx hy => absurd (hM x (ml hy)) (Nat.not_lt.2 ((hN25.ge1) x hx))
    have p_i26_M : ∀ x ∈ [g24], x ∉ M := fun x hx hy => absurd (hM x (mr (hy))) (Nat.not_lt.2 ((hN25.ge1) x hx))
    have e_i26 : ∀ x ∈ [g24], w.heap.size ≤ x := fun x hx => Nat.le_trans hC.size ((hN25.ge1) x hx)
    have hM : MS ([g24] ++ (blkL ao11 ++ (M))) w23 := (MS.app hN25.ms (hM.chg hN25.chg))
    have hC := hC.trans hN25.chg (Ok.nil _ _)
    have f27 : Own rStr 9 w23 ([g24] ++ (blkL ao11 ++ (M))) (some ⟨g24, 0, none⟩) 1 ([([] : List UInt8)] : List (List UInt8)) := hN25.own ⟨([.string (bstr ([] : List UInt8))] : List Value), _, rfl, rfl, rfl⟩ (Nat.le_of_ble_eq_true rfl)
    obtain ⟨hx28, H⟩ := ite_some H
    refine app (r := rStr) (xs := x12) (ys := ([([] : List UInt8)] : List (List UInt8))) ha (ElemT.mk' (bytes := 16) (by kernel_rfl)) rfl rfl rfl rfl rfl f11 f27.src hx28 (by decide) fun a w29 ao30 cap30 hO30 hc30 hk30 hl30 ha => ?_
    have o1 : Ok (blkL ao11) ([g24] ++ (blkL ao11 ++ (M))) w23.heap.size := (fun _ h => .inl (mr (ml h)))
    have o2 : Ok (blkL ao30 ++ ([g24] ++ (M))) ([g24] ++ (blkL ao11 ++ (M))) w23.heap.size := (Ok.app (Ok.to hk30 (fun _ h => mr (ml h))) (Ok.app (fun _ h => .inl (ml h)) (fun _ h => .inl (mr (mr (h))))))
    have f27 := f27.chg hc30 o1 o2 p_i26_i11 (fun _ h => mr (ml h))
    have p_i30_i26 : ∀ x ∈ blkL ao30, x ∉ ([g24]) := fun x hx hy => (hk30 x hx).elim (fun h => (fun x hx hy => p_i26_i11 x hy hx) x h hy) (fun h => absurd (hM x (ml hy)) (Nat.not_lt.2 h))
    have p_i30_M : ∀ x ∈ blkL ao30, x ∉ M := fun x hx hy => (hk30 x hx).elim (fun h => p_i11_M x h hy) (fun h => absurd (hM x (mr (mr (hy)))) (Nat.not_lt.2 h))
    have e_i30 : ∀ x ∈ blkL ao30, w.heap.size ≤ x := fun x hx => (hk30 x hx).elim (e_i11 x) (Nat.le_trans hC.size)
    have hM : MS (blkL ao30 ++ ([g24] ++ (M))) w29 := (MS.app hl30 (MS.app (fun x h => hM.chg hc30 x (ml h)) (fun x h => hM.chg hc30 x (mr (mr (h))))))
    have hC := hC.trans hc30 (fun x h => .inr (e_i11 x h))
    have f30 := hO30.chg (M' := blkL ao30 ++ ([g24] ++ (M))) (Chg.refl [] _) (Ok.nil _ _) (Ok.app (fun _ h => .inl (ml h)) (Ok.to (Ok.app (fun _ h => .inl (ml h)) (fun _ h => .inl (mr (mr (h))))) (fun _ h => mr h))) (fun _ _ h => nomatch h) (fun _ h => ml h)
    refine seg ha 1 [(0, .string (bstr a0)), (3, .slice ao30 (x12 ++ ([([] : List UInt8)] : List (List UInt8))).length cap30), (4, .int .i64 x13)] (by kernel_rfl) fun a ha => ?_
    refine hK19 _ _ ?_; try clear hK19 K19
    refine wp_region_lit ?_
    refine seg ha 3 [(0, .string (bstr a0)), (3, .slice ao30 (x12 ++ ([([] : List UInt8)] : List (List UInt8))).length cap30), (4, .int .i64 (IntKind.i64.wrap (x13 + (1 : Int))))] (by kernel_rfl) fun a ha => ?_
    have o1 : Ok [] (blkL ao30 ++ ([g24] ++ (M))) w29.heap.size := Ok.nil _ _
    have o2 : Ok (blkL ao30 ++ (M)) (blkL ao30 ++ ([g24] ++ (M))) w29.heap.size := (Ok.app (fun _ h => .inl (ml h)) (fun _ h => .inl (mr (mr (h)))))
    have f30 := f30.chg (Chg.refl [] _) o1 o2 (fun _ _ h => nomatch h) (fun _ h => ml h)
    have hM : MS (blkL ao30 ++ (M)) w29 := (MS.app (fun x h => hM.chg (Chg.refl [] _) x (ml h)) (fun x h => hM.chg (Chg.refl [] _) x (mr (mr (h)))))
    have hC := hC.trans (Chg.refl [] _) (Ok.nil _ _)
    exact ⟨kk, Nat.lt_succ_self _, ⟨(x12 ++ ([([] : List UInt8)] : List (List UInt8))), IntKind.i64.wrap (x13 + (1 : Int)), ao30, cap30, H, (ha.sel (by kernel_rfl)), f30, e_i30, p_i30_M, hC, hM⟩⟩
   ·have H := ite_f hc22 H
    refine drq 17 (fun w' => Chg [] w10 w') (by kernel_rfl) (by kernel_rfl) (fun _ h => h) ?_
    refine qp 0 (.slice ao11 x12.length cap11) ha rfl rfl rfl (by kernel_rfl) fun a ha => ?_
    refine qp 0 (.slice ao11 x12.length cap11) ha rfl rfl rfl (by kernel_rfl) fun a ha => ?_
    refine qp 0 (.int .i64 (x12.length : Int)) ha rfl rfl rfl (by kernel_rfl) fun a ha => ?_
    refine qp 0 (.int .i64 (IntKind.i64.wrap ((x12.length : Int) - (1 : Int)))) ha rfl rfl rfl (by kernel_rfl) fun a ha => ?_
    refine qp 0 (.slice ao11 x12.length cap11) ha rfl rfl rfl (by kernel_rfl) fun a ha => ?_
    refine qp 0 (.slice ao11 x12.length cap11) ha rfl rfl rfl (by kernel_rfl) fun a ha => ?_
    refine qp 0 (.int .i64 (x12.length : Int)) ha rfl rfl rfl (by kernel_rfl) fun a ha => ?_
    refine qp 0 (.int .i64 (IntKind.i64.wrap ((x12.length : Int) - (1 : Int)))) ha rfl rfl rfl (by kernel_rfl) fun a ha => ?_
    obtain ⟨⟨hx31, hx31'⟩, H⟩ := ite_some H
    obtain ⟨ge32, oe330, cs34, hx31eq, hn37, hR35, hE36⟩ := RSl.elem (Own.toRSl (M' := []) f11 (Ok.nil _ _) (fun _ _ h => nomatch h)) (Int.toNat (IntKind.i64.wrap ((x12.length : Int) - (1 : Int)))) (by omega)
    rw [rd_get] at hR35
    obtain rfl := hR35
    have hE36 : ∀ j v, ([.string (bstr (rd x12 (IntKind.i64.wrap ((x12.length : Int) - (1 : Int)))))] : List Value)[j]? = some v → w10.cell? ⟨ge32, (oe330 + (Int.toNat (IntKind.i64.wrap ((x12.length : Int) - (1 : Int)))) * rStr.sz) + j, none⟩ = some v := hE36
    refine qv (v := .pointer (some ⟨ge32, (oe330 + (Int.toNat (IntKind.i64.wrap ((x12.length : Int) - (1 : Int)))) * rStr.sz), none⟩)) ha rfl rfl rfl (fun w' hs => ix_run (r := rStr) (T := 9) ha (by kernel_rfl) (by kernel_rfl) (by rfl) (by rfl) hx31eq hx31 hx31') fun a ha => ?_
    refine qv (v := .string (bstr (rd x12 (IntKind.i64.wrap ((x12.length : Int) - (1 : Int)))))) ha rfl rfl rfl (fun w' hs => ld_run ha rfl (by kernel_rfl) (hs.keep (hE36 0 (.string (bstr (rd x12 (IntKind.i64.wrap ((x12.length : Int) - (1 : Int)))))) (by kernel_rfl)))) fun a ha => ?_
    refine qp 0 (.string (bstr a0)) ha rfl rfl rfl (by kernel_rfl) fun a ha => ?_
    refine qp 0 (.int .i64 x13) ha rfl rfl rfl (by kernel_rfl) fun a ha => ?_
    refine qp 0 (.int .i64 x13) ha rfl rfl rfl (by kernel_rfl) fun a ha => ?_
    refine qp 0 (.int .i64 (IntKind.i64.wrap (x13 + (1 : Int)))) ha rfl rfl rfl (by kernel_rfl) fun a ha => ?_
    obtain ⟨⟨hx38, hx38', hx38''⟩, H⟩ := ite_some H
    refine qv (v := .string (bstr ((a0.take (Int.toNat (IntKind.i64.wrap (x13 + (1 : Int))))).drop (Int.toNat x13)))) ha rfl rfl rfl (fun w' hs => ssl_run (s := a0) (l := x13) (h := (IntKind.i64.wrap (x13 + (1 : Int)))) ha (by kernel_rfl) (by rfl) (by rfl) (by rfl) hx38 hx38' hx38'' w') fun a ha => ?_
    obtain ⟨hx39, H⟩ := ite_some H
    refine qv (v := .string (bstr ((rd x12 (IntKind.i64.wrap ((x12.length : Int) - (1 : Int)))) ++ ((a0.take (Int.toNat (IntKind.i64.wrap (x13 + (1 : Int))))).drop (Int.toNat x13))))) ha rfl rfl rfl (fun w' hs => sadd_run ha rfl rfl hx39 w') fun a ha => ?_
    obtain ⟨⟨hx40, hx40'⟩, H⟩ := ite_some H
    have hi40 : (Int.toNat (IntKind.i64.wrap ((x12.length : Int) - (1 : Int)))) < x12.length := by omega
    obtain ⟨ge40, ee40⟩ := Own.addr f11 hi40
    refine qv (v := .pointer (some ⟨ge40, (Int.toNat (IntKind.i64.wrap ((x12.length : Int) - (1 : Int)))), none⟩)) ha rfl rfl rfl (fun w' hs => ixO_run (r := rStr) (T := 9) (k := .i64) (i := IntKind.i64.wrap ((x12.length : Int) - (1 : Int))) rfl ha (by kernel_rfl) (by kernel_rfl) (by rfl) (by rfl) ee40 hx40 hx40' w') fun a ha => ?_
    refine wpQuiet_nil ?_
    intro w41 hc42
    have o1 : Ok [] (blkL ao11 ++ (M)) w10.heap.size := Ok.nil _ _
    have o2 : Ok (blkL ao11 ++ (M)) (blkL ao11 ++ (M)) w10.heap.size := (Ok.refl _ _)
    have f11 := f11.chg hc42 o1 o2 (fun _ _ h => nomatch h) (fun _ h => ml h)
    have hM : MS (blkL ao11 ++ (M)) w41 := (hM.chg hc42)
    have hC := hC.trans hc42 (Ok.nil _ _)
    refine stO (r := rStr) (z := (rd x12 (IntKind.i64.wrap ((x12.length : Int) - (1 : Int)))) ++ ((a0.take (Int.toNat (IntKind.i64.wrap (x13 + (1 : Int))))).drop (Int.toNat x13))) ha rfl rfl (by kernel_rfl) rfl rfl f11 rfl ee40 hi40 (fun _ _ => rfl) fun a w43 ha hO45 hc44 => ?_
    have hM : MS (blkL ao11 ++ (M)) w43 := (hM.chg hc44)
    have hC := hC.trans hc44 (fun x h => .inr (e_i11 x h))
    have f45 := hO45
    have hl45 : (x12.set (Int.toNat (IntKind.i64.wrap ((x12.length : Int) - (1 : Int)))) ((rd x12 (IntKind.i64.wrap ((x12.length : Int) - (1 : Int)))) ++ ((a0.take (Int.toNat (IntKind.i64.wrap (x13 + (1 : Int))))).drop (Int.toNat x13)))).length = x12.length := List.length_set
    have ha : Has a Tryz.f33.ntmps [(0, .string (bstr a0)), (3, .slice ao11 (x12.set (Int.toNat (IntKind.i64.wrap ((x12.length : Int) - (1 : Int)))) ((rd x12 (IntKind.i64.wrap ((x12.length : Int) - (1 : Int)))) ++ ((a0.take (Int.toNat (IntKind.i64.wrap (x13 + (1 : Int))))).drop (Int.toNat x13)))).length cap11), (4, .int .i64 x13), (34, .string (bstr ((rd x12 (IntKind.i64.wrap ((x12.length : Int) - (1 : Int)))) ++ ((a0.take (Int.toNat (IntKind.i64.wrap (x13 + (1 : Int))))).drop (Int.toNat x13)))))] := by rw [hl45]; exact ha.sel (by kernel_rfl)
    refine hK19 _ _ ?_; try clear hK19 K19
    refine wp_region_lit ?_
    refine seg ha 3 [(0, .string (bstr a0)), (3, .slice ao11 (x12.set (Int.toNat (IntKind.i64.wrap ((x12.length : Int) - (1 : Int)))) ((rd x12 (IntKind.i64.wrap ((x12.length : Int) - (1 : Int)))) ++ ((a0.take (Int.toNat (IntKind.i64.wrap (x13 + (1 : Int))))).drop (Int.toNat x13)))).length cap11), (4, .int .i64 (IntKind.i64.wrap (x13 + (1 : Int))))] (by kernel_rfl) fun a ha => ?_
    exact ⟨kk, Nat.lt_succ_self _, ⟨(x12.set (Int.toNat (IntKind.i64.wrap ((x12.length : Int) - (1 : Int)))) ((rd x12 (IntKind.i64.wrap ((x12.length : Int) - (1 : Int)))) ++ ((a0.take (Int.toNat (IntKind.i64.wrap (x13 + (1 : Int))))).drop (Int.toNat x13)))), IntKind.i64.wrap (x13 + (1 : Int)), ao11, cap11, H, (ha.sel (by kernel_rfl)), f45, e_i11, p_i11_M, hC, hM⟩⟩
  ·have H := ite_f hc18 H
   refine wp_exit ?_
   simp only [Exit.then, Exit.inBlock, ↓reduceIte, Nat.reduceEqDiff]
   obtain rfl := Option.some.inj H
   exact J10 _ _ ao11 cap11 (ha.sel (by kernel_rfl)) f11 e_i11 p_i11_M hC hM
def vineryref02_Digits.l0 (a0 : List UInt8) (a1 : Int) : Nat → Int → Int → Option ((Int) ⊕ (Int))
  | 0, _, _ => none
  | kk + 1, x10, x11 => (if (decide (x11 < ((bstr a0).size : Int))) = true then (((if 0 ≤ x11 ∧ x11 < (a0.length : Int) then (if (decide (((a0.getD (Int.toNat x11) 0).toNat : Int) ≥ (48 : Int))) = true then (if 0 ≤ x11 ∧ x11 < (a0.length : Int) then some (decide (((a0.getD (Int.toNat x11) 0).toNat : Int) ≤ (57 : Int)) : Bool) else none) else some (false : Bool)) else none)).bind fun s34 => (if s34 = true then (if 0 ≤ x11 ∧ x11 < (a0.length : Int) then some (IntKind.i64.wrap (IntKind.u8.wrap (((a0.getD (Int.toNat x11) 0).toNat : Int) - (48 : Int))) : Int) else none) else some ((-1 : Int) : Int))).bind fun s19 => (((if 0 ≤ x11 ∧ x11 < (a0.length : Int) then (if (decide (((a0.getD (Int.toNat x11) 0).toNat : Int) ≥ (97 : Int))) = true then (if 0 ≤ x11 ∧ x11 < (a0.length : Int) then some (decide (((a0.getD (Int.toNat x11) 0).toNat : Int) ≤ (102 : Int)) : Bool) else none) else some (false : Bool)) else none)).bind fun s27 => (if s27 = true then (if 0 ≤ x11 ∧ x11 < (a0.length : Int) then some (IntKind.i64.wrap ((IntKind.i64.wrap (IntKind.u8.wrap (((a0.getD (Int.toNat x11) 0).toNat : Int) - (97 : Int)))) + (10 : Int)) : Int) else none) else some (s19 : Int))).bind fun s21 => (if (if (decide (s21 < (0 : Int))) = true then true else (decide (s21 ≥ a1))) = true then some (.inl (((-1 : Int) : Int))) else vineryref02_Digits.l0 a0 a1 kk (IntKind.i64.wrap ((IntKind.i64.wrap (x10 * a1)) + s21)) (IntKind.i64.wrap (x11 + (1 : Int)))) else some (.inr (x10 : Int)))
def vineryref02_Digits.f (k : Nat) (a0 : List UInt8) (a1 : Int) (a2 : Int) : Option (Int) := (if (if (((bstr a0).size : Int) == (0 : Int)) = true then true else (decide (((bstr a0).size : Int) > a2))) = true then some (((-1 : Int) : Int)) else (vineryref02_Digits.l0 a0 a1 k (0 : Int) (0 : Int)).bind fun s9 => match s9 with | .inl r => some r | .inr s9' => some ((s9' : Int)))
set_option maxRecDepth 100000 in
theorem vineryref02_Digits.walk (w : World) (M : List Nat) (hM : MS M w) (a0 : List UInt8) (a1 : Int) (a2 : Int) (k : Nat) (r : Int) (H : vineryref02_Digits.f k a0 a1 a2 = some r) :
    To Tryz.prog 36 [.string (bstr a0), .int .i64 a1, .int .i64 a2] w fun v w' => v = .int .i64 r ∧ Chg [] w w' ∧ MS (M) w' := by
 unfold vineryref02_Digits.f at H
 refine ent Tryz.func36 rfl [(0, .string (bstr a0)), (1, .int .i64 a1), (2, .int .i64 a2)] rfl (by rfl) fun a ha => ?_
 have hC : Chg [] w w := Chg.refl _ _
 refine wp_seq_k fun K1 hK1 => ?_
 refine wp_region_lit ?_
 refine seg ha 1 [(0, .string (bstr a0)), (1, .int .i64 a1), (2, .int .i64 a2)] (by kernel_rfl) fun a ha => ?_
 refine hK1 _ _ ?_; try clear hK1 K1
 refine wp_seq_k fun K2 hK2 => ?_
 refine wp_seq_k fun K3 hK3 => ?_
 refine wp_region_lit ?_
 refine seg ha 9 [(0, .string (bstr a0)), (1, .int .i64 a1), (18, .bool (if (((bstr a0).size : Int) == (0 : Int)) = true then true else (decide (((bstr a0).size : Int) > a2))))] (by kernel_rfl) fun a ha => ?_
 refine hK3 _ _ ?_; try clear hK3 K3
 refine cnd ha rfl (fun hc4 => ?_) (fun hc4 => ?_)
 ·have H := ite_t hc4 H
  refine wp_seq_k fun K5 hK5 => ?_
  refine wp_region_lit ?_
  refine seg ha 1 [(6, .int .i64 (-1 : Int))] (by kernel_rfl) fun a ha => ?_
  refine hK5 _ _ ?_; try clear hK5 K5
  refine wp_ret ?_
  try simp only [Exit.then, Exit.inBlock]
  obtain rfl := Option.some.inj H
  refine rt1 ha rfl rfl ?_
  exact ⟨rfl, hC, hM⟩
 ·have H := ite_f hc4 H
  refine wp_skip ?_
  refine hK2 _ _ ?_; try clear hK2 K2
  refine wp_seq_k fun K6 hK6 => ?_
  refine wp_region_lit ?_
  refine seg ha 1 [(0, .string (bstr a0)), (1, .int .i64 a1), (7, .int .i64 (0 : Int))] (by kernel_rfl) fun a ha => ?_
  refine hK6 _ _ ?_; try clear hK6 K6
  refine wp_seq_k fun K7 hK7 => ?_
  refine wp_seq_k fun K8 hK8 => ?_
  refine wp_region_lit ?_
  refine seg ha 1 [(0, .string (bstr a0)), (1, .int .i64 a1), (7, .int .i64 (0 : Int)), (8, .int .i64 (0 : Int))] (by kernel_rfl) fun a ha => ?_
  refine hK8 _ _ ?_; try clear hK8 K8
  refine wp_block ?_
  obtain ⟨s9, H9, H⟩ := bind_some H
  have J9 : ∀ s9' (a : Act) (wx9 : World), s9 = .inr s9' → Has a Tryz.f36.ntmps [(7, .int .i64 s9')] → (Chg [] w wx9) → (MS (M) wx9) → K7 a wx9 := by
   intro s9' a wx9 hs ha hC hM
   subst hs
   refine hK7 _ _ ?_; try clear hK7 K7
   refine wp_seq_k fun K12 hK12 => ?_
   refine wp_region_lit ?_
   refine seg ha 2 [(6, .int .i64 s9')] (by kernel_rfl) fun a ha => ?_
   refine hK12 _ _ ?_; try clear hK12 K12
   refine wp_ret ?_
   try simp only [Exit.then, Exit.inBlock]
   obtain rfl := Option.some.inj H
   refine rt1 ha rfl rfl ?_
   exact ⟨rfl, hC, hM⟩
  have Hc9 := H
  have H := H9
  refine wp_loop_ghost (fun kk a w9 => ∃ (x10 : Int) (x11 : Int), vineryref02_Digits.l0 a0 a1 kk x10 x11 = some s9 ∧ Has a Tryz.f36.ntmps [(0, .string (bstr a0)), (1, .int .i64 a1), (7, .int .i64 x10), (8, .int .i64 x11)] ∧ (Chg [] w w9) ∧ (MS (M) w9)) k ?_ ?_
  ·skip
   exact ⟨(0 : Int), (0 : Int), H, (ha.sel (by kernel_rfl)), hC, hM⟩
  ·rintro kk a w9 ⟨x10, x11, H, ha, hC, hM⟩
   obtain _ | kk := kk
   ·exact nomatch (show none = some _ from H)
   rw [vineryref02_Digits.l0] at H
   refine wp_seq_k fun K13 hK13 => ?_
   refine wp_seq_k fun K14 hK14 => ?_
   refine wp_region_lit ?_
   refine seg ha 4 [(0, .string (bstr a0)), (1, .int .i64 a1), (7, .int .i64 x10), (8, .int .i64 x11), (22, .bool (decide (x11 < ((bstr a0).size : Int))))] (by kernel_rfl) fun a ha => ?_
   refine hK14 _ _ ?_; try clear hK14 K14
   refine cnd ha rfl (fun hc15 => ?_) (fun hc15 => ?_)
   ·have H := ite_t hc15 H
    refine wp_skip ?_
    refine hK13 _ _ ?_; try clear hK13 K13
    refine wp_seq_k fun K16 hK16 => ?_
    refine wp_block ?_
    refine wp_seq_k fun K17 hK17 => ?_
    refine wp_region_lit ?_
    refine seg ha 1 [(0, .string (bstr a0)), (1, .int .i64 a1), (7, .int .i64 x10), (8, .int .i64 x11), (9, .int .i64 (-1 : Int))] (by kernel_rfl) fun a ha => ?_
    refine hK17 _ _ ?_; try clear hK17 K17
    refine wp_seq_k fun K18 hK18 => ?_
    obtain ⟨s19, H19, H⟩ := bind_some H
    have J19 : ∀ (a : Act) (w19 : World), Has a Tryz.f36.ntmps [(0, .string (bstr a0)), (1, .int .i64 a1), (7, .int .i64 x10), (8, .int .i64 x11), (9, .int .i64 s19)] → (Chg [] w w19) → (MS (M) w19) → K18 a w19 := by
     intro a w19 ha hC hM
     refine hK18 _ _ ?_; try clear hK18 K18
     refine wp_seq_k fun K20 hK20 => ?_
     obtain ⟨s21, H21, H⟩ := bind_some H
     have J21 : ∀ (a : Act) (w21 : World), Has a Tryz.f36.ntmps [(0, .string (bstr a0)), (1, .int .i64 a1), (7, .int .i64 x10), (8, .int .i64 x11), (9, .int .i64 s21)] → (Chg [] w w21) → (MS (M) w21) → K20 a w21 := by
      intro a w21 ha hC hM
      refine hK20 _ _ ?_; try clear hK20 K20
      refine wp_seq_k fun K22 hK22 => ?_
      refine wp_seq_k fun K23 hK23 => ?_
      refine wp_region_lit ?_
      refine seg ha 7 [(0, .string (bstr a0)), (1, .int .i64 a1), (7, .int .i64 x10), (8, .int .i64 x11), (9, .int .i64 s21), (62, .bool (if (decide (s21 < (0 : Int))) = true then true else (decide (s21 ≥ a1))))] (by kernel_rfl) fun a ha => ?_
      refine hK23 _ _ ?_; try clear hK23 K23
      refine cnd ha rfl (fun hc24 => ?_) (fun hc24 => ?_)
      ·have H := ite_t hc24 H
       refine wp_seq_k fun K25 hK25 => ?_
       refine wp_region_lit ?_
       refine seg ha 1 [(6, .int .i64 (-1 : Int))] (by kernel_rfl) fun a ha => ?_
       refine hK25 _ _ ?_; try clear hK25 K25
       refine wp_ret ?_
       try simp only [Exit.then, Exit.inBlock]
       obtain rfl := Option.some.inj H
       have H := (show some _ = some _ from Hc9)
       obtain rfl := Option.some.inj H
       refine rt1 ha rfl rfl ?_
       exact ⟨rfl, hC, hM⟩
      ·have H := ite_f hc24 H
       refine wp_skip ?_
       refine hK22 _ _ ?_; try clear hK22 K22
       refine wp_region_lit ?_
       refine seg ha 6 [(0, .string (bstr a0)), (1, .int .i64 a1), (7, .int .i64 (IntKind.i64.wrap ((IntKind.i64.wrap (x10 * a1)) + s21))), (8, .int .i64 x11)] (by kernel_rfl) fun a ha => ?_
       refine hK16 _ _ ?_; try clear hK16 K16
       refine wp_region_lit ?_
       refine seg ha 3 [(0, .string (bstr a0)), (1, .int .i64 a1), (7, .int .i64 (IntKind.i64.wrap ((IntKind.i64.wrap (x10 * a1)) + s21))), (8, .int .i64 (IntKind.i64.wrap (x11 + (1 : Int))))] (by kernel_rfl) fun a ha => ?_
       exact ⟨kk, Nat.lt_succ_self _, ⟨IntKind.i64.wrap ((IntKind.i64.wrap (x10 * a1)) + s21), IntKind.i64.wrap (x11 + (1 : Int)), H, (ha.sel (by kernel_rfl)), hC, hM⟩⟩
     have H := H21
     refine wp_seq_k fun K26 hK26 => ?_
     refine wp_region_lit ?_
     obtain ⟨s27, H27, H⟩ := bind_some H
     have J27 : ∀ (a : Act) (w27 : World), Has a Tryz.f36.ntmps [(0, .string (bstr a0)), (1, .int .i64 a1), (7, .int .i64 x10), (8, .int .i64 x11), (9, .int .i64 s19), (49, .bool s27)] → (Chg [] w w27) → (MS (M) w27) → K26 a w27 := by
      intro a w27 ha hC hM
      refine hK26 _ _ ?_; try clear hK26 K26
      refine cnd ha rfl (fun hc28 => ?_) (fun hc28 => ?_)
      ·have H := ite_t hc28 H
       refine wp_region_lit ?_
       refine seg ha 2 [(0, .string (bstr a0)), (1, .int .i64 a1), (7, .int .i64 x10), (8, .int .i64 x11), (50, .string (bstr a0)), (51, .int .i64 x11)] (by kernel_rfl) fun a ha => ?_
       obtain ⟨⟨hx29, hx29'⟩, H⟩ := ite_some H
       refine hop (v := .int .u8 ((a0.getD (Int.toNat x11) 0).toNat : Int)) (w' := w27) ha rfl rfl rfl (sidx_run (l := a0) (k := .i64) (i := x11) ha (by kernel_rfl) (by rfl) (by rfl) hx29 hx29' _) fun a ha => ?_
       refine seg ha 4 [(0, .string (bstr a0)), (1, .int .i64 a1), (7, .int .i64 x10), (8, .int .i64 x11), (9, .int .i64 (IntKind.i64.wrap ((IntKind.i64.wrap (IntKind.u8.wrap (((a0.getD (Int.toNat x11) 0).toNat : Int) - (97 : Int)))) + (10 : Int))))] (by kernel_rfl) fun a ha => ?_
       obtain rfl := Option.some.inj H
       exact J21 _ _ (ha.sel (by kernel_rfl)) hC hM
      ·have H := ite_f hc28 H
       refine wp_skip ?_
       obtain rfl := Option.some.inj H
       exact J21 _ _ (ha.sel (by kernel_rfl)) hC hM
     have H := H27
     refine seg ha 2 [(0, .string (bstr a0)), (1, .int .i64 a1), (7, .int .i64 x10), (8, .int .i64 x11), (9, .int .i64 s19), (40, .string (bstr a0)), (41, .int .i64 x11)] (by kernel_rfl) fun a ha => ?_
     obtain ⟨⟨hx30, hx30'⟩, H⟩ := ite_some H
     refine hop (v := .int .u8 ((a0.getD (Int.toNat x11) 0).toNat : Int)) (w' := w19) ha rfl rfl rfl (sidx_run (l := a0) (k := .i64) (i := x11) ha (by kernel_rfl) (by rfl) (by rfl) hx30 hx30' _) fun a ha => ?_
     refine seg ha 2 [(44, .bool (decide (((a0.getD (Int.toNat x11) 0).toNat : Int) ≥ (97 : Int)))), (0, .string (bstr a0)), (1, .int .i64 a1), (7, .int .i64 x10), (8, .int .i64 x11), (9, .int .i64 s19)] (by kernel_rfl) fun a ha => ?_
     rcases Bool.eq_false_or_eq_true (decide (((a0.getD (Int.toNat x11) 0).toNat : Int) ≥ (97 : Int))) with hb31 | hb31
     ·have ha := ha.lit hb31
      have H := ite_t hb31 H
      refine sgh ha 2 [2, 2] [(0, .string (bstr a0)), (1, .int .i64 a1), (7, .int .i64 x10), (8, .int .i64 x11), (9, .int .i64 s19), (44, .bool true), (45, .string (bstr a0)), (46, .int .i64 x11)] (by kernel_rfl) fun a ha => ?_
      obtain ⟨⟨hx32, hx32'⟩, H⟩ := ite_some H
      refine hop (v := .int .u8 ((a0.getD (Int.toNat x11) 0).toNat : Int)) (w' := w19) ha rfl rfl rfl (sidx_run (l := a0) (k := .i64) (i := x11) ha (by kernel_rfl) (by rfl) (by rfl) hx32 hx32' _) fun a ha => ?_
      refine sgh ha 2 [2, 3] [(0, .string (bstr a0)), (1, .int .i64 a1), (7, .int .i64 x10), (8, .int .i64 x11), (9, .int .i64 s19), (49, .bool (decide (((a0.getD (Int.toNat x11) 0).toNat : Int) ≤ (102 : Int))))] (by kernel_rfl) fun a ha => ?_
      obtain rfl := Option.some.inj H
      exact J27 _ _ (ha.sel (by kernel_rfl)) hC hM
     ·have ha := ha.lit hb31
      have H := ite_f hb31 H
      refine sgh ha 5 [1, 1, 1, 1, 4] [(0, .string (bstr a0)), (1, .int .i64 a1), (7, .int .i64 x10), (8, .int .i64 x11), (9, .int .i64 s19), (49, .bool false)] (by kernel_rfl) fun a ha => ?_
      obtain rfl := Option.some.inj H
      exact J27 _ _ (ha.sel (by kernel_rfl)) hC hM
    have H := H19
    refine wp_seq_k fun K33 hK33 => ?_
    refine wp_region_lit ?_
    obtain ⟨s34, H34, H⟩ := bind_some H
    have J34 : ∀ (a : Act) (w34 : World), Has a Tryz.f36.ntmps [(0, .string (bstr a0)), (1, .int .i64 a1), (7, .int .i64 x10), (8, .int .i64 x11), (9, .int .i64 (-1 : Int)), (34, .bool s34)] → (Chg [] w w34) → (MS (M) w34) → K33 a w34 := by
     intro a w34 ha hC hM
     refine hK33 _ _ ?_; try clear hK33 K33
     refine cnd ha rfl (fun hc35 => ?_) (fun hc35 => ?_)
     ·have H := ite_t hc35 H
      refine wp_region_lit ?_
      refine seg ha 2 [(0, .string (bstr a0)), (1, .int .i64 a1), (7, .int .i64 x10), (8, .int .i64 x11), (35, .string (bstr a0)), (36, .int .i64 x11)] (by kernel_rfl) fun a ha => ?_
      obtain ⟨⟨hx36, hx36'⟩, H⟩ := ite_some H
      refine hop (v := .int .u8 ((a0.getD (Int.toNat x11) 0).toNat : Int)) (w' := w34) ha rfl rfl rfl (sidx_run (l := a0) (k := .i64) (i := x11) ha (by kernel_rfl) (by rfl) (by rfl) hx36 hx36' _) fun a ha => ?_
      refine seg ha 3 [(0, .string (bstr a0)), (1, .int .i64 a1), (7, .int .i64 x10), (8, .int .i64 x11), (9, .int .i64 (IntKind.i64.wrap (IntKind.u8.wrap (((a0.getD (Int.toNat x11) 0).toNat : Int) - (48 : Int)))))] (by kernel_rfl) fun a ha => ?_
      obtain rfl := Option.some.inj H
      exact J19 _ _ (ha.sel (by kernel_rfl)) hC hM
     ·have H := ite_f hc35 H
      refine wp_skip ?_
      obtain rfl := Option.some.inj H
      exact J19 _ _ (ha.sel (by kernel_rfl)) hC hM
    have H := H34
    refine seg ha 2 [(0, .string (bstr a0)), (1, .int .i64 a1), (7, .int .i64 x10), (8, .int .i64 x11), (9, .int .i64 (-1 : Int)), (25, .string (bstr a0)), (26, .int .i64 x11)] (by kernel_rfl) fun a ha => ?_
    obtain ⟨⟨hx37, hx37'⟩, H⟩ := ite_some H
    refine hop (v := .int .u8 ((a0.getD (Int.toNat x11) 0).toNat : Int)) (w' := w9) ha rfl rfl rfl (sidx_run (l := a0) (k := .i64) (i := x11) ha (by kernel_rfl) (by rfl) (by rfl) hx37 hx37' _) fun a ha => ?_
    refine seg ha 2 [(29, .bool (decide (((a0.getD (Int.toNat x11) 0).toNat : Int) ≥ (48 : Int)))), (0, .string (bstr a0)), (1, .int .i64 a1), (7, .int .i64 x10), (8, .int .i64 x11), (9, .int .i64 (-1 : Int))] (by kernel_rfl) fun a ha => ?_
    rcases Bool.eq_false_or_eq_true (decide (((a0.getD (Int.toNat x11) 0).toNat : Int) ≥ (48 : Int))) with hb38 | hb38
    ·have ha := ha.lit hb38
     have H := ite_t hb38 H
     refine sgh ha 2 [2, 2] [(0, .string (bstr a0)), (1, .int .i64 a1), (7, .int .i64 x10), (8, .int .i64 x11), (9, .int .i64 (-1 : Int)), (29, .bool true), (30, .string (bstr a0)), (31, .int .i64 x11)] (by kernel_rfl) fun a ha => ?_
     obtain ⟨⟨hx39, hx39'⟩, H⟩ := ite_some H
     refine hop (v := .int .u8 ((a0.getD (Int.toNat x11) 0).toNat : Int)) (w' := w9) ha rfl rfl rfl (sidx_run (l := a0) (k := .i64) (i := x11) ha (by kernel_rfl) (by rfl) (by rfl) hx39 hx39' _) fun a ha => ?_
     refine sgh ha 2 [2, 3] [(0, .string (bstr a0)), (1, .int .i64 a1), (7, .int .i64 x10), (8, .int .i64 x11), (9, .int .i64 (-1 : Int)), (34, .bool (decide (((a0.getD (Int.toNat x11) 0).toNat : Int) ≤ (57 : Int))))] (by kernel_rfl) fun a ha => ?_
     obtain rfl := Option.some.inj H
     exact J34 _ _ (ha.sel (by kernel_rfl)) hC hM
    ·have ha := ha.lit hb38
     have H := ite_f hb38 H
     refine sgh ha 5 [1, 1, 1, 1, 4] [(0, .string (bstr a0)), (1, .int .i64 a1), (7, .int .i64 x10), (8, .int .i64 x11), (9, .int .i64 (-1 : Int)), (34, .bool false)] (by kernel_rfl) fun a ha => ?_
     obtain rfl := Option.some.inj H
     exact J34 _ _ (ha.sel (by kernel_rfl)) hC hM
   ·have H := ite_f hc15 H
    refine wp_exit ?_
    simp only [Exit.then, Exit.inBlock, ↓reduceIte, Nat.reduceEqDiff]
    obtain rfl := Option.some.inj H
    exact J9 _ _ _ rfl (ha.sel (by kernel_rfl)) hC hM
def vineryref03_Unhex.l0 (k : Nat) (a0 : List UInt8) : Nat → (List Int) → Int → Option ((List Int) ⊕ (List Int))
  | 0, _, _ => none
  | kk + 1, x7, x8 => (if (decide ((IntKind.i64.wrap (x8 + (1 : Int))) < ((bstr a0).size : Int))) = true then (if 0 ≤ x8 ∧ x8 ≤ (IntKind.i64.wrap (x8 + (2 : Int))) ∧ (IntKind.i64.wrap (x8 + (2 : Int))) ≤ (a0.length : Int) then (vineryref02_Digits.f k ((a0.take (Int.toNat (IntKind.i64.wrap (x8 + (2 : Int))))).drop (Int.toNat x8)) (16 : Int) (2 : Int)).bind fun t18 => (if (decide (t18 < (0 : Int))) = true then some (.inl ((([] : List Int) : List Int))) else (if (x7.length + ([IntKind.u8.wrap t18] : List Int).length) * 1 ≤ 140737488355328 then vineryref03_Unhex.l0 k a0 kk (x7 ++ ([IntKind.u8.wrap t18] : List Int)) (IntKind.i64.wrap (x8 + (2 : Int))) else none)) else none) else some (.inr (x7 : List Int)))
def vineryref03_Unhex.f (k : Nat) (a0 : List UInt8) : Option (List Int) := (vineryref03_Unhex.l0 k a0 k ([] : List Int) (0 : Int)).bind fun s5 => match s5 with | .inl r => some r | .inr s5' => some ((s5' : List Int))
set_option maxRecDepth 100000 in
theorem vineryref03_Unhex.walk (w : World) (M : List Nat) (hM : MS M w) (a0 : List UInt8) (k : Nat) (r : List Int) (H : vineryref03_Unhex.f k a0 = some r) :
    To Tryz.prog 35 [.string (bstr a0)] w fun v w' => ∃ (ao32 : Option Addr) (cap32 : Nat), v = .slice ao32 r.length cap32 ∧ (Own (rInt .u8) 5 w' (blkL ao32 ++ (M)) ao32 cap32 r) ∧ (∀ x ∈ blkL ao32, w.heap.size ≤ x) ∧ Chg [] w w' ∧ MS (blkL ao32 ++ (M)) w' := by
 unfold vineryref03_Unhex.f at H
 refine ent Tryz.func35 rfl [(0, .string (bstr a0))] rfl (by rfl) fun a ha => ?_
 have hC : Chg [] w w := Chg.refl _ _
 refine wp_seq_k fun K1 hK1 => ?_
 refine wp_region_lit ?_
 refine seg ha 1 [(0, .string (bstr a0))] (by kernel_rfl) fun a ha => ?_
 refine hK1 _ _ ?_; try clear hK1 K1
 refine wp_seq_k fun K2 hK2 => ?_
 refine wp_region_lit ?_
 refine seg ha 1 [(0, .string (bstr a0)), (3, .slice none 0 0)] (by kernel_rfl) fun a ha => ?_
 refine hK2 _ _ ?_; try clear hK2 K2
 refine wp_seq_k fun K3 hK3 => ?_
 refine wp_seq_k fun K4 hK4 => ?_
 refine wp_region_lit ?_
 refine seg ha 1 [(0, .string (bstr a0)), (3, .slice none 0 0), (4, .int .i64 (0 : Int))] (by kernel_rfl) fun a ha => ?_
 refine hK4 _ _ ?_; try clear hK4 K4
 refine wp_block ?_
 obtain ⟨s5, H5, H⟩ := bind_some H
 have J5 : ∀ s5' (a : Act) (wx5 : World) (ao9 : Option Addr) (cap9 : Nat), s5 = .inr s5' → Has a Tryz.f35.ntmps [(3, .slice ao9 s5'.length cap9)] → (Own (rInt .u8) 5 wx5 (blkL ao9 ++ (M)) ao9 cap9 s5') → (∀ x ∈ blkL ao9, w.heap.size ≤ x) → (∀ x ∈ blkL ao9, x ∉ M) → (Chg [] w wx5) → (MS (blkL ao9 ++ (M)) wx5) → K3 a wx5 := by
  intro s5' a wx5 ao9 cap9 hs ha f9 e_i9 p_i9_M hC hM
  subst hs
  refine hK3 _ _ ?_; try clear hK3 K3
  refine wp_seq_k fun K10 hK10 => ?_
  refine wp_region_lit ?_
  refine seg ha 2 [(2, .slice ao9 s5'.length cap9)] (by kernel_rfl) fun a ha => ?_
  refine hK10 _ _ ?_; try clear hK10 K10
  refine wp_ret ?_
  try simp only [Exit.then, Exit.inBlock]
  obtain rfl := Option.some.inj H
  refine rt1 ha rfl rfl ?_
  exact ⟨ao9, cap9, rfl, f9, e_i9, hC, hM⟩
 have Hc5 := H
 have H := H5
 refine wp_loop_ghost (fun kk a w5 => ∃ (x7 : List Int) (x8 : Int) (ao6 : Option Addr) (cap6 : Nat), vineryref03_Unhex.l0 k a0 kk x7 x8 = some s5 ∧ Has a Tryz.f35.ntmps [(0, .string (bstr a0)), (3, .slice ao6 x7.length cap6), (4, .int .i64 x8)] ∧ (Own (rInt .u8) 5 w5 (blkL ao6 ++ (M)) ao6 cap6 x7) ∧ (∀ x ∈ blkL ao6, w.heap.size ≤ x) ∧ (∀ x ∈ blkL ao6, x ∉ M) ∧ (Chg [] w w5) ∧ (MS (blkL ao6 ++ (M)) w5)) k ?_ ?_
 ·skip
  have p_z11_M : ∀ x ∈ blkL none, x ∉ M := fun x hx hy => absurd (hM x (hy)) (Nat.not_lt.2 ((fun _ h => nomatch h) x hx))
  have e_z11 : ∀ x ∈ blkL none, w.heap.size ≤ x := fun x hx => Nat.le_trans hC.size ((fun _ h => nomatch h) x hx)
  have hM : MS (blkL none ++ (M)) w := (MS.app (fun _ h => nomatch h) (hM.chg (Chg.refl [] _)))
  have hC := hC.trans (Chg.refl [] _) (Ok.nil _ _)
  exact ⟨([] : List Int), (0 : Int), none, 0, H, (ha.sel (by kernel_rfl)), Own.nil, e_z11, p_z11_M, hC, hM⟩
 ·rintro kk a w5 ⟨x7, x8, ao6, cap6, H, ha, f6, e_i6, p_i6_M, hC, hM⟩
  obtain _ | kk := kk
  ·exact nomatch (show none = some _ from H)
  rw [vineryref03_Unhex.l0] at H
  refine wp_seq_k fun K12 hK12 => ?_
  refine wp_seq_k fun K13 hK13 => ?_
  refine wp_region_lit ?_
  refine seg ha 5 [(0, .string (bstr a0)), (3, .slice ao6 x7.length cap6), (4, .int .i64 x8), (10, .bool (decide ((IntKind.i64.wrap (x8 + (1 : Int))) < ((bstr a0).size : Int))))] (by kernel_rfl) fun a ha => ?_
  refine hK13 _ _ ?_; try clear hK13 K13
  refine cnd ha rfl (fun hc14 => ?_) (fun hc14 => ?_)
  ·have H := ite_t hc14 H
   refine wp_skip ?_
   refine hK12 _ _ ?_; try clear hK12 K12
   refine wp_seq_k fun K15 hK15 => ?_
   refine wp_block ?_
   refine wp_seq_k fun K16 hK16 => ?_
   refine wp_region_lit ?_
   refine seg ha 4 [(0, .string (bstr a0)), (3, .slice ao6 x7.length cap6), (4, .int .i64 x8), (13, .string (bstr a0)), (14, .int .i64 x8), (16, .int .i64 (IntKind.i64.wrap (x8 + (2 : Int))))] (by kernel_rfl) fun a ha => ?_
   obtain ⟨⟨hx17, hx17', hx17''⟩, H⟩ := ite_some H
   refine hop (v := .string (bstr ((a0.take (Int.toNat (IntKind.i64.wrap (x8 + (2 : Int))))).drop (Int.toNat x8)))) (w' := w5) ha rfl rfl rfl (ssl_run (s := a0) (l := x8) (h := (IntKind.i64.wrap (x8 + (2 : Int)))) ha (by kernel_rfl) (by rfl) (by rfl) (by rfl) hx17 hx17' hx17'' _) fun a ha => ?_
   obtain ⟨t18, H18, H⟩ := bind_some H
   refine cl ha (by rfl) (by kernel_rfl) (by rfl) (by rfl) (by rfl) (vineryref02_Digits.walk w5 _ hM ((a0.take (Int.toNat (IntKind.i64.wrap (x8 + (2 : Int))))).drop (Int.toNat x8)) (16 : Int) (2 : Int) k _ H18) ?_
   rintro _ w18 ⟨rfl, hc18, hMn⟩ a ha
   have o1 : Ok [] (blkL ao6 ++ (M)) w5.heap.size := Ok.nil _ _
   have o2 : Ok (blkL ao6 ++ (M)) (blkL ao6 ++ (M)) w5.heap.size := (Ok.refl _ _)
   have f6 := f6.chg hc18 o1 o2 (fun _ _ h => nomatch h) (fun _ h => ml h)
   have hM : MS (blkL ao6 ++ (M)) w18 := (hM.chg hc18)
   have hC := hC.trans hc18 (Ok.nil _ _)
   refine seg ha 1 [(0, .string (bstr a0)), (3, .slice ao6 x7.length cap6), (4, .int .i64 x8), (5, .int .i64 t18)] (by kernel_rfl) fun a ha => ?_
   refine hK16 _ _ ?_; try clear hK16 K16
   refine wp_seq_k fun K19 hK19 => ?_
   refine wp_seq_k fun K20 hK20 => ?_
   refine wp_region_lit ?_
   refine seg ha 2 [(0, .string (bstr a0)), (3, .slice ao6 x7.length cap6), (4, .int .i64 x8), (5, .int .i64 t18), (20, .bool (decide (t18 < (0 : Int))))] (by kernel_rfl) fun a ha => ?_
   refine hK20 _ _ ?_; try clear hK20 K20
   refine cnd ha rfl (fun hc21 => ?_) (fun hc21 => ?_)
   ·have H := ite_t hc21 H
    refine wp_seq_k fun K22 hK22 => ?_
    refine wp_region_lit ?_
    refine seg ha 1 [(2, .slice none 0 0)] (by kernel_rfl) fun a ha => ?_
    refine hK22 _ _ ?_; try clear hK22 K22
    refine wp_ret ?_
    try simp only [Exit.then, Exit.inBlock]
    have p_z23_M : ∀ x ∈ blkL none, x ∉ M := fun x hx hy => absurd (hM x (mr (hy))) (Nat.not_lt.2 ((fun _ h => nomatch h) x hx))
    have e_z23 : ∀ x ∈ blkL none, w.heap.size ≤ x := fun x hx => Nat.le_trans hC.size ((fun _ h => nomatch h) x hx)
    have hM : MS (blkL none ++ (M)) w18 := (MS.app (fun _ h => nomatch h) (fun x h => hM.chg (Chg.refl [] _) x (mr (h))))
    have hC := hC.trans (Chg.refl [] _) (Ok.nil _ _)
    obtain rfl := Option.some.inj H
    have H := (show some _ = some _ from Hc5)
    obtain rfl := Option.some.inj H
    refine rt1 ha rfl rfl ?_
    exact ⟨none, 0, rfl, Own.nil, e_z23, hC, hM⟩
   ·have H := ite_f hc21 H
    refine wp_skip ?_
    refine hK19 _ _ ?_; try clear hK19 K19
    refine wp_region_lit ?_
    refine seg ha 3 [(0, .string (bstr a0)), (4, .int .i64 x8), (21, .slice ao6 x7.length cap6), (23, .int .u8 (IntKind.u8.wrap t18))] (by kernel_rfl) fun a ha => ?_
    refine bsl (vals := ([.int .u8 (IntKind.u8.wrap t18)] : List Value)) (T := 5) ha rfl (([.int .u8 (IntKind.u8.wrap t18)] : List Value) ++ ([] : List Value)) (fun w => by kernel_rfl) rfl rfl rfl fun a w24 g25 hN26 ha => ?_
    have o1 : Ok [] (blkL ao6 ++ (M)) w18.heap.size := Ok.nil _ _
    have o2 : Ok ([g25] ++ (blkL ao6 ++ (M))) (blkL ao6 ++ (M)) w18.heap.size := (Ok.app (hN26.ok _) (Ok.refl _ _))
    have f6 := f6.chg hN26.chg o1 o2 (fun _ _ h => nomatch h) (fun _ h => mr (ml h))
    have p_i27_i6 : ∀ x ∈ [g25], x ∉ (blkL ao6) := fun x hx hy => absurd (hM x (ml hy)) (Nat.not_lt.2 ((hN26.ge1) x hx))
    have p_i27_M : ∀ x ∈ [g25], x ∉ M := fun x hx hy => absurd (hM x (mr (hy))) (Nat.not_lt.2 ((hN26.ge1) x hx))
    have e_i27 : ∀ x ∈ [g25], w.heap.size ≤ x := fun x hx => Nat.le_trans hC.size ((hN26.ge1) x hx)
    have hM : MS ([g25] ++ (blkL ao6 ++ (M))) w24 := (MS.app hN26.ms (hM.chg hN26.chg))
    have hC := hC.trans hN26.chg (Ok.nil _ _)
    have f28 : Own (rInt .u8) 5 w24 ([g25] ++ (blkL ao6 ++ (M))) (some ⟨g25, 0, none⟩) 1 ([IntKind.u8.wrap t18] : List Int) := hN26.own ⟨([.int .u8 (IntKind.u8.wrap t18)] : List Value), _, rfl, rfl, rfl⟩ (Nat.le_of_ble_eq_true rfl)
    obtain ⟨hx29, H⟩ := ite_some H
    refine app (r := (rInt .u8)) (xs := x7) (ys := ([IntKind.u8.wrap t18] : List Int)) ha (ElemT.mk' (bytes := 1) (by kernel_rfl)) rfl rfl rfl rfl rfl f6 f28.src hx29 (by decide) fun a w30 ao31 cap31 hO31 hc31 hk31 hl31 ha => ?_
    have o1 : Ok (blkL ao6) ([g25] ++ (blkL ao6 ++ (M))) w24.heap.size := (fun _ h => .inl (mr (ml h)))
    have o2 : Ok (blkL ao31 ++ ([g25] ++ (M))) ([g25] ++ (blkL ao6 ++ (M))) w24.heap.size := (Ok.app (Ok.to hk31 (fun _ h => mr (ml h))) (Ok.app (fun _ h => .inl (ml h)) (fun _ h => .inl (mr (mr (h))))))
    have f28 := f28.chg hc31 o1 o2 p_i27_i6 (fun _ h => mr (ml h))
    have p_i31_i27 : ∀ x ∈ blkL ao31, x ∉ ([g25]) := fun x hx hy => (hk31 x hx).elim (fun h => (fun x hx hy => p_i27_i6 x hy hx) x h hy) (fun h => absurd (hM x (ml hy)) (Nat.not_lt.2 h))
    have p_i31_M : ∀ x ∈ blkL ao31, x ∉ M := fun x hx hy => (hk31 x hx).elim (fun h => p_i6_M x h hy) (fun h => absurd (hM x (mr (mr (hy)))) (Nat.not_lt.2 h))
    have e_i31 : ∀ x ∈ blkL ao31, w.heap.size ≤ x := fun x hx => (hk31 x hx).elim (e_i6 x) (Nat.le_trans hC.size)
    have hM : MS (blkL ao31 ++ ([g25] ++ (M))) w30 := (MS.app hl31 (MS.app (fun x h => hM.chg hc31 x (ml h)) (fun x h => hM.chg hc31 x (mr (mr (h))))))
    have hC := hC.trans hc31 (fun x h => .inr (e_i6 x h))
    have f31 := hO31.chg (M' := blkL ao31 ++ ([g25] ++ (M))) (Chg.refl [] _) (Ok.nil _ _) (Ok.app (fun _ h => .inl (ml h)) (Ok.to (Ok.app (fun _ h => .inl (ml h)) (fun _ h => .inl (mr (mr (h))))) (fun _ h => mr h))) (fun _ _ h => nomatch h) (fun _ h => ml h)
    refine seg ha 1 [(0, .string (bstr a0)), (3, .slice ao31 (x7 ++ ([IntKind.u8.wrap t18] : List Int)).length cap31), (4, .int .i64 x8)] (by kernel_rfl) fun a ha => ?_
    refine hK15 _ _ ?_; try clear hK15 K15
    refine wp_region_lit ?_
    refine seg ha 3 [(0, .string (bstr a0)), (3, .slice ao31 (x7 ++ ([IntKind.u8.wrap t18] : List Int)).length cap31), (4, .int .i64 (IntKind.i64.wrap (x8 + (2 : Int))))] (by kernel_rfl) fun a ha => ?_
    have o1 : Ok [] (blkL ao31 ++ ([g25] ++ (M))) w30.heap.size := Ok.nil _ _
    have o2 : Ok (blkL ao31 ++ (M)) (blkL ao31 ++ ([g25] ++ (M))) w30.heap.size := (Ok.app (fun _ h => .inl (ml h)) (fun _ h => .inl (mr (mr (h)))))
    have f31 := f31.chg (Chg.refl [] _) o1 o2 (fun _ _ h => nomatch h) (fun _ h => ml h)
    have hM : MS (blkL ao31 ++ (M)) w30 := (MS.app (fun x h => hM.chg (Chg.refl [] _) x (ml h)) (fun x h => hM.chg (Chg.refl [] _) x (mr (mr (h)))))
    have hC := hC.trans (Chg.refl [] _) (Ok.nil _ _)
    exact ⟨kk, Nat.lt_succ_self _, ⟨(x7 ++ ([IntKind.u8.wrap t18] : List Int)), IntKind.i64.wrap (x8 + (2 : Int)), ao31, cap31, H, (ha.sel (by kernel_rfl)), f31, e_i31, p_i31_M, hC, hM⟩⟩
  ·have H := ite_f hc14 H
   refine wp_exit ?_
   simp only [Exit.then, Exit.inBlock, ↓reduceIte, Nat.reduceEqDiff]
   obtain rfl := Option.some.inj H
   exact J5 _ _ _ ao6 cap6 rfl (ha.sel (by kernel_rfl)) f6 e_i6 p_i6_M hC hM
def vineryref03_Of.l0 (a0 : List Int) : Nat → Int → (List Int) → Option (List Int)
  | 0, _, _ => none
  | kk + 1, x15, x16 => (if (if (decide (x15 < (8 : Int))) = true then (decide (x15 < (a0.length : Int))) else false) = true then (if 0 ≤ x15 ∧ x15 < (a0.length : Int) then (if 0 ≤ x15 ∧ x15 < (8 : Int) then vineryref03_Of.l0 a0 kk (IntKind.i64.wrap (x15 + (1 : Int))) ((arL 8 x16).set (Int.toNat x15) (rd a0 x15)) else none) else none) else some (x16 : List Int))
def vineryref03_Of.f (k : Nat) (a0 : List Int) : Option (List Int) := (vineryref03_Of.l0 a0 k (0 : Int) (List.replicate 8 (0 : Int))).bind fun s14 => some ((s14 : List Int))
set_option maxRecDepth 100000 in
theorem vineryref03_Of.walk (w : World) (M : List Nat) (hM : MS M w) (a0 : List Int) (ao1 : Option Addr) (cap1 : Nat) (f1 : RSl (rInt .u8) 5 w M ao1 cap1 a0) (k : Nat) (r : List Int) (H : vineryref03_Of.f k a0 = some r) :
    To Tryz.prog 34 [.slice ao1 a0.length cap1] w fun v w' => v = .agg (cA .u8 8 r).toArray ∧ Chg [] w w' ∧ MS (M) w' := by
 unfold vineryref03_Of.f at H
 refine ent Tryz.func34 rfl [(0, .slice ao1 a0.length cap1)] rfl (by rfl) fun a ha => ?_
 have hC : Chg [] w w := Chg.refl _ _
 refine wp_seq_k fun K2 hK2 => ?_
 refine wp_region_lit ?_
 refine al (cs := (cA .u8 8 (List.replicate 8 (0 : Int)))) (z := .agg (cA .u8 8 (List.replicate 8 (0 : Int))).toArray) ha (fun w => by kernel_rfl) rfl rfl rfl rfl fun a w3 g4 hN5 ha => ?_
 have o1 : Ok [] (M) w.heap.size := Ok.nil _ _
 have o2 : Ok ([g4] ++ (M)) (M) w.heap.size := (Ok.app (hN5.ok _) (Ok.refl _ _))
 have f1 := f1.chg hN5.chg o1 o2
 have p_i6_M : ∀ x ∈ [g4], x ∉ M := fun x hx hy => absurd (hM x (hy)) (Nat.not_lt.2 ((hN5.ge1) x hx))
 have e_i6 : ∀ x ∈ [g4], w.heap.size ≤ x := fun x hx => Nat.le_trans hC.size ((hN5.ge1) x hx)
 have hM : MS ([g4] ++ (M)) w3 := (MS.app hN5.ms (hM.chg hN5.chg))
 have hC := hC.trans hN5.chg (Ok.nil _ _)
 have hBg4 : Box w3 g4 (cA .u8 8 (List.replicate 8 (0 : Int))) := hN5.box
 refine hK2 _ _ ?_; try clear hK2 K2
 refine wp_seq_k fun K7 hK7 => ?_
 refine wp_region_lit ?_
 refine al (cs := (cA .u8 8 (List.replicate 8 (0 : Int)))) (z := .agg (cA .u8 8 (List.replicate 8 (0 : Int))).toArray) ha (fun w => by kernel_rfl) rfl rfl rfl rfl fun a w8 g9 hN10 ha => ?_
 have o1 : Ok [] ([g4] ++ (M)) w3.heap.size := Ok.nil _ _
 have o2 : Ok ([g9] ++ ([g4] ++ (M))) ([g4] ++ (M)) w3.heap.size := (Ok.app (hN10.ok _) (Ok.refl _ _))
 have f1 := f1.chg hN10.chg o1 o2
 have hBg4 := hBg4.chg hN10.chg (fun h => nomatch h)
 have p_i11_i6 : ∀ x ∈ [g9], x ∉ ([g4]) := fun x hx hy => absurd (hM x (ml hy)) (Nat.not_lt.2 ((hN10.ge1) x hx))
 have p_i11_M : ∀ x ∈ [g9], x ∉ M := fun x hx hy => absurd (hM x (mr (hy))) (Nat.not_lt.2 ((hN10.ge1) x hx))
 have e_i11 : ∀ x ∈ [g9], w.heap.size ≤ x := fun x hx => Nat.le_trans hC.size ((hN10.ge1) x hx)
 have hM : MS ([g9] ++ ([g4] ++ (M))) w8 := (MS.app hN10.ms (hM.chg hN10.chg))
 have hC := hC.trans hN10.chg (Ok.nil _ _)
 have hBg9 : Box w8 g9 (cA .u8 8 (List.replicate 8 (0 : Int))) := hN10.box
 refine hK7 _ _ ?_; try clear hK7 K7
 refine wp_seq_k fun K12 hK12 => ?_
 refine wp_seq_k fun K13 hK13 => ?_
 refine wp_region_lit ?_
 refine seg ha 1 [(0, .slice ao1 a0.length cap1), (2, .pointer (some ⟨g4, 0, none⟩)), (3, .pointer (some ⟨g9, 0, none⟩)), (4, .int .i64 (0 : Int))] (by kernel_rfl) fun a ha => ?_
 refine hK13 _ _ ?_; try clear hK13 K13
 refine wp_block ?_
 obtain ⟨s14, H14, H⟩ := bind_some H
 have J14 : ∀ (a : Act) (wx14 : World), Has a Tryz.f34.ntmps [(2, .pointer (some ⟨g4, 0, none⟩)), (3, .pointer (some ⟨g9, 0, none⟩))] → (Box wx14 g4 (cA .u8 8 (List.replicate 8 (0 : Int)))) → (Box wx14 g9 (cA .u8 8 s14)) → (Chg [] w wx14) → (MS ([g9] ++ ([g4] ++ (M))) wx14) → K12 a wx14 := by
  intro a wx14 ha hBg4 hBg9 hC hM
  refine hK12 _ _ ?_; try clear hK12 K12
  refine wp_seq_k fun K17 hK17 => ?_
  refine wp_region_lit ?_
  refine ldA (cs := (cA .u8 8 s14)) ha rfl (by kernel_rfl) rfl rfl rfl (cells_sub (Box.cells hBg9) (all := (cA .u8 8 s14)) [] [] (by kernel_rfl)) fun a ha => ?_
  refine stA (l := (cA .u8 8 s14)) ha rfl rfl rfl (by kernel_rfl) rfl rfl hBg4 rfl fun a w18 ha hb2 hc19 _ => ?_
  have hBg9 := hBg9.chg hc19 (p_i11_i6 g9 (by simp))
  have hM : MS ([g9] ++ ([g4] ++ (M))) w18 := (hM.chg hc19)
  have hC := hC.trans hc19 (fun x h => .inr (e_i6 x h))
  have hBg4 : Box w18 g4 (cA .u8 8 s14) := hb2
  refine hK17 _ _ ?_; try clear hK17 K17
  refine wp_ret ?_
  try simp only [Exit.then, Exit.inBlock]
  have hBg4 := hBg4.chg (Chg.refl [] _) (fun h => nomatch h)
  have hBg9 := hBg9.chg (Chg.refl [] _) (fun h => nomatch h)
  have hM : MS (M) w18 := (fun x h => hM.chg (Chg.refl [] _) x (mr (mr (h))))
  have hC := hC.trans (Chg.refl [] _) (Ok.nil _ _)
  obtain rfl := Option.some.inj H
  refine rtr ha (res1 rfl (roA ha rfl hBg4 (by kernel_rfl))) ?_
  exact ⟨rfl, hC, hM⟩
 have Hc14 := H
 have H := H14
 refine wp_loop_ghost (fun kk a w14 => ∃ (x15 : Int) (x16 : List Int), vineryref03_Of.l0 a0 kk x15 x16 = some s14 ∧ Has a Tryz.f34.ntmps [(0, .slice ao1 a0.length cap1), (2, .pointer (some ⟨g4, 0, none⟩)), (3, .pointer (some ⟨g9, 0, none⟩)), (4, .int .i64 x15)] ∧ (RSl (rInt .u8) 5 w14 ([g9] ++ ([g4] ++ (M))) ao1 cap1 a0) ∧ (Box w14 g4 (cA .u8 8 (List.replicate 8 (0 : Int)))) ∧ (Box w14 g9 (cA .u8 8 x16)) ∧ (Chg [] w w14) ∧ (MS ([g9] ++ ([g4] ++ (M))) w14)) k ?_ ?_
 ·skip
  exact ⟨(0 : Int), (List.replicate 8 (0 : Int)), H, (ha.sel (by kernel_rfl)), f1, hBg4, hBg9, hC, hM⟩
 ·rintro kk a w14 ⟨x15, x16, H, ha, f1, hBg4, hBg9, hC, hM⟩
  obtain _ | kk := kk
  ·exact nomatch (show none = some _ from H)
  rw [vineryref03_Of.l0] at H
  refine wp_seq_k fun K20 hK20 => ?_
  refine wp_seq_k fun K21 hK21 => ?_
  refine wp_region_lit ?_
  refine seg ha 8 [(0, .slice ao1 a0.length cap1), (2, .pointer (some ⟨g4, 0, none⟩)), (3, .pointer (some ⟨g9, 0, none⟩)), (4, .int .i64 x15), (12, .bool (if (decide (x15 < (8 : Int))) = true then (decide (x15 < (a0.length : Int))) else false))] (by kernel_rfl) fun a ha => ?_
  refine hK21 _ _ ?_; try clear hK21 K21
  refine cnd ha rfl (fun hc22 => ?_) (fun hc22 => ?_)
  ·have H := ite_t hc22 H
   refine wp_skip ?_
   refine hK20 _ _ ?_; try clear hK20 K20
   refine wp_seq_k fun K23 hK23 => ?_
   refine wp_block ?_
   refine wp_region_lit ?_
   refine seg ha 3 [(0, .slice ao1 a0.length cap1), (2, .pointer (some ⟨g4, 0, none⟩)), (3, .pointer (some ⟨g9, 0, none⟩)), (4, .int .i64 x15), (15, .int .i64 x15), (16, .slice ao1 a0.length cap1), (17, .int .i64 x15)] (by kernel_rfl) fun a ha => ?_
   obtain ⟨⟨hx24, hx24'⟩, H⟩ := ite_some H
   refine ix (r := (rInt .u8)) ha (by kernel_rfl) (by kernel_rfl) rfl rfl rfl rfl rfl f1 hx24 hx24' fun a ge25 oe26 cs27 hn30 hR28 hE29 ha => ?_
   rw [rd_get] at hR28
   obtain rfl := hR28
   have hE29 : ∀ j v, ([.int .u8 (rd a0 x15)] : List Value)[j]? = some v → w14.cell? ⟨ge25, oe26 + j, none⟩ = some v := hE29
   refine ld ha rfl (by kernel_rfl) rfl rfl rfl (hE29 0 (.int .u8 (rd a0 x15)) (by kernel_rfl)) fun a ha => ?_
   obtain ⟨⟨hx31, hx31'⟩, H⟩ := ite_some H
   have hi31 : (Int.toNat x15) < 8 := by omega
   refine hop (v := .pointer (some ⟨g9, 0 + (Int.toNat x15), none⟩)) (w' := w14) ha rfl rfl rfl (ixA_run (T := 5) (N := 8) (g := g9) (o' := 0) (k := .i64) (i := x15) ha (by kernel_rfl) (by kernel_rfl) (by rfl) (by rfl) hx31 hx31' _) fun a ha => ?_
   refine st (o' := 0 + (Int.toNat x15)) ha rfl rfl rfl (by kernel_rfl) rfl rfl hBg9 (arr_lt (k := .u8) (m := 8) (x := x16) ([] : List Value) ([] : List Value) (by kernel_rfl) hi31) fun a w32 ha hb2 hc33 _ => ?_
   have o1 : Ok [g9] ([g9] ++ ([g4] ++ (M))) w14.heap.size := (fun _ h => .inl (ml h))
   have o2 : Ok ([g9] ++ ([g4] ++ (M))) ([g9] ++ ([g4] ++ (M))) w14.heap.size := (Ok.refl _ _)
   have f1 := f1.chg hc33 o1 o2
   have hBg4 := hBg4.chg hc33 ((fun x (hx : x ∈ [g4]) (hy : x ∈ [g9]) => p_i11_i6 x hy hx) g4 (by simp))
   have hM : MS ([g9] ++ ([g4] ++ (M))) w32 := (hM.chg hc33)
   have hC := hC.trans hc33 (fun x h => .inr (e_i11 x h))
   have hBg9 : Box w32 g9 (cA .u8 8 ((arL 8 x16).set (Int.toNat x15) (rd a0 x15))) := Box.setA (k := .u8) (m := 8) (x := x16) ([] : List Value) ([] : List Value) hb2 (by kernel_rfl) hi31 (by kernel_rfl)
   refine hK23 _ _ ?_; try clear hK23 K23
   refine wp_region_lit ?_
   refine seg ha 3 [(0, .slice ao1 a0.length cap1), (2, .pointer (some ⟨g4, 0, none⟩)), (3, .pointer (some ⟨g9, 0, none⟩)), (4, .int .i64 (IntKind.i64.wrap (x15 + (1 : Int))))] (by kernel_rfl) fun a ha => ?_
   exact ⟨kk, Nat.lt_succ_self _, ⟨IntKind.i64.wrap (x15 + (1 : Int)), ((arL 8 x16).set (Int.toNat x15) (rd a0 x15)), H, (ha.sel (by kernel_rfl)), f1, hBg4, hBg9, hC, hM⟩⟩
  ·have H := ite_f hc22 H
   refine wp_exit ?_
   simp only [Exit.then, Exit.inBlock, ↓reduceIte, Nat.reduceEqDiff]
   obtain rfl := Option.some.inj H
   exact J14 _ _ (ha.sel (by kernel_rfl)) hBg4 hBg9 hC hM
def vineryref02_split.l0 (a0 : List UInt8) (a1 : Int) : Nat → (List (List UInt8)) → Int → Option (List (List UInt8))
  | 0, _, _ => none
  | kk + 1, x12, x13 => (if (decide (x13 < ((bstr a0).size : Int))) = true then (if 0 ≤ x13 ∧ x13 < (a0.length : Int) then (if (((a0.getD (Int.toNat x13) 0).toNat : Int) == a1) = true then (if (x12.length + ([([] : List UInt8)] : List (List UInt8)).length) * 16 ≤ 140737488355328 then vineryref02_split.l0 a0 a1 kk (x12 ++ ([([] : List UInt8)] : List (List UInt8))) (IntKind.i64.wrap (x13 + (1 : Int))) else none) else (if 0 ≤ (IntKind.i64.wrap ((x12.length : Int) - (1 : Int))) ∧ (IntKind.i64.wrap ((x12.length : Int) - (1 : Int))) < (x12.length : Int) then (if 0 ≤ x13 ∧ x13 ≤ (IntKind.i64.wrap (x13 + (1 : Int))) ∧ (IntKind.i64.wrap (x13 + (1 : Int))) ≤ (a0.length : Int) then (if ((rd x12 (IntKind.i64.wrap ((x12.length : Int) - (1 : Int)))) ++ ((a0.take (Int.toNat (IntKind.i64.wrap (x13 + (1 : Int))))).drop (Int.toNat x13))).length ≤ 9223372036854775807 then (if 0 ≤ (IntKind.i64.wrap ((x12.length : Int) - (1 : Int))) ∧ (IntKind.i64.wrap ((x12.length : Int) - (1 : Int))) < (x12.length : Int) then vineryref02_split.l0 a0 a1 kk (x12.set (Int.toNat (IntKind.i64.wrap ((x12.length : Int) - (1 : Int)))) ((rd x12 (IntKind.i64.wrap ((x12.length : Int) - (1 : Int)))) ++ ((a0.take (Int.toNat (IntKind.i64.wrap (x13 + (1 : Int))))).drop (Int.toNat x13)))) (IntKind.i64.wrap (x13 + (1 : Int))) else none) else none) else none) else none)) else none) else some (x12 : List (List UInt8)))
def vineryref02_split.f (k : Nat) (a0 : List UInt8) (a1 : Int) : Option (List (List UInt8)) := (vineryref02_split.l0 a0 a1 k ([([] : List UInt8)] : List (List UInt8)) (0 : Int)).bind fun s10 => some ((s10 : List (List UInt8)))
set_option maxRecDepth 100000 in
theorem vineryref02_split.walk (w : World) (M : List Nat) (hM : MS M w) (a0 : List UInt8) (a1 : Int) (k : Nat) (r : List (List UInt8)) (H : vineryref02_split.f k a0 a1 = some r) :
    To Tryz.prog 145 [.string (bstr a0), .int .u8 a1] w fun v w' => ∃ (ao46 : Option Addr) (cap46 : Nat), v = .slice ao46 r.length cap46 ∧ (Own rStr 9 w' (blkL ao46 ++ (M)) ao46 cap46 r) ∧ (∀ x ∈ blkL ao46, w.heap.size ≤ x) ∧ Chg [] w w' ∧ MS (blkL ao46 ++ (M)) w' := by
 unfold vineryref02_split.f at H
 refine ent Tryz.func145 rfl [(0, .string (bstr a0)), (1, .int .u8 a1)] rfl (by rfl) fun a ha => ?_
 have hC : Chg [] w w := Chg.refl _ _
 refine wp_seq_k fun K1 hK1 => ?_
 refine wp_region_lit ?_
 refine seg ha 1 [(0, .string (bstr a0)), (1, .int .u8 a1)] (by kernel_rfl) fun a ha => ?_
 refine hK1 _ _ ?_; try clear hK1 K1
 refine wp_seq_k fun K2 hK2 => ?_
 refine wp_region_lit ?_
 refine bsl (vals := ([.string (bstr ([] : List UInt8))] : List Value)) (T := 9) ha rfl (([.string (bstr ([] : List UInt8))] : List Value) ++ ([] : List Value)) (fun w => by kernel_rfl) rfl rfl rfl fun a w3 g4 hN5 ha => ?_
 have p_i6_M : ∀ x ∈ [g4], x ∉ M := fun x hx hy => absurd (hM x (hy)) (Nat.not_lt.2 ((hN5.ge1) x hx))
 have e_i6 : ∀ x ∈ [g4], w.heap.size ≤ x := fun x hx => Nat.le_trans hC.size ((hN5.ge1) x hx)
 have hM : MS ([g4] ++ (M)) w3 := (MS.app hN5.ms (hM.chg hN5.chg))
 have hC := hC.trans hN5.chg (Ok.nil _ _)
 have f7 : Own rStr 9 w3 ([g4] ++ (M)) (some ⟨g4, 0, none⟩) 1 ([([] : List UInt8)] : List (List UInt8)) := hN5.own ⟨([.string (bstr ([] : List UInt8))] : List Value), _, rfl, rfl, rfl⟩ (Nat.le_of_ble_eq_true rfl)
 refine seg ha 1 [(0, .string (bstr a0)), (1, .int .u8 a1), (5, .slice (some ⟨g4, 0, none⟩) ([([] : List UInt8)] : List (List UInt8)).length 1)] (by kernel_rfl) fun a ha => ?_
 refine hK2 _ _ ?_; try clear hK2 K2
 refine wp_seq_k fun K8 hK8 => ?_
 refine wp_seq_k fun K9 hK9 => ?_
 refine wp_region_lit ?_
 refine seg ha 1 [(0, .string (bstr a0)), (1, .int .u8 a1), (5, .slice (some ⟨g4, 0, none⟩) ([([] : List UInt8)] : List (List UInt8)).length 1), (6, .int .i64 (0 : Int))] (by kernel_rfl) fun a ha => ?_
 refine hK9 _ _ ?_; try clear hK9 K9
 refine wp_block ?_
 obtain ⟨s10, H10, H⟩ := bind_some H
 have J10 : ∀ (a : Act) (wx10 : World) (ao14 : Option Addr) (cap14 : Nat), Has a Tryz.f145.ntmps [(5, .slice ao14 s10.length cap14)] → (Own rStr 9 wx10 (blkL ao14 ++ (M)) ao14 cap14 s10) → (∀ x ∈ blkL ao14, w.heap.size ≤ x) → (∀ x ∈ blkL ao14, x ∉ M) → (Chg [] w wx10) → (MS (blkL ao14 ++ (M)) wx10) → K8 a wx10 := by
  intro a wx10 ao14 cap14 ha f14 e_i14 p_i14_M hC hM
  refine hK8 _ _ ?_; try clear hK8 K8
  refine wp_seq_k fun K15 hK15 => ?_
  refine wp_region_lit ?_
  refine seg ha 2 [(4, .slice ao14 s10.length cap14)] (by kernel_rfl) fun a ha => ?_
  refine hK15 _ _ ?_; try clear hK15 K15
  refine wp_ret ?_
  try simp only [Exit.then, Exit.inBlock]
  obtain rfl := Option.some.inj H
  refine rt1 ha rfl rfl ?_
  exact ⟨ao14, cap14, rfl, f14, e_i14, hC, hM⟩
 have Hc10 := H
 have H := H10
 refine wp_loop_ghost (fun kk a w10 => ∃ (x12 : List (List UInt8)) (x13 : Int) (ao11 : Option Addr) (cap11 : Nat), vineryref02_split.l0 a0 a1 kk x12 x13 = some s10 ∧ Has a Tryz.f145.ntmps [(0, .string (bstr a0)), (1, .int .u8 a1), (5, .slice ao11 x12.length cap11), (6, .int .i64 x13)] ∧ (Own rStr 9 w10 (blkL ao11 ++ (M)) ao11 cap11 x12) ∧ (∀ x ∈ blkL ao11, w.heap.size ≤ x) ∧ (∀ x ∈ blkL ao11, x ∉ M) ∧ (Chg [] w w10) ∧ (MS (blkL ao11 ++ (M)) w10)) k ?_ ?_
 ·skip
  exact ⟨([([] : List UInt8)] : List (List UInt8)), (0 : Int), (some ⟨g4, 0, none⟩), 1, H, (ha.sel (by kernel_rfl)), f7, e_i6, p_i6_M, hC, hM⟩
 ·rintro kk a w10 ⟨x12, x13, ao11, cap11, H, ha, f11, e_i11, p_i11_M, hC, hM⟩
  obtain _ | kk := kk
  ·exact nomatch (show none = some _ from H)
  rw [vineryref02_split.l0] at H
  refine wp_seq_k fun K16 hK16 => ?_
  refine wp_seq_k fun K17 hK17 => ?_
  refine wp_region_lit ?_
  refine seg ha 4 [(0, .string (bstr a0)), (1, .int .u8 a1), (5, .slice ao11 x12.length cap11), (6, .int .i64 x13), (11, .bool (decide (x13 < ((bstr a0).size : Int))))] (by kernel_rfl) fun a ha => ?_
  refine hK17 _ _ ?_; try clear hK17 K17
  refine cnd ha rfl (fun hc18 => ?_) (fun hc18 => ?_)
  ·have H := ite_t hc18 H
   refine wp_skip ?_
   refine hK16 _ _ ?_; try clear hK16 K16
   refine wp_seq_k fun K19 hK19 => ?_
   refine wp_block ?_
   refine wp_seq_k fun K20 hK20 => ?_
   refine wp_region_lit ?_
   refine seg ha 2 [(0, .string (bstr a0)), (1, .int .u8 a1), (5, .slice ao11 x12.length cap11), (6, .int .i64 x13), (14, .string (bstr a0)), (15, .int .i64 x13)] (by kernel_rfl) fun a ha => ?_
   obtain ⟨⟨hx21, hx21'⟩, H⟩ := ite_some H
   refine hop (v := .int .u8 ((a0.getD (Int.toNat x13) 0).toNat : Int)) (w' := w10) ha rfl rfl rfl (sidx_run (l := a0) (k := .i64) (i := x13) ha (by kernel_rfl) (by rfl) (by rfl) hx21 hx21' _) fun a ha => ?_
   refine seg ha 2 [(0, .string (bstr a0)), (1, .int .u8 a1), (5, .slice ao11 x12.length cap11), (6, .int .i64 x13), (18, .bool (((a0.getD (Int.toNat x13) 0).toNat : Int) == a1))] (by kernel_rfl) fun a ha => ?_
   refine hK20 _ _ ?_; try clear hK20 K20
   refine cnd ha rfl (fun hc22 => ?_) (fun hc22 => ?_)
   ·have H := ite_t hc22 H
    refine wp_region_lit ?_
    refine seg ha 1 [(0, .string (bstr a0)), (1, .int .u8 a1), (6, .int .i64 x13), (19, .slice ao11 x12.length cap11)] (by kernel_rfl) fun a ha => ?_
    refine bsl (vals := ([.string (bstr ([] : List UInt8))] : List Value)) (T := 9) ha rfl (([.string (bstr ([] : List UInt8))] : List Value) ++ ([] : List Value)) (fun w => by kernel_rfl) rfl rfl rfl fun a w23 g24 hN25 ha => ?_
    have o1 : Ok [] (blkL ao11 ++ (M)) w10.heap.size := Ok.nil _ _
    have o2 : Ok ([g24] ++ (blkL ao11 ++ (M))) (blkL ao11 ++ (M)) w10.heap.size := (Ok.app (hN25.ok _) (Ok.refl _ _))
    have f11 := f11.chg hN25.chg o1 o2 (fun _ _ h => nomatch h) (fun _ h => mr (ml h))
    have p_i26_i11 : ∀ x ∈ [g24], x ∉ (blkL ao11) := fun x hx hy => absurd (hM x (ml hy)) (Nat.not_lt.2 ((hN25.ge1) x hx))
    have p_i26_M : ∀ x ∈ [g24], x ∉ M := fun x hx hy => absurd (hM x (mr (hy))) (Nat.not_lt.2 ((hN25.ge1) x hx))
    have e_i26 : ∀ x ∈ [g24], w.heap.size ≤ x := fun x hx => Nat.le_trans hC.size ((hN25.ge1) x hx)
    have hM : MS ([g24] ++ (blkL ao11 ++ (M))) w23 := (MS.app hN25.ms (hM.chg hN25.chg))
    have hC := hC.trans hN25.chg (Ok.nil _ _)
    have f27 : Own rStr 9 w23 ([g24] ++ (blkL ao11 ++ (M))) (some ⟨g24, 0, none⟩) 1 ([([] : List UInt8)] : List (List UInt8)) := hN25.own ⟨([.string (bstr ([] : List UInt8))] : List Value), _, rfl, rfl, rfl⟩ (Nat.le_of_ble_eq_true rfl)
    obtain ⟨hx28, H⟩ := ite_some H
    refine app (r := rStr) (xs := x12) (ys := ([([] : List UInt8)] : List (List UInt8))) ha (ElemT.mk' (bytes := 16) (by kernel_rfl)) rfl rfl rfl rfl rfl f11 f27.src hx28 (by decide) fun a w29 ao30 cap30 hO30 hc30 hk30 hl30 ha => ?_
    have o1 : Ok (blkL ao11) ([g24] ++ (blkL ao11 ++ (M))) w23.heap.size := (fun _ h => .inl (mr (ml h)))
    have o2 : Ok (blkL ao30 ++ ([g24] ++ (M))) ([g24] ++ (blkL ao11 ++ (M))) w23.heap.size := (Ok.app (Ok.to hk30 (fun _ h => mr (ml h))) (Ok.app (fun _ h => .inl (ml h)) (fun _ h => .inl (mr (mr (h))))))
    have f27 := f27.chg hc30 o1 o2 p_i26_i11 (fun _ h => mr (ml h))
    have p_i30_i26 : ∀ x ∈ blkL ao30, x ∉ ([g24]) := fun x hx hy => (hk30 x hx).elim (fun h => (fun x hx hy => p_i26_i11 x hy hx) x h hy) (fun h => absurd (hM x (ml hy)) (Nat.not_lt.2 h))
    have p_i30_M : ∀ x ∈ blkL ao30, x ∉ M := fun x hx hy => (hk30 x hx).elim (fun h => p_i11_M x h hy) (fun h => absurd (hM x (mr (mr (hy)))) (Nat.not_lt.2 h))
    have e_i30 : ∀ x ∈ blkL ao30, w.heap.size ≤ x := fun x hx => (hk30 x hx).elim (e_i11 x) (Nat.le_trans hC.size)
    have hM : MS (blkL ao30 ++ ([g24] ++ (M))) w29 := (MS.app hl30 (MS.app (fun x h => hM.chg hc30 x (ml h)) (fun x h => hM.chg hc30 x (mr (mr (h))))))
    have hC := hC.trans hc30 (fun x h => .inr (e_i11 x h))
    have f30 := hO30.chg (M' := blkL ao30 ++ ([g24] ++ (M))) (Chg.refl [] _) (Ok.nil _ _) (Ok.app (fun _ h => .inl (ml h)) (Ok.to (Ok.app (fun _ h => .inl (ml h)) (fun _ h => .inl (mr (mr (h))))) (fun _ h => mr h))) (fun _ _ h => nomatch h) (fun _ h => ml h)
    refine seg ha 1 [(0, .string (bstr a0)), (1, .int .u8 a1), (5, .slice ao30 (x12 ++ ([([] : List UInt8)] : List (List UInt8))).length cap30), (6, .int .i64 x13)] (by kernel_rfl) fun a ha => ?_
    refine hK19 _ _ ?_; try clear hK19 K19
    refine wp_region_lit ?_
    refine seg ha 3 [(0, .string (bstr a0)), (1, .int .u8 a1), (5, .slice ao30 (x12 ++ ([([] : List UInt8)] : List (List UInt8))).length cap30), (6, .int .i64 (IntKind.i64.wrap (x13 + (1 : Int))))] (by kernel_rfl) fun a ha => ?_
    have o1 : Ok [] (blkL ao30 ++ ([g24] ++ (M))) w29.heap.size := Ok.nil _ _
    have o2 : Ok (blkL ao30 ++ (M)) (blkL ao30 ++ ([g24] ++ (M))) w29.heap.size := (Ok.app (fun _ h => .inl (ml h)) (fun _ h => .inl (mr (mr (h)))))
    have f30 := f30.chg (Chg.refl [] _) o1 o2 (fun _ _ h => nomatch h) (fun _ h => ml h)
    have hM : MS (blkL ao30 ++ (M)) w29 := (MS.app (fun x h => hM.chg (Chg.refl [] _) x (ml h)) (fun x h => hM.chg (Chg.refl [] _) x (mr (mr (h)))))
    have hC := hC.trans (Chg.refl [] _) (Ok.nil _ _)
    exact ⟨kk, Nat.lt_succ_self _, ⟨(x12 ++ ([([] : List UInt8)] : List (List UInt8))), IntKind.i64.wrap (x13 + (1 : Int)), ao30, cap30, H, (ha.sel (by kernel_rfl)), f30, e_i30, p_i30_M, hC, hM⟩⟩
   ·have H := ite_f hc22 H
    refine drq 17 (fun w' => Chg [] w10 w') (by kernel_rfl) (by kernel_rfl) (fun _ h => h) ?_
    refine qp 0 (.slice ao11 x12.length cap11) ha rfl rfl rfl (by kernel_rfl) fun a ha => ?_
    refine qp 0 (.slice ao11 x12.length cap11) ha rfl rfl rfl (by kernel_rfl) fun a ha => ?_
    refine qp 0 (.int .i64 (x12.length : Int)) ha rfl rfl rfl (by kernel_rfl) fun a ha => ?_
    refine qp 0 (.int .i64 (IntKind.i64.wrap ((x12.length : Int) - (1 : Int)))) ha rfl rfl rfl (by kernel_rfl) fun a ha => ?_
    refine qp 0 (.slice ao11 x12.length cap11) ha rfl rfl rfl (by kernel_rfl) fun a ha => ?_
    refine qp 0 (.slice ao11 x12.length cap11) ha rfl rfl rfl (by kernel_rfl) fun a ha => ?_
    refine qp 0 (.int .i64 (x12.length : Int)) ha rfl rfl rfl (by kernel_rfl) fun a ha => ?_
    refine qp 0 (.int .i64 (IntKind.i64.wrap ((x12.length : Int) - (1 : Int)))) ha rfl rfl rfl (by kernel_rfl) fun a ha => ?_
    obtain ⟨⟨hx31, hx31'⟩, H⟩ := ite_some H
    obtain ⟨ge32, oe330, cs34, hx31eq, hn37, hR35, hE36⟩ := RSl.elem (Own.toRSl (M' := []) f11 (Ok.nil _ _) (fun _ _ h => nomatch h)) (Int.toNat (IntKind.i64.wrap ((x12.length : Int) - (1 : Int)))) (by omega)
    rw [rd_get] at hR35
    obtain rfl := hR35
    have hE36 : ∀ j v, ([.string (bstr (rd x12 (IntKind.i64.wrap ((x12.length : Int) - (1 : Int)))))] : List Value)[j]? = some v → w10.cell? ⟨ge32, (oe330 + (Int.toNat (IntKind.i64.wrap ((x12.length : Int) - (1 : Int)))) * rStr.sz) + j, none⟩ = some v := hE36
    refine qv (v := .pointer (some ⟨ge32, (oe330 + (Int.toNat (IntKind.i64.wrap ((x12.length : Int) - (1 : Int)))) * rStr.sz), none⟩)) ha rfl rfl rfl (fun w' hs => ix_run (r := rStr) (T := 9) ha (by kernel_rfl) (by kernel_rfl) (by rfl) (by rfl) hx31eq hx31 hx31') fun a ha => ?_
    refine qv (v := .string (bstr (rd x12 (IntKind.i64.wrap ((x12.length : Int) - (1 : Int)))))) ha rfl rfl rfl (fun w' hs => ld_run ha rfl (by kernel_rfl) (hs.keep (hE36 0 (.string (bstr (rd x12 (IntKind.i64.wrap ((x12.length : Int) - (1 : Int)))))) (by kernel_rfl)))) fun a ha => ?_
    refine qp 0 (.string (bstr a0)) ha rfl rfl rfl (by kernel_rfl) fun a ha => ?_
    refine qp 0 (.int .i64 x13) ha rfl rfl rfl (by kernel_rfl) fun a ha => ?_
    refine qp 0 (.int .i64 x13) ha rfl rfl rfl (by kernel_rfl) fun a ha => ?_
    refine qp 0 (.int .i64 (IntKind.i64.wrap (x13 + (1 : Int)))) ha rfl rfl rfl (by kernel_rfl) fun a ha => ?_
    obtain ⟨⟨hx38, hx38', hx38''⟩, H⟩ := ite_some H
    refine qv (v := .string (bstr ((a0.take (Int.toNat (IntKind.i64.wrap (x13 + (1 : Int))))).drop (Int.toNat x13)))) ha rfl rfl rfl (fun w' hs => ssl_run (s := a0) (l := x13) (h := (IntKind.i64.wrap (x13 + (1 : Int)))) ha (by kernel_rfl) (by rfl) (by rfl) (by rfl) hx38 hx38' hx38'' w') fun a ha => ?_
    obtain ⟨hx39, H⟩ := ite_some H
    refine qv (v := .string (bstr ((rd x12 (IntKind.i64.wrap ((x12.length : Int) - (1 : Int)))) ++ ((a0.take (Int.toNat (IntKind.i64.wrap (x13 + (1 : Int))))).drop (Int.toNat x13))))) ha rfl rfl rfl (fun w' hs => sadd_run ha rfl rfl hx39 w') fun a ha => ?_
    obtain ⟨⟨hx40, hx40'⟩, H⟩ := ite_some H
    have hi40 : (Int.toNat (IntKind.i64.wrap ((x12.length : Int) - (1 : Int)))) < x12.length := by omega
    obtain ⟨ge40, ee40⟩ := Own.addr f11 hi40
    refine qv (v := .pointer (some ⟨ge40, (Int.toNat (IntKind.i64.wrap ((x12.length : Int) - (1 : Int)))), none⟩)) ha rfl rfl rfl (fun w' hs => ixO_run (r := rStr) (T := 9) (k := .i64) (i := IntKind.i64.wrap ((x12.length : Int) - (1 : Int))) rfl ha (by kernel_rfl) (by kernel_rfl) (by rfl) (by rfl) ee40 hx40 hx40' w') fun a ha => ?_
    refine wpQuiet_nil ?_
    intro w41 hc42
    have o1 : Ok [] (blkL ao11 ++ (M)) w10.heap.size := Ok.nil _ _
    have o2 : Ok (blkL ao11 ++ (M)) (blkL ao11 ++ (M)) w10.heap.size := (Ok.refl _ _)
    have f11 := f11.chg hc42 o1 o2 (fun _ _ h => nomatch h) (fun _ h => ml h)
    have hM : MS (blkL ao11 ++ (M)) w41 := (hM.chg hc42)
    have hC := hC.trans hc42 (Ok.nil _ _)
    refine stO (r := rStr) (z := (rd x12 (IntKind.i64.wrap ((x12.length : Int) - (1 : Int)))) ++ ((a0.take (Int.toNat (IntKind.i64.wrap (x13 + (1 : Int))))).drop (Int.toNat x13))) ha rfl rfl (by kernel_rfl) rfl rfl f11 rfl ee40 hi40 (fun _ _ => rfl) fun a w43 ha hO45 hc44 => ?_
    have hM : MS (blkL ao11 ++ (M)) w43 := (hM.chg hc44)
    have hC := hC.trans hc44 (fun x h => .inr (e_i11 x h))
    have f45 := hO45
    have hl45 : (x12.set (Int.toNat (IntKind.i64.wrap ((x12.length : Int) - (1 : Int)))) ((rd x12 (IntKind.i64.wrap ((x12.length : Int) - (1 : Int)))) ++ ((a0.take (Int.toNat (IntKind.i64.wrap (x13 + (1 : Int))))).drop (Int.toNat x13)))).length = x12.length := List.length_set
    have ha : Has a Tryz.f145.ntmps [(0, .string (bstr a0)), (1, .int .u8 a1), (5, .slice ao11 (x12.set (Int.toNat (IntKind.i64.wrap ((x12.length : Int) - (1 : Int)))) ((rd x12 (IntKind.i64.wrap ((x12.length : Int) - (1 : Int)))) ++ ((a0.take (Int.toNat (IntKind.i64.wrap (x13 + (1 : Int))))).drop (Int.toNat x13)))).length cap11), (6, .int .i64 x13), (37, .string (bstr ((rd x12 (IntKind.i64.wrap ((x12.length : Int) - (1 : Int)))) ++ ((a0.take (Int.toNat (IntKind.i64.wrap (x13 + (1 : Int))))).drop (Int.toNat x13)))))] := by rw [hl45]; exact ha.sel (by kernel_rfl)
    refine hK19 _ _ ?_; try clear hK19 K19
    refine wp_region_lit ?_
    refine seg ha 3 [(0, .string (bstr a0)), (1, .int .u8 a1), (5, .slice ao11 (x12.set (Int.toNat (IntKind.i64.wrap ((x12.length : Int) - (1 : Int)))) ((rd x12 (IntKind.i64.wrap ((x12.length : Int) - (1 : Int)))) ++ ((a0.take (Int.toNat (IntKind.i64.wrap (x13 + (1 : Int))))).drop (Int.toNat x13)))).length cap11), (6, .int .i64 (IntKind.i64.wrap (x13 + (1 : Int))))] (by kernel_rfl) fun a ha => ?_
    exact ⟨kk, Nat.lt_succ_self _, ⟨(x12.set (Int.toNat (IntKind.i64.wrap ((x12.length : Int) - (1 : Int)))) ((rd x12 (IntKind.i64.wrap ((x12.length : Int) - (1 : Int)))) ++ ((a0.take (Int.toNat (IntKind.i64.wrap (x13 + (1 : Int))))).drop (Int.toNat x13)))), IntKind.i64.wrap (x13 + (1 : Int)), ao11, cap11, H, (ha.sel (by kernel_rfl)), f45, e_i11, p_i11_M, hC, hM⟩⟩
  ·have H := ite_f hc18 H
   refine wp_exit ?_
   simp only [Exit.then, Exit.inBlock, ↓reduceIte, Nat.reduceEqDiff]
   obtain rfl := Option.some.inj H
   exact J10 _ _ ao11 cap11 (ha.sel (by kernel_rfl)) f11 e_i11 p_i11_M hC hM
def vineryref02_rough.l0 (k : Nat) (t12 : List (List UInt8)) : Nat → Int → (List Int) → Option (List Int)
  | 0, _, _ => none
  | kk + 1, x23, x24 => (if (decide (x23 < (4 : Int))) = true then (if 0 ≤ x23 ∧ x23 < (t12.length : Int) then (vineryref02_Digits.f k (rd t12 x23) (10 : Int) (3 : Int)).bind fun t39 => (if 0 ≤ x23 ∧ x23 < (16 : Int) then vineryref02_rough.l0 k t12 kk (IntKind.i64.wrap (x23 + (1 : Int))) ((arL 16 x24).set (Int.toNat x23) (IntKind.u8.wrap (if t39 > (0 : Int) then t39 else (0 : Int)))) else none) else none) else some (x24 : List Int))
def vineryref02_rough.l2 (k : Nat) (t44 : List (List UInt8)) (s52 : Int) : Nat → Int → (List Int) → Option (List Int)
  | 0, _, _ => none
  | kk + 1, x58, x59 => (if (decide (x58 < (8 : Int))) = true then ((if (if (decide (s52 < (0 : Int))) = true then true else (decide (x58 < s52))) = true then (if (decide (x58 < (t44.length : Int))) = true then (if 0 ≤ x58 ∧ x58 < (t44.length : Int) then (vineryref02_Digits.f k (rd t44 x58) (16 : Int) (4 : Int)).bind fun t88 => some (if t88 > (0 : Int) then t88 else (0 : Int) : Int) else none) else some ((0 : Int) : Int)) else (if (if (decide ((IntKind.i64.wrap ((IntKind.i64.wrap ((t44.length : Int) - (8 : Int))) + x58)) > s52)) = true then (decide ((IntKind.i64.wrap ((IntKind.i64.wrap ((t44.length : Int) - (8 : Int))) + x58)) < (t44.length : Int))) else false) = true then (if 0 ≤ (IntKind.i64.wrap ((IntKind.i64.wrap ((t44.length : Int) - (8 : Int))) + x58)) ∧ (IntKind.i64.wrap ((IntKind.i64.wrap ((t44.length : Int) - (8 : Int))) + x58)) < (t44.length : Int) then (vineryref02_Digits.f k (rd t44 (IntKind.i64.wrap ((IntKind.i64.wrap ((t44.length : Int) - (8 : Int))) + x58))) (16 : Int) (4 : Int)).bind fun t99 => some (if t99 > (0 : Int) then t99 else (0 : Int) : Int) else none) else some ((0 : Int) : Int)))).bind fun s69 => (if 0 ≤ (IntKind.i64.wrap ((2 : Int) * x58)) ∧ (IntKind.i64.wrap ((2 : Int) * x58)) < (16 : Int) then (if 0 ≤ (IntKind.i64.wrap ((IntKind.i64.wrap ((2 : Int) * x58)) + (1 : Int))) ∧ (IntKind.i64.wrap ((IntKind.i64.wrap ((2 : Int) * x58)) + (1 : Int))) < (16 : Int) then vineryref02_rough.l2 k t44 s52 kk (IntKind.i64.wrap (x58 + (1 : Int))) ((arL 16 ((arL 16 x59).set (Int.toNat (IntKind.i64.wrap ((2 : Int) * x58))) (IntKind.u8.wrap (IntKind.i64.wrap (Int.tdiv s69 (256 : Int)))))).set (Int.toNat (IntKind.i64.wrap ((IntKind.i64.wrap ((2 : Int) * x58)) + (1 : Int)))) (IntKind.u8.wrap s69)) else none) else none) else some (x59 : List Int))
def vineryref02_rough.l1 (t44 : List (List UInt8)) : Nat → Int → Int → Option (Int)
  | 0, _, _ => none
  | kk + 1, x53, x54 => (if (if (decide (x54 < (IntKind.i64.wrap ((t44.length : Int) - (1 : Int))))) = true then (decide (x53 < (0 : Int))) else false) = true then (if 0 ≤ x54 ∧ x54 < (t44.length : Int) then (if ((bstr (rd t44 x54)).toList == (bstr ([] : List UInt8)).toList) = true then vineryref02_rough.l1 t44 kk x54 (IntKind.i64.wrap (x54 + (1 : Int))) else vineryref02_rough.l1 t44 kk x53 (IntKind.i64.wrap (x54 + (1 : Int)))) else none) else some (x53 : Int))
def vineryref02_rough.f (k : Nat) (a0 : List UInt8) : Option (S_api_Addr) := (vineryref02_split.f k a0 (46 : Int)).bind fun t12 => (if ((t12.length : Int) == (4 : Int)) = true then (vineryref02_rough.l0 k t12 k (0 : Int) (List.replicate 16 (0 : Int))).bind fun s22 => some (((⟨(4 : Int), s22⟩ : S_api_Addr) : S_api_Addr)) else (vineryref02_split.f k a0 (58 : Int)).bind fun t44 => (vineryref02_rough.l1 t44 k (-1 : Int) (1 : Int)).bind fun s52 => (vineryref02_rough.l2 k t44 s52 k (0 : Int) (List.replicate 16 (0 : Int))).bind fun s57 => some (((⟨(16 : Int), s57⟩ : S_api_Addr) : S_api_Addr)))
set_option maxRecDepth 100000 in
theorem vineryref02_rough.walk (w : World) (M : List Nat) (hM : MS M w) (a0 : List UInt8) (k : Nat) (r : S_api_Addr) (H : vineryref02_rough.f k a0 = some r) :
    To Tryz.prog 107 [.string (bstr a0)] w fun v w' => v = .agg (cS_api_Addr r).toArray ∧ Chg [] w w' ∧ MS (M) w' := by
 unfold vineryref02_rough.f at H
 refine ent Tryz.func107 rfl [(0, .string (bstr a0))] rfl (by rfl) fun a ha => ?_
 have hC : Chg [] w w := Chg.refl _ _
 refine wp_seq_k fun K1 hK1 => ?_
 refine wp_region_lit ?_
 refine al (cs := (cS_api_Addr (⟨(0 : Int), (List.replicate 16 (0 : Int))⟩ : S_api_Addr))) (z := .agg (cS_api_Addr (⟨(0 : Int), (List.replicate 16 (0 : Int))⟩ : S_api_Addr)).toArray) ha (fun w => by kernel_rfl) rfl rfl rfl rfl fun a w2 g3 hN4 ha => ?_
 have p_i5_M : ∀ x ∈ [g3], x ∉ M := fun x hx hy => absurd (hM x (hy)) (Nat.not_lt.2 ((hN4.ge1) x hx))
 have e_i5 : ∀ x ∈ [g3], w.heap.size ≤ x := fun x hx => Nat.le_trans hC.size ((hN4.ge1) x hx)
 have hM : MS ([g3] ++ (M)) w2 := (MS.app hN4.ms (hM.chg hN4.chg))
 have hC := hC.trans hN4.chg (Ok.nil _ _)
 have hBg3 : Box w2 g3 (cS_api_Addr (⟨(0 : Int), (List.replicate 16 (0 : Int))⟩ : S_api_Addr)) := hN4.box
 refine hK1 _ _ ?_; try clear hK1 K1
 refine wp_seq_k fun K6 hK6 => ?_
 refine wp_region_lit ?_
 refine al (cs := (cS_api_Addr (⟨(0 : Int), (List.replicate 16 (0 : Int))⟩ : S_api_Addr))) (z := .agg (cS_api_Addr (⟨(0 : Int), (List.replicate 16 (0 : Int))⟩ : S_api_Addr)).toArray) ha (fun w => by kernel_rfl) rfl rfl rfl rfl fun a w7 g8 hN9 ha => ?_
 have hBg3 := hBg3.chg hN9.chg (fun h => nomatch h)
 have p_i10_i5 : ∀ x ∈ [g8], x ∉ ([g3]) := fun x hx hy => absurd (hM x (ml hy)) (Nat.not_lt.2 ((hN9.ge1) x hx))
 have p_i10_M : ∀ x ∈ [g8], x ∉ M := fun x hx hy => absurd (hM x (mr (hy))) (Nat.not_lt.2 ((hN9.ge1) x hx))
 have e_i10 : ∀ x ∈ [g8], w.heap.size ≤ x := fun x hx => Nat.le_trans hC.size ((hN9.ge1) x hx)
 have hM : MS ([g8] ++ ([g3] ++ (M))) w7 := (MS.app hN9.ms (hM.chg hN9.chg))
 have hC := hC.trans hN9.chg (Ok.nil _ _)
 have hBg8 : Box w7 g8 (cS_api_Addr (⟨(0 : Int), (List.replicate 16 (0 : Int))⟩ : S_api_Addr)) := hN9.box
 refine hK6 _ _ ?_; try clear hK6 K6
 refine wp_seq_k fun K11 hK11 => ?_
 refine wp_region_lit ?_
 refine seg ha 1 [(0, .string (bstr a0)), (2, .pointer (some ⟨g3, 0, none⟩)), (3, .pointer (some ⟨g8, 0, none⟩)), (11, .string (bstr a0))] (by kernel_rfl) fun a ha => ?_
 obtain ⟨t12, H12, H⟩ := bind_some H
 refine cl ha (by rfl) (by kernel_rfl) (by rfl) (by rfl) (by rfl) (vineryref02_split.walk w7 _ hM a0 (46 : Int) k _ H12) ?_
 rintro _ w12 ⟨ao13, cap13, rfl, f13, ne_i13, hc12, hMn⟩ a ha
 have hBg3 := hBg3.chg hc12 (fun h => nomatch h)
 have hBg8 := hBg8.chg hc12 (fun h => nomatch h)
 have p_i13_i10 : ∀ x ∈ blkL ao13, x ∉ ([g8]) := fun x hx hy => absurd (hM x (ml hy)) (Nat.not_lt.2 (ne_i13 x hx))
 have p_i13_i5 : ∀ x ∈ blkL ao13, x ∉ ([g3]) := fun x hx hy => absurd (hM x (mr (ml hy))) (Nat.not_lt.2 (ne_i13 x hx))
 have p_i13_M : ∀ x ∈ blkL ao13, x ∉ M := fun x hx hy => absurd (hM x (mr (mr (hy)))) (Nat.not_lt.2 (ne_i13 x hx))
 have e_i13 : ∀ x ∈ blkL ao13, w.heap.size ≤ x := fun x hx => Nat.le_trans hC.size (ne_i13 x hx)
 have hM : MS (blkL ao13 ++ ([g8] ++ ([g3] ++ (M)))) w12 := (MS.app (fun x h => hMn x (ml h)) (hM.chg hc12))
 have hC := hC.trans hc12 (Ok.nil _ _)
 refine seg ha 1 [(0, .string (bstr a0)), (2, .pointer (some ⟨g3, 0, none⟩)), (3, .pointer (some ⟨g8, 0, none⟩)), (4, .slice ao13 t12.length cap13)] (by kernel_rfl) fun a ha => ?_
 refine hK11 _ _ ?_; try clear hK11 K11
 refine wp_seq_k fun K14 hK14 => ?_
 refine wp_seq_k fun K15 hK15 => ?_
 refine wp_region_lit ?_
 refine seg ha 3 [(0, .string (bstr a0)), (2, .pointer (some ⟨g3, 0, none⟩)), (3, .pointer (some ⟨g8, 0, none⟩)), (4, .slice ao13 t12.length cap13), (15, .bool ((t12.length : Int) == (4 : Int)))] (by kernel_rfl) fun a ha => ?_
 refine hK15 _ _ ?_; try clear hK15 K15
 refine cnd ha rfl (fun hc16 => ?_) (fun hc16 => ?_)
 ·have H := ite_t hc16 H
  refine wp_seq_k fun K17 hK17 => ?_
  refine wp_region_lit ?_
  refine seg ha 1 [(2, .pointer (some ⟨g3, 0, none⟩)), (3, .pointer (some ⟨g8, 0, none⟩)), (4, .slice ao13 t12.length cap13), (16, .pointer (some ⟨g8, 0, none⟩))] (by kernel_rfl) fun a ha => ?_
  refine st ha rfl rfl rfl (by kernel_rfl) rfl rfl hBg8 (Nat.le_of_ble_eq_true (by kernel_rfl)) fun a w18 ha hb2 hc19 _ => ?_
  have o1 : Ok [g8] (blkL ao13 ++ ([g8] ++ ([g3] ++ (M)))) w12.heap.size := (fun _ h => .inl (mr (ml h)))
  have o2 : Ok (blkL ao13 ++ ([g8] ++ ([g3] ++ (M)))) (blkL ao13 ++ ([g8] ++ ([g3] ++ (M)))) w12.heap.size := (Ok.refl _ _)
  have f13 := f13.chg hc19 o1 o2 p_i13_i10 (fun _ h => ml h)
  have hBg3 := hBg3.chg hc19 ((fun x (hx : x ∈ [g3]) (hy : x ∈ [g8]) => p_i10_i5 x hy hx) g3 (by simp))
  have hM : MS (blkL ao13 ++ ([g8] ++ ([g3] ++ (M)))) w18 := (hM.chg hc19)
  have hC := hC.trans hc19 (fun x h => .inr (e_i10 x h))
  have hBg8 : Box w18 g8 (cS_api_Addr (⟨(4 : Int), (List.replicate 16 (0 : Int))⟩ : S_api_Addr)) := hb2
  refine hK17 _ _ ?_; try clear hK17 K17
  refine wp_seq_k fun K20 hK20 => ?_
  refine wp_seq_k fun K21 hK21 => ?_
  refine wp_region_lit ?_
  refine seg ha 1 [(2, .pointer (some ⟨g3, 0, none⟩)), (3, .pointer (some ⟨g8, 0, none⟩)), (4, .slice ao13 t12.length cap13), (5, .int .i64 (0 : Int))] (by kernel_rfl) fun a ha => ?_
  refine hK21 _ _ ?_; try clear hK21 K21
  refine wp_block ?_
  obtain ⟨s22, H22, H⟩ := bind_some H
  have J22 : ∀ (a : Act) (wx22 : World), Has a Tryz.f107.ntmps [(2, .pointer (some ⟨g3, 0, none⟩)), (3, .pointer (some ⟨g8, 0, none⟩))] → (Box wx22 g3 (cS_api_Addr (⟨(0 : Int), (List.replicate 16 (0 : Int))⟩ : S_api_Addr))) → (Box wx22 g8 (cS_api_Addr (⟨(4 : Int), s22⟩ : S_api_Addr))) → (Chg [] w wx22) → (MS ([g8] ++ ([g3] ++ (M))) wx22) → K20 a wx22 := by
   intro a wx22 ha hBg3 hBg8 hC hM
   refine hK20 _ _ ?_; try clear hK20 K20
   refine wp_seq_k fun K25 hK25 => ?_
   refine wp_region_lit ?_
   refine ldA (cs := (cS_api_Addr (⟨(4 : Int), s22⟩ : S_api_Addr))) ha rfl (by kernel_rfl) rfl rfl rfl (cells_sub (Box.cells hBg8) (all := (cS_api_Addr (⟨(4 : Int), s22⟩ : S_api_Addr))) [] [] (by kernel_rfl)) fun a ha => ?_
   refine stA (l := (cS_api_Addr (⟨(4 : Int), s22⟩ : S_api_Addr))) ha rfl rfl rfl (by kernel_rfl) rfl rfl hBg3 rfl fun a w26 ha hb2 hc27 _ => ?_
   have hBg8 := hBg8.chg hc27 (p_i10_i5 g8 (by simp))
   have hM : MS ([g8] ++ ([g3] ++ (M))) w26 := (hM.chg hc27)
   have hC := hC.trans hc27 (fun x h => .inr (e_i5 x h))
   have hBg3 : Box w26 g3 (cS_api_Addr (⟨(4 : Int), s22⟩ : S_api_Addr)) := hb2
   refine hK25 _ _ ?_; try clear hK25 K25
   refine wp_ret ?_
   try simp only [Exit.then, Exit.inBlock]
   have hBg3 := hBg3.chg (Chg.refl [] _) (fun h => nomatch h)
   have hBg8 := hBg8.chg (Chg.refl [] _) (fun h => nomatch h)
   have hM : MS (M) w26 := (fun x h => hM.chg (Chg.refl [] _) x (mr (mr (h))))
   have hC := hC.trans (Chg.refl [] _) (Ok.nil _ _)
   obtain rfl := Option.some.inj H
   refine rtr ha (res1 rfl (roA ha rfl hBg3 (by kernel_rfl))) ?_
   exact ⟨rfl, hC, hM⟩
  have Hc22 := H
  have H := H22
  refine wp_loop_ghost (fun kk a w22 => ∃ (x23 : Int) (x24 : List Int), vineryref02_rough.l0 k t12 kk x23 x24 = some s22 ∧ Has a Tryz.f107.ntmps [(2, .pointer (some ⟨g3, 0, none⟩)), (3, .pointer (some ⟨g8, 0, none⟩)), (4, .slice ao13 t12.length cap13), (5, .int .i64 x23)] ∧ (Own rStr 9 w22 (blkL ao13 ++ ([g8] ++ ([g3] ++ (M)))) ao13 cap13 t12) ∧ (Box w22 g3 (cS_api_Addr (⟨(0 : Int), (List.replicate 16 (0 : Int))⟩ : S_api_Addr))) ∧ (Box w22 g8 (cS_api_Addr (⟨(4 : Int), x24⟩ : S_api_Addr))) ∧ (Chg [] w w22) ∧ (MS (blkL ao13 ++ ([g8] ++ ([g3] ++ (M)))) w22)) k ?_ ?_
  ·skip
   exact ⟨(0 : Int), (List.replicate 16 (0 : Int)), H, (ha.sel (by kernel_rfl)), f13, hBg3, hBg8, hC, hM⟩
  ·rintro kk a w22 ⟨x23, x24, H, ha, f13, hBg3, hBg8, hC, hM⟩
   obtain _ | kk := kk
   ·exact nomatch (show none = some _ from H)
   rw [vineryref02_rough.l0] at H
   refine wp_seq_k fun K28 hK28 => ?_
   refine wp_seq_k fun K29 hK29 => ?_
   refine wp_region_lit ?_
   refine seg ha 2 [(2, .pointer (some ⟨g3, 0, none⟩)), (3, .pointer (some ⟨g8, 0, none⟩)), (4, .slice ao13 t12.length cap13), (5, .int .i64 x23), (18, .bool (decide (x23 < (4 : Int))))] (by kernel_rfl) fun a ha => ?_
   refine hK29 _ _ ?_; try clear hK29 K29
   refine cnd ha rfl (fun hc30 => ?_) (fun hc30 => ?_)
   ·have H := ite_t hc30 H
    refine wp_skip ?_
    refine hK28 _ _ ?_; try clear hK28 K28
    refine wp_seq_k fun K31 hK31 => ?_
    refine wp_block ?_
    refine wp_region_lit ?_
    refine seg ha 3 [(2, .pointer (some ⟨g3, 0, none⟩)), (3, .pointer (some ⟨g8, 0, none⟩)), (4, .slice ao13 t12.length cap13), (5, .int .i64 x23), (21, .int .i64 x23), (22, .slice ao13 t12.length cap13), (23, .int .i64 x23)] (by kernel_rfl) fun a ha => ?_
    obtain ⟨⟨hx32, hx32'⟩, H⟩ := ite_some H
    refine ix (r := rStr) ha (by kernel_rfl) (by kernel_rfl) rfl rfl rfl rfl rfl (Own.toRSl (M' := []) f13 (Ok.nil _ _) (fun _ _ h => nomatch h)) hx32 hx32' fun a ge33 oe34 cs35 hn38 hR36 hE37 ha => ?_
    rw [rd_get] at hR36
    obtain rfl := hR36
    have hE37 : ∀ j v, ([.string (bstr (rd t12 x23))] : List Value)[j]? = some v → w22.cell? ⟨ge33, oe34 + j, none⟩ = some v := hE37
    refine ld ha rfl (by kernel_rfl) rfl rfl rfl (hE37 0 (.string (bstr (rd t12 x23))) (by kernel_rfl)) fun a ha => ?_
    obtain ⟨t39, H39, H⟩ := bind_some H
    refine cl ha (by rfl) (by kernel_rfl) (by rfl) (by rfl) (by rfl) (vineryref02_Digits.walk w22 _ hM (rd t12 x23) (10 : Int) (3 : Int) k _ H39) ?_
    rintro _ w39 ⟨rfl, hc39, hMn⟩ a ha
    have o1 : Ok [] (blkL ao13 ++ ([g8] ++ ([g3] ++ (M)))) w22.heap.size := Ok.nil _ _
    have o2 : Ok (blkL ao13 ++ ([g8] ++ ([g3] ++ (M)))) (blkL ao13 ++ ([g8] ++ ([g3] ++ (M)))) w22.heap.size := (Ok.refl _ _)
    have f13 := f13.chg hc39 o1 o2 (fun _ _ h => nomatch h) (fun _ h => ml h)
    have hBg3 := hBg3.chg hc39 (fun h => nomatch h)
    have hBg8 := hBg8.chg hc39 (fun h => nomatch h)
    have hM : MS (blkL ao13 ++ ([g8] ++ ([g3] ++ (M)))) w39 := (hM.chg hc39)
    have hC := hC.trans hc39 (Ok.nil _ _)
    refine opk (v := .int .i64 (if t39 > (0 : Int) then t39 else (0 : Int))) ha rfl rfl rfl rfl rfl (fun w => by kernel_rfl) fun a ha => ?_
    refine seg ha 2 [(2, .pointer (some ⟨g3, 0, none⟩)), (3, .pointer (some ⟨g8, 0, none⟩)), (4, .slice ao13 t12.length cap13), (5, .int .i64 x23), (21, .int .i64 x23), (28, .int .u8 (IntKind.u8.wrap (if t39 > (0 : Int) then t39 else (0 : Int)))), (29, .pointer (some ⟨g8, 1, none⟩))] (by kernel_rfl) fun a ha => ?_
    obtain ⟨⟨hx40, hx40'⟩, H⟩ := ite_some H
    have hi40 : (Int.toNat x23) < 16 := by omega
    refine hop (v := .pointer (some ⟨g8, 1 + (Int.toNat x23), none⟩)) (w' := w39) ha rfl rfl rfl (ixA_run (T := 5) (N := 16) (g := g8) (o' := 1) (k := .i64) (i := x23) ha (by kernel_rfl) (by kernel_rfl) (by rfl) (by rfl) hx40 hx40' _) fun a ha => ?_
    refine st (o' := 1 + (Int.toNat x23)) ha rfl rfl rfl (by kernel_rfl) rfl rfl hBg8 (arr_lt (k := .u8) (m := 16) (x := x24) ([.int .i64 (4 : Int)] : List Value) ([] : List Value) (by kernel_rfl) hi40) fun a w41 ha hb2 hc42 _ => ?_
    have o1 : Ok [g8] (blkL ao13 ++ ([g8] ++ ([g3] ++ (M)))) w39.heap.size := (fun _ h => .inl (mr (ml h)))
    have o2 : Ok (blkL ao13 ++ ([g8] ++ ([g3] ++ (M)))) (blkL ao13 ++ ([g8] ++ ([g3] ++ (M)))) w39.heap.size := (Ok.refl _ _)
    have f13 := f13.chg hc42 o1 o2 p_i13_i10 (fun _ h => ml h)
    have hBg3 := hBg3.chg hc42 ((fun x (hx : x ∈ [g3]) (hy : x ∈ [g8]) => p_i10_i5 x hy hx) g3 (by simp))
    have hM : MS (blkL ao13 ++ ([g8] ++ ([g3] ++ (M)))) w41 := (hM.chg hc42)
    have hC := hC.trans hc42 (fun x h => .inr (e_i10 x h))
    have hBg8 : Box w41 g8 (cS_api_Addr (⟨(4 : Int), ((arL 16 x24).set (Int.toNat x23) (IntKind.u8.wrap (if t39 > (0 : Int) then t39 else (0 : Int))))⟩ : S_api_Addr)) := Box.setA (k := .u8) (m := 16) (x := x24) ([.int .i64 (4 : Int)] : List Value) ([] : List Value) hb2 (by kernel_rfl) hi40 (by kernel_rfl)
    refine hK31 _ _ ?_; try clear hK31 K31
    refine wp_region_lit ?_
    refine seg ha 3 [(2, .pointer (some ⟨g3, 0, none⟩)), (3, .pointer (some ⟨g8, 0, none⟩)), (4, .slice ao13 t12.length cap13), (5, .int .i64 (IntKind.i64.wrap (x23 + (1 : Int))))] (by kernel_rfl) fun a ha => ?_
    exact ⟨kk, Nat.lt_succ_self _, ⟨IntKind.i64.wrap (x23 + (1 : Int)), ((arL 16 x24).set (Int.toNat x23) (IntKind.u8.wrap (if t39 > (0 : Int) then t39 else (0 : Int)))), H, (ha.sel (by kernel_rfl)), f13, hBg3, hBg8, hC, hM⟩⟩
   ·have H := ite_f hc30 H
    refine wp_exit ?_
    simp only [Exit.then, Exit.inBlock, ↓reduceIte, Nat.reduceEqDiff]
    obtain rfl := Option.some.inj H
    have hBg3 := hBg3.chg (Chg.refl [] _) (fun h => nomatch h)
    have hBg8 := hBg8.chg (Chg.refl [] _) (fun h => nomatch h)
    have hM : MS ([g8] ++ ([g3] ++ (M))) w22 := (fun x h => hM.chg (Chg.refl [] _) x (mr (h)))
    have hC := hC.trans (Chg.refl [] _) (Ok.nil _ _)
    exact J22 _ _ (ha.sel (by kernel_rfl)) hBg3 hBg8 hC hM
 ·have H := ite_f hc16 H
  refine wp_skip ?_
  refine hK14 _ _ ?_; try clear hK14 K14
  refine wp_seq_k fun K43 hK43 => ?_
  refine wp_region_lit ?_
  refine seg ha 1 [(2, .pointer (some ⟨g3, 0, none⟩)), (3, .pointer (some ⟨g8, 0, none⟩)), (32, .string (bstr a0))] (by kernel_rfl) fun a ha => ?_
  obtain ⟨t44, H44, H⟩ := bind_some H
  refine cl ha (by rfl) (by kernel_rfl) (by rfl) (by rfl) (by rfl) (vineryref02_split.walk w12 _ hM a0 (58 : Int) k _ H44) ?_
  rintro _ w44 ⟨ao45, cap45, rfl, f45, ne_i45, hc44, hMn⟩ a ha
  have hBg3 := hBg3.chg hc44 (fun h => nomatch h)
  have hBg8 := hBg8.chg hc44 (fun h => nomatch h)
  have p_i45_i13 : ∀ x ∈ blkL ao45, x ∉ (blkL ao13) := fun x hx hy => absurd (hM x (ml hy)) (Nat.not_lt.2 (ne_i45 x hx))
  have p_i45_i10 : ∀ x ∈ blkL ao45, x ∉ ([g8]) := fun x hx hy => absurd (hM x (mr (ml hy))) (Nat.not_lt.2 (ne_i45 x hx))
  have p_i45_i5 : ∀ x ∈ blkL ao45, x ∉ ([g3]) := fun x hx hy => absurd (hM x (mr (mr (ml hy)))) (Nat.not_lt.2 (ne_i45 x hx))
  have p_i45_M : ∀ x ∈ blkL ao45, x ∉ M := fun x hx hy => absurd (hM x (mr (mr (mr (hy))))) (Nat.not_lt.2 (ne_i45 x hx))
  have e_i45 : ∀ x ∈ blkL ao45, w.heap.size ≤ x := fun x hx => Nat.le_trans hC.size (ne_i45 x hx)
  have hM : MS (blkL ao45 ++ (blkL ao13 ++ ([g8] ++ ([g3] ++ (M))))) w44 := (MS.app (fun x h => hMn x (ml h)) (hM.chg hc44))
  have hC := hC.trans hc44 (Ok.nil _ _)
  refine seg ha 1 [(2, .pointer (some ⟨g3, 0, none⟩)), (3, .pointer (some ⟨g8, 0, none⟩)), (4, .slice ao45 t44.length cap45)] (by kernel_rfl) fun a ha => ?_
  refine hK43 _ _ ?_; try clear hK43 K43
  refine wp_seq_k fun K46 hK46 => ?_
  refine wp_region_lit ?_
  refine seg ha 1 [(2, .pointer (some ⟨g3, 0, none⟩)), (3, .pointer (some ⟨g8, 0, none⟩)), (4, .slice ao45 t44.length cap45), (34, .pointer (some ⟨g8, 0, none⟩))] (by kernel_rfl) fun a ha => ?_
  refine st ha rfl rfl rfl (by kernel_rfl) rfl rfl hBg8 (Nat.le_of_ble_eq_true (by kernel_rfl)) fun a w47 ha hb2 hc48 _ => ?_
  have o1 : Ok [g8] (blkL ao45 ++ (blkL ao13 ++ ([g8] ++ ([g3] ++ (M))))) w44.heap.size := (fun _ h => .inl (mr (mr (ml h))))
  have o2 : Ok (blkL ao45 ++ (blkL ao13 ++ ([g8] ++ ([g3] ++ (M))))) (blkL ao45 ++ (blkL ao13 ++ ([g8] ++ ([g3] ++ (M))))) w44.heap.size := (Ok.refl _ _)
  have f45 := f45.chg hc48 o1 o2 p_i45_i10 (fun _ h => ml h)
  have hBg3 := hBg3.chg hc48 ((fun x (hx : x ∈ [g3]) (hy : x ∈ [g8]) => p_i10_i5 x hy hx) g3 (by simp))
  have hM : MS (blkL ao45 ++ (blkL ao13 ++ ([g8] ++ ([g3] ++ (M))))) w47 := (hM.chg hc48)
  have hC := hC.trans hc48 (fun x h => .inr (e_i10 x h))
  have hBg8 : Box w47 g8 (cS_api_Addr (⟨(16 : Int), (List.replicate 16 (0 : Int))⟩ : S_api_Addr)) := hb2
  refine hK46 _ _ ?_; try clear hK46 K46
  refine wp_seq_k fun K49 hK49 => ?_
  refine wp_region_lit ?_
  refine seg ha 1 [(2, .pointer (some ⟨g3, 0, none⟩)), (3, .pointer (some ⟨g8, 0, none⟩)), (4, .slice ao45 t44.length cap45), (6, .int .i64 (-1 : Int))] (by kernel_rfl) fun a ha => ?_
  refine hK49 _ _ ?_; try clear hK49 K49
  refine wp_seq_k fun K50 hK50 => ?_
  refine wp_seq_k fun K51 hK51 => ?_
  refine wp_region_lit ?_
  refine seg ha 1 [(2, .pointer (some ⟨g3, 0, none⟩)), (3, .pointer (some ⟨g8, 0, none⟩)), (4, .slice ao45 t44.length cap45), (6, .int .i64 (-1 : Int)), (7, .int .i64 (1 : Int))] (by kernel_rfl) fun a ha => ?_
  refine hK51 _ _ ?_; try clear hK51 K51
  refine wp_block ?_
  obtain ⟨s52, H52, H⟩ := bind_some H
  have J52 : ∀ (a : Act) (wx52 : World), Has a Tryz.f107.ntmps [(2, .pointer (some ⟨g3, 0, none⟩)), (3, .pointer (some ⟨g8, 0, none⟩)), (4, .slice ao45 t44.length cap45), (6, .int .i64 s52)] → (Own rStr 9 wx52 (blkL ao45 ++ ([g8] ++ ([g3] ++ (M)))) ao45 cap45 t44) → (Box wx52 g3 (cS_api_Addr (⟨(0 : Int), (List.replicate 16 (0 : Int))⟩ : S_api_Addr))) → (Box wx52 g8 (cS_api_Addr (⟨(16 : Int), (List.replicate 16 (0 : Int))⟩ : S_api_Addr))) → (Chg [] w wx52) → (MS (blkL ao45 ++ ([g8] ++ ([g3] ++ (M)))) wx52) → K50 a wx52 := by
   intro a wx52 ha f45 hBg3 hBg8 hC hM
   refine hK50 _ _ ?_; try clear hK50 K50
   refine wp_seq_k fun K55 hK55 => ?_
   refine wp_seq_k fun K56 hK56 => ?_
   refine wp_region_lit ?_
   refine seg ha 1 [(2, .pointer (some ⟨g3, 0, none⟩)), (3, .pointer (some ⟨g8, 0, none⟩)), (4, .slice ao45 t44.length cap45), (6, .int .i64 s52), (8, .int .i64 (0 : Int))] (by kernel_rfl) fun a ha => ?_
   refine hK56 _ _ ?_; try clear hK56 K56
   refine wp_block ?_
   obtain ⟨s57, H57, H⟩ := bind_some H
   have J57 : ∀ (a : Act) (wx57 : World), Has a Tryz.f107.ntmps [(2, .pointer (some ⟨g3, 0, none⟩)), (3, .pointer (some ⟨g8, 0, none⟩))] → (Box wx57 g3 (cS_api_Addr (⟨(0 : Int), (List.replicate 16 (0 : Int))⟩ : S_api_Addr))) → (Box wx57 g8 (cS_api_Addr (⟨(16 : Int), s57⟩ : S_api_Addr))) → (Chg [] w wx57) → (MS ([g8] ++ ([g3] ++ (M))) wx57) → K55 a wx57 := by
    intro a wx57 ha hBg3 hBg8 hC hM
    refine hK55 _ _ ?_; try clear hK55 K55
    refine wp_seq_k fun K60 hK60 => ?_
    refine wp_region_lit ?_
    refine ldA (cs := (cS_api_Addr (⟨(16 : Int), s57⟩ : S_api_Addr))) ha rfl (by kernel_rfl) rfl rfl rfl (cells_sub (Box.cells hBg8) (all := (cS_api_Addr (⟨(16 : Int), s57⟩ : S_api_Addr))) [] [] (by kernel_rfl)) fun a ha => ?_
    refine stA (l := (cS_api_Addr (⟨(16 : Int), s57⟩ : S_api_Addr))) ha rfl rfl rfl (by kernel_rfl) rfl rfl hBg3 rfl fun a w61 ha hb2 hc62 _ => ?_
    have hBg8 := hBg8.chg hc62 (p_i10_i5 g8 (by simp))
    have hM : MS ([g8] ++ ([g3] ++ (M))) w61 := (hM.chg hc62)
    have hC := hC.trans hc62 (fun x h => .inr (e_i5 x h))
    have hBg3 : Box w61 g3 (cS_api_Addr (⟨(16 : Int), s57⟩ : S_api_Addr)) := hb2
    refine hK60 _ _ ?_; try clear hK60 K60
    refine wp_ret ?_
    try simp only [Exit.then, Exit.inBlock]
    have hBg3 := hBg3.chg (Chg.refl [] _) (fun h => nomatch h)
    have hBg8 := hBg8.chg (Chg.refl [] _) (fun h => nomatch h)
    have hM : MS (M) w61 := (fun x h => hM.chg (Chg.refl [] _) x (mr (mr (h))))
    have hC := hC.trans (Chg.refl [] _) (Ok.nil _ _)
    obtain rfl := Option.some.inj H
    refine rtr ha (res1 rfl (roA ha rfl hBg3 (by kernel_rfl))) ?_
    exact ⟨rfl, hC, hM⟩
   have Hc57 := H
   have H := H57
   refine wp_loop_ghost (fun kk a w57 => ∃ (x58 : Int) (x59 : List Int), vineryref02_rough.l2 k t44 s52 kk x58 x59 = some s57 ∧ Has a Tryz.f107.ntmps [(2, .pointer (some ⟨g3, 0, none⟩)), (3, .pointer (some ⟨g8, 0, none⟩)), (4, .slice ao45 t44.length cap45), (6, .int .i64 s52), (8, .int .i64 x58)] ∧ (Own rStr 9 w57 (blkL ao45 ++ ([g8] ++ ([g3] ++ (M)))) ao45 cap45 t44) ∧ (Box w57 g3 (cS_api_Addr (⟨(0 : Int), (List.replicate 16 (0 : Int))⟩ : S_api_Addr))) ∧ (Box w57 g8 (cS_api_Addr (⟨(16 : Int), x59⟩ : S_api_Addr))) ∧ (Chg [] w w57) ∧ (MS (blkL ao45 ++ ([g8] ++ ([g3] ++ (M)))) w57)) k ?_ ?_
   ·skip
    exact ⟨(0 : Int), (List.replicate 16 (0 : Int)), H, (ha.sel (by kernel_rfl)), f45, hBg3, hBg8, hC, hM⟩
   ·rintro kk a w57 ⟨x58, x59, H, ha, f45, hBg3, hBg8, hC, hM⟩
    obtain _ | kk := kk
    ·exact nomatch (show none = some _ from H)
    rw [vineryref02_rough.l2] at H
    refine wp_seq_k fun K63 hK63 => ?_
    refine wp_seq_k fun K64 hK64 => ?_
    refine wp_region_lit ?_
    refine seg ha 2 [(2, .pointer (some ⟨g3, 0, none⟩)), (3, .pointer (some ⟨g8, 0, none⟩)), (4, .slice ao45 t44.length cap45), (6, .int .i64 s52), (8, .int .i64 x58), (53, .bool (decide (x58 < (8 : Int))))] (by kernel_rfl) fun a ha => ?_
    refine hK64 _ _ ?_; try clear hK64 K64
    refine cnd ha rfl (fun hc65 => ?_) (fun hc65 => ?_)
    ·have H := ite_t hc65 H
     refine wp_skip ?_
     refine hK63 _ _ ?_; try clear hK63 K63
     refine wp_seq_k fun K66 hK66 => ?_
     refine wp_block ?_
     refine wp_seq_k fun K67 hK67 => ?_
     refine wp_region_lit ?_
     refine seg ha 1 [(2, .pointer (some ⟨g3, 0, none⟩)), (3, .pointer (some ⟨g8, 0, none⟩)), (4, .slice ao45 t44.length cap45), (6, .int .i64 s52), (8, .int .i64 x58), (9, .int .i64 (0 : Int))] (by kernel_rfl) fun a ha => ?_
     refine hK67 _ _ ?_; try clear hK67 K67
     refine wp_seq_k fun K68 hK68 => ?_
     obtain ⟨s69, H69, H⟩ := bind_some H
     have J69 : ∀ (a : Act) (w69 : World), Has a Tryz.f107.ntmps [(2, .pointer (some ⟨g3, 0, none⟩)), (3, .pointer (some ⟨g8, 0, none⟩)), (4, .slice ao45 t44.length cap45), (6, .int .i64 s52), (8, .int .i64 x58), (9, .int .i64 s69)] → (Own rStr 9 w69 (blkL ao45 ++ ([g8] ++ ([g3] ++ (M)))) ao45 cap45 t44) → (Box w69 g3 (cS_api_Addr (⟨(0 : Int), (List.replicate 16 (0 : Int))⟩ : S_api_Addr))) → (Box w69 g8 (cS_api_Addr (⟨(16 : Int), x59⟩ : S_api_Addr))) → (Chg [] w w69) → (MS (blkL ao45 ++ ([g8] ++ ([g3] ++ (M)))) w69) → K68 a w69 := by
      intro a w69 ha f45 hBg3 hBg8 hC hM
      refine hK68 _ _ ?_; try clear hK68 K68
      refine wp_seq_k fun K70 hK70 => ?_
      refine wp_region_lit ?_
      refine seg ha 6 [(2, .pointer (some ⟨g3, 0, none⟩)), (3, .pointer (some ⟨g8, 0, none⟩)), (4, .slice ao45 t44.length cap45), (6, .int .i64 s52), (8, .int .i64 x58), (9, .int .i64 s69), (94, .int .i64 (IntKind.i64.wrap ((2 : Int) * x58))), (97, .int .u8 (IntKind.u8.wrap (IntKind.i64.wrap (Int.tdiv s69 (256 : Int))))), (98, .pointer (some ⟨g8, 1, none⟩))] (by kernel_rfl) fun a ha => ?_
      obtain ⟨⟨hx71, hx71'⟩, H⟩ := ite_some H
      have hi71 : (Int.toNat (IntKind.i64.wrap ((2 : Int) * x58))) < 16 := by omega
      refine hop (v := .pointer (some ⟨g8, 1 + (Int.toNat (IntKind.i64.wrap ((2 : Int) * x58))), none⟩)) (w' := w69) ha rfl rfl rfl (ixA_run (T := 5) (N := 16) (g := g8) (o' := 1) (k := .i64) (i := IntKind.i64.wrap ((2 : Int) * x58)) ha (by kernel_rfl) (by kernel_rfl) (by rfl) (by rfl) hx71 hx71' _) fun a ha => ?_
      refine st (o' := 1 + (Int.toNat (IntKind.i64.wrap ((2 : Int) * x58)))) ha rfl rfl rfl (by kernel_rfl) rfl rfl hBg8 (arr_lt (k := .u8) (m := 16) (x := x59) ([.int .i64 (16 : Int)] : List Value) ([] : List Value) (by kernel_rfl) hi71) fun a w72 ha hb2 hc73 _ => ?_
      have o1 : Ok [g8] (blkL ao45 ++ ([g8] ++ ([g3] ++ (M)))) w69.heap.size := (fun _ h => .inl (mr (ml h)))
      have o2 : Ok (blkL ao45 ++ ([g8] ++ ([g3] ++ (M)))) (blkL ao45 ++ ([g8] ++ ([g3] ++ (M)))) w69.heap.size := (Ok.refl _ _)
      have f45 := f45.chg hc73 o1 o2 p_i45_i10 (fun _ h => ml h)
      have hBg3 := hBg3.chg hc73 ((fun x (hx : x ∈ [g3]) (hy : x ∈ [g8]) => p_i10_i5 x hy hx) g3 (by simp))
      have hM : MS (blkL ao45 ++ ([g8] ++ ([g3] ++ (M)))) w72 := (hM.chg hc73)
      have hC := hC.trans hc73 (fun x h => .inr (e_i10 x h))
      have hBg8 : Box w72 g8 (cS_api_Addr (⟨(16 : Int), ((arL 16 x59).set (Int.toNat (IntKind.i64.wrap ((2 : Int) * x58))) (IntKind.u8.wrap (IntKind.i64.wrap (Int.tdiv s69 (256 : Int)))))⟩ : S_api_Addr)) := Box.setA (k := .u8) (m := 16) (x := x59) ([.int .i64 (16 : Int)] : List Value) ([] : List Value) hb2 (by kernel_rfl) hi71 (by kernel_rfl)
      refine hK70 _ _ ?_; try clear hK70 K70
      refine wp_region_lit ?_
      refine seg ha 6 [(2, .pointer (some ⟨g3, 0, none⟩)), (3, .pointer (some ⟨g8, 0, none⟩)), (4, .slice ao45 t44.length cap45), (6, .int .i64 s52), (8, .int .i64 x58), (102, .int .i64 (IntKind.i64.wrap ((IntKind.i64.wrap ((2 : Int) * x58)) + (1 : Int)))), (104, .int .u8 (IntKind.u8.wrap s69)), (105, .pointer (some ⟨g8, 1, none⟩))] (by kernel_rfl) fun a ha => ?_
      obtain ⟨⟨hx74, hx74'⟩, H⟩ := ite_some H
      have hi74 : (Int.toNat (IntKind.i64.wrap ((IntKind.i64.wrap ((2 : Int) * x58)) + (1 : Int)))) < 16 := by omega
      refine hop (v := .pointer (some ⟨g8, 1 + (Int.toNat (IntKind.i64.wrap ((IntKind.i64.wrap ((2 : Int) * x58)) + (1 : Int)))), none⟩)) (w' := w72) ha rfl rfl rfl (ixA_run (T := 5) (N := 16) (g := g8) (o' := 1) (k := .i64) (i := IntKind.i64.wrap ((IntKind.i64.wrap ((2 : Int) * x58)) + (1 : Int))) ha (by kernel_rfl) (by kernel_rfl) (by rfl) (by rfl) hx74 hx74' _) fun a ha => ?_
      refine st (o' := 1 + (Int.toNat (IntKind.i64.wrap ((IntKind.i64.wrap ((2 : Int) * x58)) + (1 : Int))))) ha rfl rfl rfl (by kernel_rfl) rfl rfl hBg8 (arr_lt (k := .u8) (m := 16) (x := ((arL 16 x59).set (Int.toNat (IntKind.i64.wrap ((2 : Int) * x58))) (IntKind.u8.wrap (IntKind.i64.wrap (Int.tdiv s69 (256 : Int)))))) ([.int .i64 (16 : Int)] : List Value) ([] : List Value) (by kernel_rfl) hi74) fun a w75 ha hb2 hc76 _ => ?_
      have o1 : Ok [g8] (blkL ao45 ++ ([g8] ++ ([g3] ++ (M)))) w72.heap.size := (fun _ h => .inl (mr (ml h)))
      have o2 : Ok (blkL ao45 ++ ([g8] ++ ([g3] ++ (M)))) (blkL ao45 ++ ([g8] ++ ([g3] ++ (M)))) w72.heap.size := (Ok.refl _ _)
      have f45 := f45.chg hc76 o1 o2 p_i45_i10 (fun _ h => ml h)
      have hBg3 := hBg3.chg hc76 ((fun x (hx : x ∈ [g3]) (hy : x ∈ [g8]) => p_i10_i5 x hy hx) g3 (by simp))
      have hM : MS (blkL ao45 ++ ([g8] ++ ([g3] ++ (M)))) w75 := (hM.chg hc76)
      have hC := hC.trans hc76 (fun x h => .inr (e_i10 x h))
      have hBg8 : Box w75 g8 (cS_api_Addr (⟨(16 : Int), ((arL 16 ((arL 16 x59).set (Int.toNat (IntKind.i64.wrap ((2 : Int) * x58))) (IntKind.u8.wrap (IntKind.i64.wrap (Int.tdiv s69 (256 : Int)))))).set (Int.toNat (IntKind.i64.wrap ((IntKind.i64.wrap ((2 : Int) * x58)) + (1 : Int)))) (IntKind.u8.wrap s69))⟩ : S_api_Addr)) := Box.setA (k := .u8) (m := 16) (x := ((arL 16 x59).set (Int.toNat (IntKind.i64.wrap ((2 : Int) * x58))) (IntKind.u8.wrap (IntKind.i64.wrap (Int.tdiv s69 (256 : Int)))))) ([.int .i64 (16 : Int)] : List Value) ([] : List Value) hb2 (by kernel_rfl) hi74 (by kernel_rfl)
      refine hK66 _ _ ?_; try clear hK66 K66
      refine wp_region_lit ?_
      refine seg ha 3 [(2, .pointer (some ⟨g3, 0, none⟩)), (3, .pointer (some ⟨g8, 0, none⟩)), (4, .slice ao45 t44.length cap45), (6, .int .i64 s52), (8, .int .i64 (IntKind.i64.wrap (x58 + (1 : Int))))] (by kernel_rfl) fun a ha => ?_
      exact ⟨kk, Nat.lt_succ_self _, ⟨IntKind.i64.wrap (x58 + (1 : Int)), ((arL 16 ((arL 16 x59).set (Int.toNat (IntKind.i64.wrap ((2 : Int) * x58))) (IntKind.u8.wrap (IntKind.i64.wrap (Int.tdiv s69 (256 : Int)))))).set (Int.toNat (IntKind.i64.wrap ((IntKind.i64.wrap ((2 : Int) * x58)) + (1 : Int)))) (IntKind.u8.wrap s69)), H, (ha.sel (by kernel_rfl)), f45, hBg3, hBg8, hC, hM⟩⟩
     have H := H69
     refine wp_seq_k fun K77 hK77 => ?_
     refine wp_region_lit ?_
     refine seg ha 7 [(2, .pointer (some ⟨g3, 0, none⟩)), (3, .pointer (some ⟨g8, 0, none⟩)), (4, .slice ao45 t44.length cap45), (6, .int .i64 s52), (8, .int .i64 x58), (9, .int .i64 (0 : Int)), (62, .bool (if (decide (s52 < (0 : Int))) = true then true else (decide (x58 < s52))))] (by kernel_rfl) fun a ha => ?_
     refine hK77 _ _ ?_; try clear hK77 K77
     refine cnd ha rfl (fun hc78 => ?_) (fun hc78 => ?_)
     ·have H := ite_t hc78 H
      refine wp_seq_k fun K79 hK79 => ?_
      refine wp_region_lit ?_
      refine seg ha 4 [(2, .pointer (some ⟨g3, 0, none⟩)), (3, .pointer (some ⟨g8, 0, none⟩)), (4, .slice ao45 t44.length cap45), (6, .int .i64 s52), (8, .int .i64 x58), (9, .int .i64 (0 : Int)), (66, .bool (decide (x58 < (t44.length : Int))))] (by kernel_rfl) fun a ha => ?_
      refine hK79 _ _ ?_; try clear hK79 K79
      refine cnd ha rfl (fun hc80 => ?_) (fun hc80 => ?_)
      ·have H := ite_t hc80 H
       refine wp_region_lit ?_
       refine seg ha 2 [(2, .pointer (some ⟨g3, 0, none⟩)), (3, .pointer (some ⟨g8, 0, none⟩)), (4, .slice ao45 t44.length cap45), (6, .int .i64 s52), (8, .int .i64 x58), (67, .slice ao45 t44.length cap45), (68, .int .i64 x58)] (by kernel_rfl) fun a ha => ?_
       obtain ⟨⟨hx81, hx81'⟩, H⟩ := ite_some H
       refine ix (r := rStr) ha (by kernel_rfl) (by kernel_rfl) rfl rfl rfl rfl rfl (Own.toRSl (M' := []) f45 (Ok.nil _ _) (fun _ _ h => nomatch h)) hx81 hx81' fun a ge82 oe83 cs84 hn87 hR85 hE86 ha => ?_
       rw [rd_get] at hR85
       obtain rfl := hR85
       have hE86 : ∀ j v, ([.string (bstr (rd t44 x58))] : List Value)[j]? = some v → w57.cell? ⟨ge82, oe83 + j, none⟩ = some v := hE86
       refine ld ha rfl (by kernel_rfl) rfl rfl rfl (hE86 0 (.string (bstr (rd t44 x58))) (by kernel_rfl)) fun a ha => ?_
       obtain ⟨t88, H88, H⟩ := bind_some H
       refine cl ha (by rfl) (by kernel_rfl) (by rfl) (by rfl) (by rfl) (vineryref02_Digits.walk w57 _ hM (rd t44 x58) (16 : Int) (4 : Int) k _ H88) ?_
       rintro _ w88 ⟨rfl, hc88, hMn⟩ a ha
       have o1 : Ok [] (blkL ao45 ++ ([g8] ++ ([g3] ++ (M)))) w57.heap.size := Ok.nil _ _
       have o2 : Ok (blkL ao45 ++ ([g8] ++ ([g3] ++ (M)))) (blkL ao45 ++ ([g8] ++ ([g3] ++ (M)))) w57.heap.size := (Ok.refl _ _)
       have f45 := f45.chg hc88 o1 o2 (fun _ _ h => nomatch h) (fun _ h => ml h)
       have hBg3 := hBg3.chg hc88 (fun h => nomatch h)
       have hBg8 := hBg8.chg hc88 (fun h => nomatch h)
       have hM : MS (blkL ao45 ++ ([g8] ++ ([g3] ++ (M)))) w88 := (hM.chg hc88)
       have hC := hC.trans hc88 (Ok.nil _ _)
       refine opk (v := .int .i64 (if t88 > (0 : Int) then t88 else (0 : Int))) ha rfl rfl rfl rfl rfl (fun w => by kernel_rfl) fun a ha => ?_
       refine seg ha 1 [(2, .pointer (some ⟨g3, 0, none⟩)), (3, .pointer (some ⟨g8, 0, none⟩)), (4, .slice ao45 t44.length cap45), (6, .int .i64 s52), (8, .int .i64 x58), (9, .int .i64 (if t88 > (0 : Int) then t88 else (0 : Int)))] (by kernel_rfl) fun a ha => ?_
       obtain rfl := Option.some.inj H
       exact J69 _ _ (ha.sel (by kernel_rfl)) f45 hBg3 hBg8 hC hM
      ·have H := ite_f hc80 H
       refine wp_skip ?_
       obtain rfl := Option.some.inj H
       exact J69 _ _ (ha.sel (by kernel_rfl)) f45 hBg3 hBg8 hC hM
     ·have H := ite_f hc78 H
      refine wp_seq_k fun K89 hK89 => ?_
      refine wp_region_lit ?_
      refine seg ha 6 [(2, .pointer (some ⟨g3, 0, none⟩)), (3, .pointer (some ⟨g8, 0, none⟩)), (4, .slice ao45 t44.length cap45), (6, .int .i64 s52), (8, .int .i64 x58), (9, .int .i64 (0 : Int)), (10, .int .i64 (IntKind.i64.wrap ((IntKind.i64.wrap ((t44.length : Int) - (8 : Int))) + x58)))] (by kernel_rfl) fun a ha => ?_
      refine hK89 _ _ ?_; try clear hK89 K89
      refine wp_seq_k fun K90 hK90 => ?_
      refine wp_region_lit ?_
      refine seg ha 9 [(2, .pointer (some ⟨g3, 0, none⟩)), (3, .pointer (some ⟨g8, 0, none⟩)), (4, .slice ao45 t44.length cap45), (6, .int .i64 s52), (8, .int .i64 x58), (9, .int .i64 (0 : Int)), (10, .int .i64 (IntKind.i64.wrap ((IntKind.i64.wrap ((t44.length : Int) - (8 : Int))) + x58))), (86, .bool (if (decide ((IntKind.i64.wrap ((IntKind.i64.wrap ((t44.length : Int) - (8 : Int))) + x58)) > s52)) = true then (decide ((IntKind.i64.wrap ((IntKind.i64.wrap ((t44.length : Int) - (8 : Int))) + x58)) < (t44.length : Int))) else false))] (by kernel_rfl) fun a ha => ?_
      refine hK90 _ _ ?_; try clear hK90 K90
      refine cnd ha rfl (fun hc91 => ?_) (fun hc91 => ?_)
      ·have H := ite_t hc91 H
       refine wp_region_lit ?_
       refine seg ha 2 [(2, .pointer (some ⟨g3, 0, none⟩)), (3, .pointer (some ⟨g8, 0, none⟩)), (4, .slice ao45 t44.length cap45), (6, .int .i64 s52), (8, .int .i64 x58), (87, .slice ao45 t44.length cap45), (88, .int .i64 (IntKind.i64.wrap ((IntKind.i64.wrap ((t44.length : Int) - (8 : Int))) + x58)))] (by kernel_rfl) fun a ha => ?_
       obtain ⟨⟨hx92, hx92'⟩, H⟩ := ite_some H
       refine ix (r := rStr) ha (by kernel_rfl) (by kernel_rfl) rfl rfl rfl rfl rfl (Own.toRSl (M' := []) f45 (Ok.nil _ _) (fun _ _ h => nomatch h)) hx92 hx92' fun a ge93 oe94 cs95 hn98 hR96 hE97 ha => ?_
       rw [rd_get] at hR96
       obtain rfl := hR96
       have hE97 : ∀ j v, ([.string (bstr (rd t44 (IntKind.i64.wrap ((IntKind.i64.wrap ((t44.length : Int) - (8 : Int))) + x58))))] : List Value)[j]? = some v → w57.cell? ⟨ge93, oe94 + j, none⟩ = some v := hE97
       refine ld ha rfl (by kernel_rfl) rfl rfl rfl (hE97 0 (.string (bstr (rd t44 (IntKind.i64.wrap ((IntKind.i64.wrap ((t44.length : Int) - (8 : Int))) + x58))))) (by kernel_rfl)) fun a ha => ?_
       obtain ⟨t99, H99, H⟩ := bind_some H
       refine cl ha (by rfl) (by kernel_rfl) (by rfl) (by rfl) (by rfl) (vineryref02_Digits.walk w57 _ hM (rd t44 (IntKind.i64.wrap ((IntKind.i64.wrap ((t44.length : Int) - (8 : Int))) + x58))) (16 : Int) (4 : Int) k _ H99) ?_
       rintro _ w99 ⟨rfl, hc99, hMn⟩ a ha
       have o1 : Ok [] (blkL ao45 ++ ([g8] ++ ([g3] ++ (M)))) w57.heap.size := Ok.nil _ _
       have o2 : Ok (blkL ao45 ++ ([g8] ++ ([g3] ++ (M)))) (blkL ao45 ++ ([g8] ++ ([g3] ++ (M)))) w57.heap.size := (Ok.refl _ _)
       have f45 := f45.chg hc99 o1 o2 (fun _ _ h => nomatch h) (fun _ h => ml h)
       have hBg3 := hBg3.chg hc99 (fun h => nomatch h)
       have hBg8 := hBg8.chg hc99 (fun h => nomatch h)
       have hM : MS (blkL ao45 ++ ([g8] ++ ([g3] ++ (M)))) w99 := (hM.chg hc99)
       have hC := hC.trans hc99 (Ok.nil _ _)
       refine opk (v := .int .i64 (if t99 > (0 : Int) then t99 else (0 : Int))) ha rfl rfl rfl rfl rfl (fun w => by kernel_rfl) fun a ha => ?_
       refine seg ha 1 [(2, .pointer (some ⟨g3, 0, none⟩)), (3, .pointer (some ⟨g8, 0, none⟩)), (4, .slice ao45 t44.length cap45), (6, .int .i64 s52), (8, .int .i64 x58), (9, .int .i64 (if t99 > (0 : Int) then t99 else (0 : Int)))] (by kernel_rfl) fun a ha => ?_
       obtain rfl := Option.some.inj H
       exact J69 _ _ (ha.sel (by kernel_rfl)) f45 hBg3 hBg8 hC hM
      ·have H := ite_f hc91 H
       refine wp_skip ?_
       obtain rfl := Option.some.inj H
       exact J69 _ _ (ha.sel (by kernel_rfl)) f45 hBg3 hBg8 hC hM
    ·have H := ite_f hc65 H
     refine wp_exit ?_
     simp only [Exit.then, Exit.inBlock, ↓reduceIte, Nat.reduceEqDiff]
     obtain rfl := Option.some.inj H
     have hBg3 := hBg3.chg (Chg.refl [] _) (fun h => nomatch h)
     have hBg8 := hBg8.chg (Chg.refl [] _) (fun h => nomatch h)
     have hM : MS ([g8] ++ ([g3] ++ (M))) w57 := (fun x h => hM.chg (Chg.refl [] _) x (mr (h)))
     have hC := hC.trans (Chg.refl [] _) (Ok.nil _ _)
     exact J57 _ _ (ha.sel (by kernel_rfl)) hBg3 hBg8 hC hM
  have Hc52 := H
  have H := H52
  refine wp_loop_ghost (fun kk a w52 => ∃ (x53 : Int) (x54 : Int), vineryref02_rough.l1 t44 kk x53 x54 = some s52 ∧ Has a Tryz.f107.ntmps [(2, .pointer (some ⟨g3, 0, none⟩)), (3, .pointer (some ⟨g8, 0, none⟩)), (4, .slice ao45 t44.length cap45), (6, .int .i64 x53), (7, .int .i64 x54)] ∧ (Own rStr 9 w52 (blkL ao45 ++ ([g8] ++ ([g3] ++ (M)))) ao45 cap45 t44) ∧ (Box w52 g3 (cS_api_Addr (⟨(0 : Int), (List.replicate 16 (0 : Int))⟩ : S_api_Addr))) ∧ (Box w52 g8 (cS_api_Addr (⟨(16 : Int), (List.replicate 16 (0 : Int))⟩ : S_api_Addr))) ∧ (Chg [] w w52) ∧ (MS (blkL ao45 ++ ([g8] ++ ([g3] ++ (M)))) w52)) k ?_ ?_
  ·skip
   have o1 : Ok [] (blkL ao45 ++ (blkL ao13 ++ ([g8] ++ ([g3] ++ (M))))) w47.heap.size := Ok.nil _ _
   have o2 : Ok (blkL ao45 ++ ([g8] ++ ([g3] ++ (M)))) (blkL ao45 ++ (blkL ao13 ++ ([g8] ++ ([g3] ++ (M))))) w47.heap.size := (Ok.app (fun _ h => .inl (ml h)) (fun _ h => .inl (mr (mr (h)))))
   have f45 := f45.chg (Chg.refl [] _) o1 o2 (fun _ _ h => nomatch h) (fun _ h => ml h)
   have hBg3 := hBg3.chg (Chg.refl [] _) (fun h => nomatch h)
   have hBg8 := hBg8.chg (Chg.refl [] _) (fun h => nomatch h)
   have hM : MS (blkL ao45 ++ ([g8] ++ ([g3] ++ (M)))) w47 := (MS.app (fun x h => hM.chg (Chg.refl [] _) x (ml h)) (fun x h => hM.chg (Chg.refl [] _) x (mr (mr (h)))))
   have hC := hC.trans (Chg.refl [] _) (Ok.nil _ _)
   exact ⟨(-1 : Int), (1 : Int), H, (ha.sel (by kernel_rfl)), f45, hBg3, hBg8, hC, hM⟩
  ·rintro kk a w52 ⟨x53, x54, H, ha, f45, hBg3, hBg8, hC, hM⟩
   obtain _ | kk := kk
   ·exact nomatch (show none = some _ from H)
   rw [vineryref02_rough.l1] at H
   refine wp_seq_k fun K100 hK100 => ?_
   refine wp_seq_k fun K101 hK101 => ?_
   refine wp_region_lit ?_
   refine seg ha 9 [(2, .pointer (some ⟨g3, 0, none⟩)), (3, .pointer (some ⟨g8, 0, none⟩)), (4, .slice ao45 t44.length cap45), (6, .int .i64 x53), (7, .int .i64 x54), (43, .bool (if (decide (x54 < (IntKind.i64.wrap ((t44.length : Int) - (1 : Int))))) = true then (decide (x53 < (0 : Int))) else false))] (by kernel_rfl) fun a ha => ?_
   refine hK101 _ _ ?_; try clear hK101 K101
   refine cnd ha rfl (fun hc102 => ?_) (fun hc102 => ?_)
   ·have H := ite_t hc102 H
    refine wp_skip ?_
    refine hK100 _ _ ?_; try clear hK100 K100
    refine wp_seq_k fun K103 hK103 => ?_
    refine wp_block ?_
    refine wp_seq_k fun K104 hK104 => ?_
    refine wp_region_lit ?_
    refine seg ha 2 [(2, .pointer (some ⟨g3, 0, none⟩)), (3, .pointer (some ⟨g8, 0, none⟩)), (4, .slice ao45 t44.length cap45), (6, .int .i64 x53), (7, .int .i64 x54), (46, .slice ao45 t44.length cap45), (47, .int .i64 x54)] (by kernel_rfl) fun a ha => ?_
    obtain ⟨⟨hx105, hx105'⟩, H⟩ := ite_some H
    refine ix (r := rStr) ha (by kernel_rfl) (by kernel_rfl) rfl rfl rfl rfl rfl (Own.toRSl (M' := []) f45 (Ok.nil _ _) (fun _ _ h => nomatch h)) hx105 hx105' fun a ge106 oe107 cs108 hn111 hR109 hE110 ha => ?_
    rw [rd_get] at hR109
    obtain rfl := hR109
    have hE110 : ∀ j v, ([.string (bstr (rd t44 x54))] : List Value)[j]? = some v → w52.cell? ⟨ge106, oe107 + j, none⟩ = some v := hE110
    refine ld ha rfl (by kernel_rfl) rfl rfl rfl (hE110 0 (.string (bstr (rd t44 x54))) (by kernel_rfl)) fun a ha => ?_
    refine seg ha 1 [(2, .pointer (some ⟨g3, 0, none⟩)), (3, .pointer (some ⟨g8, 0, none⟩)), (4, .slice ao45 t44.length cap45), (6, .int .i64 x53), (7, .int .i64 x54), (50, .bool ((bstr (rd t44 x54)).toList == (bstr ([] : List UInt8)).toList))] (by kernel_rfl) fun a ha => ?_
    refine hK104 _ _ ?_; try clear hK104 K104
    refine cnd ha rfl (fun hc112 => ?_) (fun hc112 => ?_)
    ·have H := ite_t hc112 H
     refine wp_region_lit ?_
     refine seg ha 2 [(2, .pointer (some ⟨g3, 0, none⟩)), (3, .pointer (some ⟨g8, 0, none⟩)), (4, .slice ao45 t44.length cap45), (6, .int .i64 x54), (7, .int .i64 x54)] (by kernel_rfl) fun a ha => ?_
     refine hK103 _ _ ?_; try clear hK103 K103
     refine wp_region_lit ?_
     refine seg ha 3 [(2, .pointer (some ⟨g3, 0, none⟩)), (3, .pointer (some ⟨g8, 0, none⟩)), (4, .slice ao45 t44.length cap45), (6, .int .i64 x54), (7, .int .i64 (IntKind.i64.wrap (x54 + (1 : Int))))] (by kernel_rfl) fun a ha => ?_
     exact ⟨kk, Nat.lt_succ_self _, ⟨x54, IntKind.i64.wrap (x54 + (1 : Int)), H, (ha.sel (by kernel_rfl)), f45, hBg3, hBg8, hC, hM⟩⟩
    ·have H := ite_f hc112 H
     refine wp_skip ?_
     refine hK103 _ _ ?_; try clear hK103 K103
     refine wp_region_lit ?_
     refine seg ha 3 [(2, .pointer (some ⟨g3, 0, none⟩)), (3, .pointer (some ⟨g8, 0, none⟩)), (4, .slice ao45 t44.length cap45), (6, .int .i64 x53), (7, .int .i64 (IntKind.i64.wrap (x54 + (1 : Int))))] (by kernel_rfl) fun a ha => ?_
     exact ⟨kk, Nat.lt_succ_self _, ⟨x53, IntKind.i64.wrap (x54 + (1 : Int)), H, (ha.sel (by kernel_rfl)), f45, hBg3, hBg8, hC, hM⟩⟩
   ·have H := ite_f hc102 H
    refine wp_exit ?_
    simp only [Exit.then, Exit.inBlock, ↓reduceIte, Nat.reduceEqDiff]
    obtain rfl := Option.some.inj H
    exact J52 _ _ (ha.sel (by kernel_rfl)) f45 hBg3 hBg8 hC hM
def vineryref02_Right.l0 (a0 : S_api_Addr) : Nat → Int → Option ((Bool) ⊕ (Unit))
  | 0, _ => none
  | kk + 1, x15 => (if (decide (x15 < (16 : Int))) = true then (if 0 ≤ x15 ∧ x15 < (16 : Int) then (if ((ar a0.B (Int.toNat x15)) != (0 : Int)) = true then some (.inl ((false : Bool))) else vineryref02_Right.l0 a0 kk (IntKind.i64.wrap (x15 + (1 : Int)))) else none) else some (.inr (() : Unit)))
def vineryref02_Right.f (k : Nat) (a0 : S_api_Addr) : Option (Bool) := ((if (a0.Size != (0 : Int)) = true then (if (a0.Size != (4 : Int)) = true then some (a0.Size != (16 : Int) : Bool) else some (false : Bool)) else some (false : Bool))).bind fun s9 => (if s9 = true then some ((false : Bool)) else (vineryref02_Right.l0 a0 k a0.Size).bind fun s14 => match s14 with | .inl r => some r | .inr s14' => some ((true : Bool)))
set_option maxRecDepth 100000 in
theorem vineryref02_Right.walk (w : World) (M : List Nat) (hM : MS M w) (a0 : S_api_Addr) (k : Nat) (r : Bool) (H : vineryref02_Right.f k a0 = some r) :
    To Tryz.prog 108 [.agg (cS_api_Addr a0).toArray] w fun v w' => v = .bool r ∧ Chg [] w w' ∧ MS (M) w' := by
 unfold vineryref02_Right.f at H
 refine ent Tryz.func108 rfl [(0, .agg (cS_api_Addr a0).toArray)] rfl (by rfl) fun a ha => ?_
 have hC : Chg [] w w := Chg.refl _ _
 refine wp_seq_k fun K1 hK1 => ?_
 refine wp_region_lit ?_
 refine bx (cs := (cS_api_Addr a0)) ha rfl rfl rfl rfl rfl fun a w2 g3 hN4 ha => ?_
 have hn6 := hN4.notin hM
 have hM : MS (M) w2 := (hM.chg hN4.chg)
 have hC := hC.trans hN4.chg (Ok.nil _ _)
 have hE5 : ∀ j v, (cS_api_Addr a0)[j]? = some v → w2.cell? ⟨g3, 0 + j, none⟩ = some v := Box.cells (New.box hN4)
 refine seg ha 1 [(1, .pointer (some ⟨g3, 0, none⟩))] (by kernel_rfl) fun a ha => ?_
 refine hK1 _ _ ?_; try clear hK1 K1
 refine wp_seq_k fun K7 hK7 => ?_
 refine wp_seq_k fun K8 hK8 => ?_
 refine wp_region_lit ?_
 obtain ⟨s9, H9, H⟩ := bind_some H
 have J9 : ∀ (a : Act) (w9 : World), Has a Tryz.f108.ntmps [(1, .pointer (some ⟨g3, 0, none⟩)), (16, .bool s9)] → (∀ j v, (cS_api_Addr a0)[j]? = some v → w9.cell? ⟨g3, 0 + j, none⟩ = some v) → (g3 ∉ (M)) → (Chg [] w w9) → (MS (M) w9) → K8 a w9 := by
  intro a w9 ha hE5 hn6 hC hM
  refine hK8 _ _ ?_; try clear hK8 K8
  refine cnd ha rfl (fun hc10 => ?_) (fun hc10 => ?_)
  ·have H := ite_t hc10 H
   refine wp_seq_k fun K11 hK11 => ?_
   refine wp_region_lit ?_
   refine seg ha 1 [(2, .bool false)] (by kernel_rfl) fun a ha => ?_
   refine hK11 _ _ ?_; try clear hK11 K11
   refine wp_ret ?_
   try simp only [Exit.then, Exit.inBlock]
   obtain rfl := Option.some.inj H
   refine rt1 ha rfl rfl ?_
   exact ⟨rfl, hC, hM⟩
  ·have H := ite_f hc10 H
   refine wp_skip ?_
   refine hK7 _ _ ?_; try clear hK7 K7
   refine wp_seq_k fun K12 hK12 => ?_
   refine wp_seq_k fun K13 hK13 => ?_
   refine wp_region_lit ?_
   refine seg ha 1 [(1, .pointer (some ⟨g3, 0, none⟩)), (17, .pointer (some ⟨g3, 0, none⟩))] (by kernel_rfl) fun a ha => ?_
   refine ld ha rfl (by kernel_rfl) rfl rfl rfl (hE5 0 (.int .i64 a0.Size) (by kernel_rfl)) fun a ha => ?_
   refine seg ha 1 [(1, .pointer (some ⟨g3, 0, none⟩)), (3, .int .i64 a0.Size)] (by kernel_rfl) fun a ha => ?_
   refine hK13 _ _ ?_; try clear hK13 K13
   refine wp_block ?_
   obtain ⟨s14, H14, H⟩ := bind_some H
   have J14 : ∀ s14' (a : Act) (wx14 : World), s14 = .inr s14' → Has a Tryz.f108.ntmps [] → (Chg [] w wx14) → (MS (M) wx14) → K12 a wx14 := by
    intro s14' a wx14 hs ha hC hM
    subst hs
    refine hK12 _ _ ?_; try clear hK12 K12
    refine wp_seq_k fun K16 hK16 => ?_
    refine wp_region_lit ?_
    refine seg ha 1 [(2, .bool true)] (by kernel_rfl) fun a ha => ?_
    refine hK16 _ _ ?_; try clear hK16 K16
    refine wp_ret ?_
    try simp only [Exit.then, Exit.inBlock]
    obtain rfl := Option.some.inj H
    refine rt1 ha rfl rfl ?_
    exact ⟨rfl, hC, hM⟩
   have Hc14 := H
   have H := H14
   refine wp_loop_ghost (fun kk a w14 => ∃ (x15 : Int), vineryref02_Right.l0 a0 kk x15 = some s14 ∧ Has a Tryz.f108.ntmps [(1, .pointer (some ⟨g3, 0, none⟩)), (3, .int .i64 x15)] ∧ (∀ j v, (cS_api_Addr a0)[j]? = some v → w14.cell? ⟨g3, 0 + j, none⟩ = some v) ∧ (g3 ∉ (M)) ∧ (Chg [] w w14) ∧ (MS (M) w14)) k ?_ ?_
   ·skip
    exact ⟨a0.Size, H, (ha.sel (by kernel_rfl)), hE5, hn6, hC, hM⟩
   ·rintro kk a w14 ⟨x15, H, ha, hE5, hn6, hC, hM⟩
    obtain _ | kk := kk
    ·exact nomatch (show none = some _ from H)
    rw [vineryref02_Right.l0] at H
    refine wp_seq_k fun K17 hK17 => ?_
    refine wp_seq_k fun K18 hK18 => ?_
    refine wp_region_lit ?_
    refine seg ha 2 [(1, .pointer (some ⟨g3, 0, none⟩)), (3, .int .i64 x15), (20, .bool (decide (x15 < (16 : Int))))] (by kernel_rfl) fun a ha => ?_
    refine hK18 _ _ ?_; try clear hK18 K18
    refine cnd ha rfl (fun hc19 => ?_) (fun hc19 => ?_)
    ·have H := ite_t hc19 H
     refine wp_skip ?_
     refine hK17 _ _ ?_; try clear hK17 K17
     refine wp_seq_k fun K20 hK20 => ?_
     refine wp_block ?_
     refine wp_seq_k fun K21 hK21 => ?_
     refine wp_region_lit ?_
     refine seg ha 2 [(1, .pointer (some ⟨g3, 0, none⟩)), (3, .int .i64 x15), (23, .int .i64 x15), (24, .pointer (some ⟨g3, 0 + 1, none⟩))] (by kernel_rfl) fun a ha => ?_
     obtain ⟨⟨hx22, hx22'⟩, H⟩ := ite_some H
     have hE22 : ∀ j v, ([.int .u8 (ar a0.B (Int.toNat x15))] : List Value)[j]? = some v → w14.cell? ⟨g3, (0 + 1 + (Int.toNat x15)) + j, none⟩ = some v := cellA (m := 16) [.int .i64 a0.Size] [] hE5 (by kernel_rfl) (by omega)
     have hn22 := hn6
     refine hop (v := .pointer (some ⟨g3, (0 + 1 + (Int.toNat x15)), none⟩)) (w' := w14) ha rfl rfl rfl (ixA_run (T := 5) (N := 16) (g := g3) (o' := 0 + 1) (k := .i64) (i := x15) ha (by kernel_rfl) (by kernel_rfl) (by rfl) (by rfl) hx22 hx22' _) fun a ha => ?_
     refine ld ha rfl (by kernel_rfl) rfl rfl rfl (hE22 0 (.int .u8 (ar a0.B (Int.toNat x15))) (by kernel_rfl)) fun a ha => ?_
     refine seg ha 1 [(1, .pointer (some ⟨g3, 0, none⟩)), (3, .int .i64 x15), (27, .bool ((ar a0.B (Int.toNat x15)) != (0 : Int)))] (by kernel_rfl) fun a ha => ?_
     refine hK21 _ _ ?_; try clear hK21 K21
     refine cnd ha rfl (fun hc23 => ?_) (fun hc23 => ?_)
     ·have H := ite_t hc23 H
      refine wp_seq_k fun K24 hK24 => ?_
      refine wp_region_lit ?_
      refine seg ha 1 [(2, .bool false)] (by kernel_rfl) fun a ha => ?_
      refine hK24 _ _ ?_; try clear hK24 K24
      refine wp_ret ?_
      try simp only [Exit.then, Exit.inBlock]
      obtain rfl := Option.some.inj H
      have H := (show some _ = some _ from Hc14)
      obtain rfl := Option.some.inj H
      refine rt1 ha rfl rfl ?_
      exact ⟨rfl, hC, hM⟩
     ·have H := ite_f hc23 H
      refine wp_skip ?_
      refine hK20 _ _ ?_; try clear hK20 K20
      refine wp_region_lit ?_
      refine seg ha 3 [(1, .pointer (some ⟨g3, 0, none⟩)), (3, .int .i64 (IntKind.i64.wrap (x15 + (1 : Int))))] (by kernel_rfl) fun a ha => ?_
      exact ⟨kk, Nat.lt_succ_self _, ⟨IntKind.i64.wrap (x15 + (1 : Int)), H, (ha.sel (by kernel_rfl)), hE5, hn6, hC, hM⟩⟩
    ·have H := ite_f hc19 H
     refine wp_exit ?_
     simp only [Exit.then, Exit.inBlock, ↓reduceIte, Nat.reduceEqDiff]
     obtain rfl := Option.some.inj H
     exact J14 _ _ _ rfl (ha.sel (by kernel_rfl)) hC hM
 have H := H9
 refine seg ha 1 [(1, .pointer (some ⟨g3, 0, none⟩)), (4, .pointer (some ⟨g3, 0, none⟩))] (by kernel_rfl) fun a ha => ?_
 refine ld ha rfl (by kernel_rfl) rfl rfl rfl (hE5 0 (.int .i64 a0.Size) (by kernel_rfl)) fun a ha => ?_
 refine seg ha 2 [(7, .bool (a0.Size != (0 : Int))), (1, .pointer (some ⟨g3, 0, none⟩))] (by kernel_rfl) fun a ha => ?_
 rcases Bool.eq_false_or_eq_true (a0.Size != (0 : Int)) with hb25 | hb25
 ·have ha := ha.lit hb25
  have H := ite_t hb25 H
  refine sgh ha 1 [2] [(1, .pointer (some ⟨g3, 0, none⟩)), (7, .bool true), (8, .pointer (some ⟨g3, 0, none⟩))] (by kernel_rfl) fun a ha => ?_
  refine ld ha rfl (by kernel_rfl) rfl rfl rfl (hE5 0 (.int .i64 a0.Size) (by kernel_rfl)) fun a ha => ?_
  refine sgh ha 3 [2, 3, 0] [(12, .bool (a0.Size != (4 : Int))), (1, .pointer (some ⟨g3, 0, none⟩))] (by kernel_rfl) fun a ha => ?_
  rcases Bool.eq_false_or_eq_true (a0.Size != (4 : Int)) with hb26 | hb26
  ·have ha := ha.lit hb26
   have H := ite_t hb26 H
   refine sgh ha 1 [2] [(1, .pointer (some ⟨g3, 0, none⟩)), (12, .bool true), (13, .pointer (some ⟨g3, 0, none⟩))] (by kernel_rfl) fun a ha => ?_
   refine ld ha rfl (by kernel_rfl) rfl rfl rfl (hE5 0 (.int .i64 a0.Size) (by kernel_rfl)) fun a ha => ?_
   refine sgh ha 2 [2, 3] [(1, .pointer (some ⟨g3, 0, none⟩)), (16, .bool (a0.Size != (16 : Int)))] (by kernel_rfl) fun a ha => ?_
   obtain rfl := Option.some.inj H
   exact J9 _ _ (ha.sel (by kernel_rfl)) hE5 hn6 hC hM
  ·have ha := ha.lit hb26
   have H := ite_f hb26 H
   refine sgh ha 4 [1, 1, 1, 4] [(1, .pointer (some ⟨g3, 0, none⟩)), (16, .bool false)] (by kernel_rfl) fun a ha => ?_
   obtain rfl := Option.some.inj H
   exact J9 _ _ (ha.sel (by kernel_rfl)) hE5 hn6 hC hM
 ·have ha := ha.lit hb25
  have H := ite_f hb25 H
  refine sgh ha 9 [1, 1, 1, 4, 0, 1, 1, 1, 4] [(1, .pointer (some ⟨g3, 0, none⟩)), (16, .bool false)] (by kernel_rfl) fun a ha => ?_
  obtain rfl := Option.some.inj H
  exact J9 _ _ (ha.sel (by kernel_rfl)) hE5 hn6 hC hM
def vineryref02_Number.f : Nat → Int → Int → Option (List UInt8)
  | 0, _, _ => none
  | k + 1, a0, a1 => (if (decide (a0 < a1)) = true then (if 0 ≤ a0 ∧ a0 ≤ (IntKind.i64.wrap (a0 + (1 : Int))) ∧ (IntKind.i64.wrap (a0 + (1 : Int))) ≤ (([48, 49, 50, 51, 52, 53, 54, 55, 56, 57, 97, 98, 99, 100, 101, 102] : List UInt8).length : Int) then some ((((([48, 49, 50, 51, 52, 53, 54, 55, 56, 57, 97, 98, 99, 100, 101, 102] : List UInt8).take (Int.toNat (IntKind.i64.wrap (a0 + (1 : Int))))).drop (Int.toNat a0)) : List UInt8)) else none) else (if a1 ≠ 0 then (vineryref02_Number.f k (IntKind.i64.wrap (Int.tdiv a0 a1)) a1).bind fun t10 => (if a1 ≠ 0 then (if a1 ≠ 0 then (if 0 ≤ (Int.tmod a0 a1) ∧ (Int.tmod a0 a1) ≤ (IntKind.i64.wrap ((Int.tmod a0 a1) + (1 : Int))) ∧ (IntKind.i64.wrap ((Int.tmod a0 a1) + (1 : Int))) ≤ (([48, 49, 50, 51, 52, 53, 54, 55, 56, 57, 97, 98, 99, 100, 101, 102] : List UInt8).length : Int) then (if (t10 ++ ((([48, 49, 50, 51, 52, 53, 54, 55, 56, 57, 97, 98, 99, 100, 101, 102] : List UInt8).take (Int.toNat (IntKind.i64.wrap ((Int.tmod a0 a1) + (1 : Int))))).drop (Int.toNat (Int.tmod a0 a1)))).length ≤ 9223372036854775807 then some ((t10 ++ ((([48, 49, 50, 51, 52, 53, 54, 55, 56, 57, 97, 98, 99, 100, 101, 102] : List UInt8).take (Int.toNat (IntKind.i64.wrap ((Int.tmod a0 a1) + (1 : Int))))).drop (Int.toNat (Int.tmod a0 a1))) : List UInt8)) else none) else none) else none) else none) else none))
set_option maxRecDepth 100000 in
theorem vineryref02_Number.walkr : ∀ (k : Nat) (w : World) (M : List Nat) (hM : MS M w) (a0 : Int) (a1 : Int) (r : List UInt8) (H : vineryref02_Number.f k a0 a1 = some r),
    To Tryz.prog 46 [.int .i64 a0, .int .i64 a1] w fun v w' => v = .string (bstr r) ∧ Chg [] w w' ∧ MS (M) w'
  | 0, w, M, hM, a0, a1, r, H => nomatch (show none = some _ from H)
  | k + 1, w, M, hM, a0, a1, r, H => by
     rw [vineryref02_Number.f] at H
     refine ent Tryz.func46 rfl [(0, .int .i64 a0), (1, .int .i64 a1)] rfl (by rfl) fun a ha => ?_
     have hC : Chg [] w w := Chg.refl _ _
     refine wp_seq_k fun K1 hK1 => ?_
     refine wp_region_lit ?_
     refine seg ha 1 [(0, .int .i64 a0), (1, .int .i64 a1)] (by kernel_rfl) fun a ha => ?_
     refine hK1 _ _ ?_; try clear hK1 K1
     refine wp_seq_k fun K2 hK2 => ?_
     refine wp_region_lit ?_
     refine seg ha 1 [(0, .int .i64 a0), (1, .int .i64 a1), (5, .string (bstr ([48, 49, 50, 51, 52, 53, 54, 55, 56, 57, 97, 98, 99, 100, 101, 102] : List UInt8)))] (by kernel_rfl) fun a ha => ?_
     refine hK2 _ _ ?_; try clear hK2 K2
     refine wp_seq_k fun K3 hK3 => ?_
     refine wp_seq_k fun K4 hK4 => ?_
     refine wp_region_lit ?_
     refine seg ha 3 [(0, .int .i64 a0), (1, .int .i64 a1), (5, .string (bstr ([48, 49, 50, 51, 52, 53, 54, 55, 56, 57, 97, 98, 99, 100, 101, 102] : List UInt8))), (8, .bool (decide (a0 < a1)))] (by kernel_rfl) fun a ha => ?_
     refine hK4 _ _ ?_; try clear hK4 K4
     refine cnd ha rfl (fun hc5 => ?_) (fun hc5 => ?_)
     ·have H := ite_t hc5 H
      refine wp_seq_k fun K6 hK6 => ?_
      refine wp_region_lit ?_
      refine seg ha 4 [(9, .string (bstr ([48, 49, 50, 51, 52, 53, 54, 55, 56, 57, 97, 98, 99, 100, 101, 102] : List UInt8))), (10, .int .i64 a0), (12, .int .i64 (IntKind.i64.wrap (a0 + (1 : Int))))] (by kernel_rfl) fun a ha => ?_
      obtain ⟨⟨hx7, hx7', hx7''⟩, H⟩ := ite_some H
      refine hop (v := .string (bstr ((([48, 49, 50, 51, 52, 53, 54, 55, 56, 57, 97, 98, 99, 100, 101, 102] : List UInt8).take (Int.toNat (IntKind.i64.wrap (a0 + (1 : Int))))).drop (Int.toNat a0)))) (w' := w) ha rfl rfl rfl (ssl_run (s := ([48, 49, 50, 51, 52, 53, 54, 55, 56, 57, 97, 98, 99, 100, 101, 102] : List UInt8)) (l := a0) (h := (IntKind.i64.wrap (a0 + (1 : Int)))) ha (by kernel_rfl) (by rfl) (by rfl) (by rfl) hx7 hx7' hx7'' _) fun a ha => ?_
      refine seg ha 1 [(4, .string (bstr ((([48, 49, 50, 51, 52, 53, 54, 55, 56, 57, 97, 98, 99, 100, 101, 102] : List UInt8).take (Int.toNat (IntKind.i64.wrap (a0 + (1 : Int))))).drop (Int.toNat a0))))] (by kernel_rfl) fun a ha => ?_
      refine hK6 _ _ ?_; try clear hK6 K6
      refine wp_ret ?_
      try simp only [Exit.then, Exit.inBlock]
      obtain rfl := Option.some.inj H
      refine rt1 ha rfl rfl ?_
      exact ⟨rfl, hC, hM⟩
     ·have H := ite_f hc5 H
      refine wp_skip ?_
      refine hK3 _ _ ?_; try clear hK3 K3
      refine wp_seq_k fun K8 hK8 => ?_
      refine drq0 (fun w' => Chg [] w w') (by kernel_rfl) (by kernel_rfl) (fun _ h => h) ?_
      refine qp 0 (.int .i64 a0) ha rfl rfl rfl (by kernel_rfl) fun a ha => ?_
      refine qp 0 (.int .i64 a1) ha rfl rfl rfl (by kernel_rfl) fun a ha => ?_
      obtain ⟨hx9, H⟩ := ite_some H
      refine qv (v := .int .i64 (IntKind.i64.wrap (Int.tdiv a0 a1))) ha rfl rfl rfl (fun w' hs => quo_run ha (by rfl) (by rfl) hx9 w') fun a ha => ?_
      refine qp 0 (.int .i64 a1) ha rfl rfl rfl (by kernel_rfl) fun a ha => ?_
      obtain ⟨t10, H10, H⟩ := bind_some H
      refine qc (.string (bstr t10)) ha (by rfl) (by kernel_rfl) (by rfl) (by rfl) (by rfl) (fun w' hs => (vineryref02_Number.walkr k w' [] (MS.nil _) (IntKind.i64.wrap (Int.tdiv a0 a1)) a1 _ H10).mono fun v w'' ⟨hv, hc, _⟩ => ⟨hv, hs.trans hc (Ok.nil _ _)⟩) fun a ha => ?_
      refine qp 0 (.string (bstr ([48, 49, 50, 51, 52, 53, 54, 55, 56, 57, 97, 98, 99, 100, 101, 102] : List UInt8))) ha rfl rfl rfl (by kernel_rfl) fun a ha => ?_
      refine qp 0 (.int .i64 a0) ha rfl rfl rfl (by kernel_rfl) fun a ha => ?_
      refine qp 0 (.int .i64 a1) ha rfl rfl rfl (by kernel_rfl) fun a ha => ?_
      obtain ⟨hx11, H⟩ := ite_some H
      refine qv (v := .int .i64 (Int.tmod a0 a1)) ha rfl rfl rfl (fun w' hs => rem_run ha (by rfl) (by rfl) hx11 w') fun a ha => ?_
      refine qp 0 (.int .i64 a0) ha rfl rfl rfl (by kernel_rfl) fun a ha => ?_
      refine qp 0 (.int .i64 a1) ha rfl rfl rfl (by kernel_rfl) fun a ha => ?_
      obtain ⟨hx12, H⟩ := ite_some H
      refine qv (v := .int .i64 (Int.tmod a0 a1)) ha rfl rfl rfl (fun w' hs => rem_run ha (by rfl) (by rfl) hx12 w') fun a ha => ?_
      refine qp 0 (.int .i64 (IntKind.i64.wrap ((Int.tmod a0 a1) + (1 : Int)))) ha rfl rfl rfl (by kernel_rfl) fun a ha => ?_
      obtain ⟨⟨hx13, hx13', hx13''⟩, H⟩ := ite_some H
      refine qv (v := .string (bstr ((([48, 49, 50, 51, 52, 53, 54, 55, 56, 57, 97, 98, 99, 100, 101, 102] : List UInt8).take (Int.toNat (IntKind.i64.wrap ((Int.tmod a0 a1) + (1 : Int))))).drop (Int.toNat (Int.tmod a0 a1))))) ha rfl rfl rfl (fun w' hs => ssl_run (s := ([48, 49, 50, 51, 52, 53, 54, 55, 56, 57, 97, 98, 99, 100, 101, 102] : List UInt8)) (l := (Int.tmod a0 a1)) (h := (IntKind.i64.wrap ((Int.tmod a0 a1) + (1 : Int)))) ha (by kernel_rfl) (by rfl) (by rfl) (by rfl) hx13 hx13' hx13'' w') fun a ha => ?_
      obtain ⟨hx14, H⟩ := ite_some H
      refine qv (v := .string (bstr (t10 ++ ((([48, 49, 50, 51, 52, 53, 54, 55, 56, 57, 97, 98, 99, 100, 101, 102] : List UInt8).take (Int.toNat (IntKind.i64.wrap ((Int.tmod a0 a1) + (1 : Int))))).drop (Int.toNat (Int.tmod a0 a1)))))) ha rfl rfl rfl (fun w' hs => sadd_run ha rfl rfl hx14 w') fun a ha => ?_
      refine qp 0 (.string (bstr (t10 ++ ((([48, 49, 50, 51, 52, 53, 54, 55, 56, 57, 97, 98, 99, 100, 101, 102] : List UInt8).take (Int.toNat (IntKind.i64.wrap ((Int.tmod a0 a1) + (1 : Int))))).drop (Int.toNat (Int.tmod a0 a1)))))) ha rfl rfl rfl (by kernel_rfl) fun a ha => ?_
      refine wpQuiet_nil ?_
      intro w15 hc16
      have hM : MS (M) w15 := (hM.chg hc16)
      have hC := hC.trans hc16 (Ok.nil _ _)
      refine wpl_end ?_
      refine hK8 _ _ ?_; try clear hK8 K8
      refine wp_ret ?_
      try simp only [Exit.then, Exit.inBlock]
      obtain rfl := Option.some.inj H
      refine rt1 ha rfl rfl ?_
      exact ⟨rfl, hC, hM⟩
theorem vineryref02_Number.walk (w : World) (M : List Nat) (hM : MS M w) (a0 : Int) (a1 : Int) (k : Nat) (r : List UInt8) (H : vineryref02_Number.f k a0 a1 = some r) :
    To Tryz.prog 46 [.int .i64 a0, .int .i64 a1] w fun v w' => v = .string (bstr r) ∧ Chg [] w w' ∧ MS (M) w' := vineryref02_Number.walkr k w M hM a0 a1 r H
def vineryref02_six.l2 (k : Nat) (s10 : (List Int)) (s19 : Int × Int) : Nat → (List UInt8) → Int → Option (List UInt8)
  | 0, _, _ => none
  | kk + 1, x27, x28 => (if (decide (x28 < (8 : Int))) = true then (if (if (decide (s19.2 > (1 : Int))) = true then (x28 == s19.1) else false) = true then (if (x27 ++ ([58, 58] : List UInt8)).length ≤ 9223372036854775807 then vineryref02_six.l2 k s10 s19 kk (x27 ++ ([58, 58] : List UInt8)) (IntKind.i64.wrap ((IntKind.i64.wrap ((IntKind.i64.wrap (x28 + s19.2)) - (1 : Int))) + (1 : Int))) else none) else (((if (!((bstr x27).toList == (bstr ([] : List UInt8)).toList)) = true then (if 0 ≤ (IntKind.i64.wrap (((bstr x27).size : Int) - (1 : Int))) ∧ (IntKind.i64.wrap (((bstr x27).size : Int) - (1 : Int))) < (x27.length : Int) then some (((x27.getD (Int.toNat (IntKind.i64.wrap (((bstr x27).size : Int) - (1 : Int)))) 0).toNat : Int) != (58 : Int) : Bool) else none) else some (false : Bool))).bind fun s52 => (if s52 = true then (if (x27 ++ ([58] : List UInt8)).length ≤ 9223372036854775807 then some (x27 ++ ([58] : List UInt8) : List UInt8) else none) else some (x27 : List UInt8))).bind fun s41 => (if 0 ≤ x28 ∧ x28 < (s10.length : Int) then (vineryref02_Number.f k (rd s10 x28) (16 : Int)).bind fun t49 => (if (s41 ++ t49).length ≤ 9223372036854775807 then vineryref02_six.l2 k s10 s19 kk (s41 ++ t49) (IntKind.i64.wrap (x28 + (1 : Int))) else none) else none)) else some (x27 : List UInt8))
def vineryref02_six.l3 (s10 : (List Int)) : Nat → Int → Option (Int)
  | 0, _ => none
  | kk + 1, x64 => ((if (decide (x64 < (8 : Int))) = true then (if 0 ≤ x64 ∧ x64 < (s10.length : Int) then some ((rd s10 x64) == (0 : Int) : Bool) else none) else some (false : Bool))).bind fun s70 => (if s70 = true then vineryref02_six.l3 s10 kk (IntKind.i64.wrap (x64 + (1 : Int))) else some (x64 : Int))
def vineryref02_six.l1 (k : Nat) (s10 : (List Int)) : Nat → Int → Int → Int → Option (Int × Int)
  | 0, _, _, _ => none
  | kk + 1, x20, x21, x22 => (if (decide (x22 < (8 : Int))) = true then (vineryref02_six.l3 s10 k x22).bind fun s63 => (if (decide ((IntKind.i64.wrap (s63 - x22)) > x21)) = true then vineryref02_six.l1 k s10 kk x22 (IntKind.i64.wrap (s63 - x22)) (IntKind.i64.wrap (x22 + (1 : Int))) else vineryref02_six.l1 k s10 kk x20 x21 (IntKind.i64.wrap (x22 + (1 : Int)))) else some ((x20 : Int), (x21 : Int)))
def vineryref02_six.l0 (a0 : S_api_Addr) : Nat → (List Int) → Int → Option (List Int)
  | 0, _, _ => none
  | kk + 1, x12, x13 => (if (decide (x13 < (16 : Int))) = true then (if 0 ≤ x13 ∧ x13 < (16 : Int) then (if 0 ≤ (IntKind.i64.wrap (x13 + (1 : Int))) ∧ (IntKind.i64.wrap (x13 + (1 : Int))) < (16 : Int) then (if (x12.length + ([IntKind.i64.wrap ((IntKind.i64.wrap ((IntKind.i64.wrap (ar a0.B (Int.toNat x13))) * (256 : Int))) + (IntKind.i64.wrap (ar a0.B (Int.toNat (IntKind.i64.wrap (x13 + (1 : Int)))))))] : List Int).length) * 8 ≤ 140737488355328 then vineryref02_six.l0 a0 kk (x12 ++ ([IntKind.i64.wrap ((IntKind.i64.wrap ((IntKind.i64.wrap (ar a0.B (Int.toNat x13))) * (256 : Int))) + (IntKind.i64.wrap (ar a0.B (Int.toNat (IntKind.i64.wrap (x13 + (1 : Int)))))))] : List Int)) (IntKind.i64.wrap (x13 + (2 : Int))) else none) else none) else none) else some (x12 : List Int))
def vineryref02_six.f (k : Nat) (a0 : S_api_Addr) : Option (List UInt8) := (vineryref02_six.l0 a0 k ([] : List Int) (0 : Int)).bind fun s10 => (vineryref02_six.l1 k s10 k (0 : Int) (0 : Int) (0 : Int)).bind fun s19 => (vineryref02_six.l2 k s10 s19 k ([] : List UInt8) (0 : Int)).bind fun s26 => some ((s26 : List UInt8))
set_option maxRecDepth 100000 in
theorem vineryref02_six.walk (w : World) (M : List Nat) (hM : MS M w) (a0 : S_api_Addr) (k : Nat) (r : List UInt8) (H : vineryref02_six.f k a0 = some r) :
    To Tryz.prog 116 [.agg (cS_api_Addr a0).toArray] w fun v w' => v = .string (bstr r) ∧ Chg [] w w' ∧ MS (M) w' := by
 unfold vineryref02_six.f at H
 refine ent Tryz.func116 rfl [(0, .agg (cS_api_Addr a0).toArray)] rfl (by rfl) fun a ha => ?_
 have hC : Chg [] w w := Chg.refl _ _
 refine wp_seq_k fun K1 hK1 => ?_
 refine wp_region_lit ?_
 refine bx (cs := (cS_api_Addr a0)) ha rfl rfl rfl rfl rfl fun a w2 g3 hN4 ha => ?_
 have hn6 := hN4.notin hM
 have hM : MS (M) w2 := (hM.chg hN4.chg)
 have hC := hC.trans hN4.chg (Ok.nil _ _)
 have hE5 : ∀ j v, (cS_api_Addr a0)[j]? = some v → w2.cell? ⟨g3, 0 + j, none⟩ = some v := Box.cells (New.box hN4)
 refine seg ha 1 [(1, .pointer (some ⟨g3, 0, none⟩))] (by kernel_rfl) fun a ha => ?_
 refine hK1 _ _ ?_; try clear hK1 K1
 refine wp_seq_k fun K7 hK7 => ?_
 refine wp_region_lit ?_
 refine seg ha 1 [(1, .pointer (some ⟨g3, 0, none⟩)), (3, .slice none 0 0)] (by kernel_rfl) fun a ha => ?_
 refine hK7 _ _ ?_; try clear hK7 K7
 refine wp_seq_k fun K8 hK8 => ?_
 refine wp_seq_k fun K9 hK9 => ?_
 refine wp_region_lit ?_
 refine seg ha 1 [(1, .pointer (some ⟨g3, 0, none⟩)), (3, .slice none 0 0), (4, .int .i64 (0 : Int))] (by kernel_rfl) fun a ha => ?_
 refine hK9 _ _ ?_; try clear hK9 K9
 refine wp_block ?_
 obtain ⟨s10, H10, H⟩ := bind_some H
 have J10 : ∀ (a : Act) (wx10 : World) (ao14 : Option Addr) (cap14 : Nat), Has a Tryz.f116.ntmps [(3, .slice ao14 s10.length cap14)] → (Own (rInt .i64) 3 wx10 (blkL ao14 ++ (M)) ao14 cap14 s10) → (∀ x ∈ blkL ao14, w.heap.size ≤ x) → (∀ x ∈ blkL ao14, x ∉ M) → (Chg [] w wx10) → (MS (blkL ao14 ++ (M)) wx10) → K8 a wx10 := by
  intro a wx10 ao14 cap14 ha f14 e_i14 p_i14_M hC hM
  refine hK8 _ _ ?_; try clear hK8 K8
  refine wp_seq_k fun K15 hK15 => ?_
  refine wp_region_lit ?_
  refine seg ha 1 [(3, .slice ao14 s10.length cap14), (5, .int .i64 (0 : Int))] (by kernel_rfl) fun a ha => ?_
  refine hK15 _ _ ?_; try clear hK15 K15
  refine wp_seq_k fun K16 hK16 => ?_
  refine wp_region_lit ?_
  refine seg ha 1 [(3, .slice ao14 s10.length cap14), (5, .int .i64 (0 : Int)), (6, .int .i64 (0 : Int))] (by kernel_rfl) fun a ha => ?_
  refine hK16 _ _ ?_; try clear hK16 K16
  refine wp_seq_k fun K17 hK17 => ?_
  refine wp_seq_k fun K18 hK18 => ?_
  refine wp_region_lit ?_
  refine seg ha 1 [(3, .slice ao14 s10.length cap14), (5, .int .i64 (0 : Int)), (6, .int .i64 (0 : Int)), (7, .int .i64 (0 : Int))] (by kernel_rfl) fun a ha => ?_
  refine hK18 _ _ ?_; try clear hK18 K18
  refine wp_block ?_
  obtain ⟨s19, H19, H⟩ := bind_some H
  have J19 : ∀ (a : Act) (wx19 : World), Has a Tryz.f116.ntmps [(3, .slice ao14 s10.length cap14), (5, .int .i64 s19.1), (6, .int .i64 s19.2)] → (Own (rInt .i64) 3 wx19 (blkL ao14 ++ (M)) ao14 cap14 s10) → (Chg [] w wx19) → (MS (blkL ao14 ++ (M)) wx19) → K17 a wx19 := by
   intro a wx19 ha f14 hC hM
   refine hK17 _ _ ?_; try clear hK17 K17
   refine wp_seq_k fun K23 hK23 => ?_
   refine wp_region_lit ?_
   refine seg ha 1 [(3, .slice ao14 s10.length cap14), (5, .int .i64 s19.1), (6, .int .i64 s19.2), (9, .string (bstr ([] : List UInt8)))] (by kernel_rfl) fun a ha => ?_
   refine hK23 _ _ ?_; try clear hK23 K23
   refine wp_seq_k fun K24 hK24 => ?_
   refine wp_seq_k fun K25 hK25 => ?_
   refine wp_region_lit ?_
   refine seg ha 1 [(3, .slice ao14 s10.length cap14), (5, .int .i64 s19.1), (6, .int .i64 s19.2), (9, .string (bstr ([] : List UInt8))), (10, .int .i64 (0 : Int))] (by kernel_rfl) fun a ha => ?_
   refine hK25 _ _ ?_; try clear hK25 K25
   refine wp_block ?_
   obtain ⟨s26, H26, H⟩ := bind_some H
   have J26 : ∀ (a : Act) (wx26 : World), Has a Tryz.f116.ntmps [(9, .string (bstr s26))] → (Chg [] w wx26) → (MS (M) wx26) → K24 a wx26 := by
    intro a wx26 ha hC hM
    refine hK24 _ _ ?_; try clear hK24 K24
    refine wp_seq_k fun K29 hK29 => ?_
    refine wp_region_lit ?_
    refine seg ha 2 [(2, .string (bstr s26))] (by kernel_rfl) fun a ha => ?_
    refine hK29 _ _ ?_; try clear hK29 K29
    refine wp_ret ?_
    try simp only [Exit.then, Exit.inBlock]
    obtain rfl := Option.some.inj H
    refine rt1 ha rfl rfl ?_
    exact ⟨rfl, hC, hM⟩
   have Hc26 := H
   have H := H26
   refine wp_loop_ghost (fun kk a w26 => ∃ (x27 : List UInt8) (x28 : Int), vineryref02_six.l2 k s10 s19 kk x27 x28 = some s26 ∧ Has a Tryz.f116.ntmps [(3, .slice ao14 s10.length cap14), (5, .int .i64 s19.1), (6, .int .i64 s19.2), (9, .string (bstr x27)), (10, .int .i64 x28)] ∧ (Own (rInt .i64) 3 w26 (blkL ao14 ++ (M)) ao14 cap14 s10) ∧ (Chg [] w w26) ∧ (MS (blkL ao14 ++ (M)) w26)) k ?_ ?_
   ·skip
    exact ⟨([] : List UInt8), (0 : Int), H, (ha.sel (by kernel_rfl)), f14, hC, hM⟩
   ·rintro kk a w26 ⟨x27, x28, H, ha, f14, hC, hM⟩
    obtain _ | kk := kk
    ·exact nomatch (show none = some _ from H)
    rw [vineryref02_six.l2] at H
    refine wp_seq_k fun K30 hK30 => ?_
    refine wp_seq_k fun K31 hK31 => ?_
    refine wp_region_lit ?_
    refine seg ha 2 [(3, .slice ao14 s10.length cap14), (5, .int .i64 s19.1), (6, .int .i64 s19.2), (9, .string (bstr x27)), (10, .int .i64 x28), (57, .bool (decide (x28 < (8 : Int))))] (by kernel_rfl) fun a ha => ?_
    refine hK31 _ _ ?_; try clear hK31 K31
    refine cnd ha rfl (fun hc32 => ?_) (fun hc32 => ?_)
    ·have H := ite_t hc32 H
     refine wp_skip ?_
     refine hK30 _ _ ?_; try clear hK30 K30
     refine wp_seq_k fun K33 hK33 => ?_
     refine wp_block ?_
     refine wp_seq_k fun K34 hK34 => ?_
     refine wp_seq_k fun K35 hK35 => ?_
     refine wp_region_lit ?_
     refine seg ha 7 [(3, .slice ao14 s10.length cap14), (5, .int .i64 s19.1), (6, .int .i64 s19.2), (9, .string (bstr x27)), (10, .int .i64 x28), (66, .bool (if (decide (s19.2 > (1 : Int))) = true then (x28 == s19.1) else false))] (by kernel_rfl) fun a ha => ?_
     refine hK35 _ _ ?_; try clear hK35 K35
     refine cnd ha rfl (fun hc36 => ?_) (fun hc36 => ?_)
     ·have H := ite_t hc36 H
      refine wp_seq_k fun K37 hK37 => ?_
      refine wp_region_lit ?_
      refine seg ha 1 [(3, .slice ao14 s10.length cap14), (5, .int .i64 s19.1), (6, .int .i64 s19.2), (10, .int .i64 x28), (67, .string (bstr x27))] (by kernel_rfl) fun a ha => ?_
      obtain ⟨hx38, H⟩ := ite_some H
      refine sadd ha rfl rfl rfl rfl rfl hx38 fun a ha => ?_
      refine seg ha 1 [(3, .slice ao14 s10.length cap14), (5, .int .i64 s19.1), (6, .int .i64 s19.2), (9, .string (bstr (x27 ++ ([58, 58] : List UInt8)))), (10, .int .i64 x28)] (by kernel_rfl) fun a ha => ?_
      refine hK37 _ _ ?_; try clear hK37 K37
      refine wp_seq_k fun K39 hK39 => ?_
      refine wp_region_lit ?_
      refine seg ha 5 [(3, .slice ao14 s10.length cap14), (5, .int .i64 s19.1), (6, .int .i64 s19.2), (9, .string (bstr (x27 ++ ([58, 58] : List UInt8)))), (10, .int .i64 (IntKind.i64.wrap ((IntKind.i64.wrap (x28 + s19.2)) - (1 : Int))))] (by kernel_rfl) fun a ha => ?_
      refine hK39 _ _ ?_; try clear hK39 K39
      refine wp_exit ?_
      simp only [Exit.then, Exit.inBlock, ↓reduceIte, Nat.reduceEqDiff]
      refine hK33 _ _ ?_; try clear hK33 K33
      refine wp_region_lit ?_
      refine seg ha 3 [(3, .slice ao14 s10.length cap14), (5, .int .i64 s19.1), (6, .int .i64 s19.2), (9, .string (bstr (x27 ++ ([58, 58] : List UInt8)))), (10, .int .i64 (IntKind.i64.wrap ((IntKind.i64.wrap ((IntKind.i64.wrap (x28 + s19.2)) - (1 : Int))) + (1 : Int))))] (by kernel_rfl) fun a ha => ?_
      exact ⟨kk, Nat.lt_succ_self _, ⟨x27 ++ ([58, 58] : List UInt8), IntKind.i64.wrap ((IntKind.i64.wrap ((IntKind.i64.wrap (x28 + s19.2)) - (1 : Int))) + (1 : Int)), H, (ha.sel (by kernel_rfl)), f14, hC, hM⟩⟩
     ·have H := ite_f hc36 H
      refine wp_skip ?_
      refine hK34 _ _ ?_; try clear hK34 K34
      refine wp_seq_k fun K40 hK40 => ?_
      obtain ⟨s41, H41, H⟩ := bind_some H
      have J41 : ∀ (a : Act) (w41 : World), Has a Tryz.f116.ntmps [(3, .slice ao14 s10.length cap14), (5, .int .i64 s19.1), (6, .int .i64 s19.2), (9, .string (bstr s41)), (10, .int .i64 x28)] → (Own (rInt .i64) 3 w41 (blkL ao14 ++ (M)) ao14 cap14 s10) → (Chg [] w w41) → (MS (blkL ao14 ++ (M)) w41) → K40 a w41 := by
       intro a w41 ha f14 hC hM
       refine hK40 _ _ ?_; try clear hK40 K40
       refine wp_region_lit ?_
       refine seg ha 3 [(3, .slice ao14 s10.length cap14), (5, .int .i64 s19.1), (6, .int .i64 s19.2), (10, .int .i64 x28), (85, .string (bstr s41)), (86, .slice ao14 s10.length cap14), (87, .int .i64 x28)] (by kernel_rfl) fun a ha => ?_
       obtain ⟨⟨hx42, hx42'⟩, H⟩ := ite_some H
       refine ix (r := (rInt .i64)) ha (by kernel_rfl) (by kernel_rfl) rfl rfl rfl rfl rfl (Own.toRSl (M' := []) f14 (Ok.nil _ _) (fun _ _ h => nomatch h)) hx42 hx42' fun a ge43 oe44 cs45 hn48 hR46 hE47 ha => ?_
       rw [rd_get] at hR46
       obtain rfl := hR46
       have hE47 : ∀ j v, ([.int .i64 (rd s10 x28)] : List Value)[j]? = some v → w41.cell? ⟨ge43, oe44 + j, none⟩ = some v := hE47
       refine ld ha rfl (by kernel_rfl) rfl rfl rfl (hE47 0 (.int .i64 (rd s10 x28)) (by kernel_rfl)) fun a ha => ?_
       obtain ⟨t49, H49, H⟩ := bind_some H
       refine cl ha (by rfl) (by kernel_rfl) (by rfl) (by rfl) (by rfl) (vineryref02_Number.walk w41 _ hM (rd s10 x28) (16 : Int) k _ H49) ?_
       rintro _ w49 ⟨rfl, hc49, hMn⟩ a ha
       have o1 : Ok [] (blkL ao14 ++ (M)) w41.heap.size := Ok.nil _ _
       have o2 : Ok (blkL ao14 ++ (M)) (blkL ao14 ++ (M)) w41.heap.size := (Ok.refl _ _)
       have f14 := f14.chg hc49 o1 o2 (fun _ _ h => nomatch h) (fun _ h => ml h)
       have hM : MS (blkL ao14 ++ (M)) w49 := (hM.chg hc49)
       have hC := hC.trans hc49 (Ok.nil _ _)
       obtain ⟨hx50, H⟩ := ite_some H
       refine sadd ha rfl rfl rfl rfl rfl hx50 fun a ha => ?_
       refine seg ha 1 [(3, .slice ao14 s10.length cap14), (5, .int .i64 s19.1), (6, .int .i64 s19.2), (9, .string (bstr (s41 ++ t49))), (10, .int .i64 x28)] (by kernel_rfl) fun a ha => ?_
       refine hK33 _ _ ?_; try clear hK33 K33
       refine wp_region_lit ?_
       refine seg ha 3 [(3, .slice ao14 s10.length cap14), (5, .int .i64 s19.1), (6, .int .i64 s19.2), (9, .string (bstr (s41 ++ t49))), (10, .int .i64 (IntKind.i64.wrap (x28 + (1 : Int))))] (by kernel_rfl) fun a ha => ?_
       exact ⟨kk, Nat.lt_succ_self _, ⟨s41 ++ t49, IntKind.i64.wrap (x28 + (1 : Int)), H, (ha.sel (by kernel_rfl)), f14, hC, hM⟩⟩
      have H := H41
      refine wp_seq_k fun K51 hK51 => ?_
      refine wp_region_lit ?_
      obtain ⟨s52, H52, H⟩ := bind_some H
      have J52 : ∀ (a : Act) (w52 : World), Has a Tryz.f116.ntmps [(3, .slice ao14 s10.length cap14), (5, .int .i64 s19.1), (6, .int .i64 s19.2), (9, .string (bstr x27)), (10, .int .i64 x28), (82, .bool s52)] → (Own (rInt .i64) 3 w52 (blkL ao14 ++ (M)) ao14 cap14 s10) → (Chg [] w w52) → (MS (blkL ao14 ++ (M)) w52) → K51 a w52 := by
       intro a w52 ha f14 hC hM
       refine hK51 _ _ ?_; try clear hK51 K51
       refine cnd ha rfl (fun hc53 => ?_) (fun hc53 => ?_)
       ·have H := ite_t hc53 H
        refine wp_region_lit ?_
        refine seg ha 1 [(3, .slice ao14 s10.length cap14), (5, .int .i64 s19.1), (6, .int .i64 s19.2), (10, .int .i64 x28), (83, .string (bstr x27))] (by kernel_rfl) fun a ha => ?_
        obtain ⟨hx54, H⟩ := ite_some H
        refine sadd ha rfl rfl rfl rfl rfl hx54 fun a ha => ?_
        refine seg ha 1 [(3, .slice ao14 s10.length cap14), (5, .int .i64 s19.1), (6, .int .i64 s19.2), (9, .string (bstr (x27 ++ ([58] : List UInt8)))), (10, .int .i64 x28)] (by kernel_rfl) fun a ha => ?_
        obtain rfl := Option.some.inj H
        exact J41 _ _ (ha.sel (by kernel_rfl)) f14 hC hM
       ·have H := ite_f hc53 H
        refine wp_skip ?_
        obtain rfl := Option.some.inj H
        exact J41 _ _ (ha.sel (by kernel_rfl)) f14 hC hM
      have H := H52
      refine seg ha 3 [(75, .bool (!((bstr x27).toList == (bstr ([] : List UInt8)).toList))), (3, .slice ao14 s10.length cap14), (5, .int .i64 s19.1), (6, .int .i64 s19.2), (9, .string (bstr x27)), (10, .int .i64 x28)] (by kernel_rfl) fun a ha => ?_
      rcases Bool.eq_false_or_eq_true (!((bstr x27).toList == (bstr ([] : List UInt8)).toList)) with hb55 | hb55
      ·have ha := ha.lit hb55
       have H := ite_t hb55 H
       refine sgh ha 4 [2, 2, 2, 2] [(3, .slice ao14 s10.length cap14), (5, .int .i64 s19.1), (6, .int .i64 s19.2), (9, .string (bstr x27)), (10, .int .i64 x28), (75, .bool true), (76, .string (bstr x27)), (79, .int .i64 (IntKind.i64.wrap (((bstr x27).size : Int) - (1 : Int))))] (by kernel_rfl) fun a ha => ?_
       obtain ⟨⟨hx56, hx56'⟩, H⟩ := ite_some H
       refine hop (v := .int .u8 ((x27.getD (Int.toNat (IntKind.i64.wrap (((bstr x27).size : Int) - (1 : Int)))) 0).toNat : Int)) (w' := w26) ha rfl rfl rfl (sidx_run (l := x27) (k := .i64) (i := IntKind.i64.wrap (((bstr x27).size : Int) - (1 : Int))) ha (by kernel_rfl) (by rfl) (by rfl) hx56 hx56' _) fun a ha => ?_
       refine sgh ha 2 [2, 3] [(3, .slice ao14 s10.length cap14), (5, .int .i64 s19.1), (6, .int .i64 s19.2), (9, .string (bstr x27)), (10, .int .i64 x28), (82, .bool (((x27.getD (Int.toNat (IntKind.i64.wrap (((bstr x27).size : Int) - (1 : Int)))) 0).toNat : Int) != (58 : Int)))] (by kernel_rfl) fun a ha => ?_
       obtain rfl := Option.some.inj H
       exact J52 _ _ (ha.sel (by kernel_rfl)) f14 hC hM
      ·have ha := ha.lit hb55
       have H := ite_f hb55 H
       refine sgh ha 7 [1, 1, 1, 1, 1, 1, 4] [(3, .slice ao14 s10.length cap14), (5, .int .i64 s19.1), (6, .int .i64 s19.2), (9, .string (bstr x27)), (10, .int .i64 x28), (82, .bool false)] (by kernel_rfl) fun a ha => ?_
       obtain rfl := Option.some.inj H
       exact J52 _ _ (ha.sel (by kernel_rfl)) f14 hC hM
    ·have H := ite_f hc32 H
     refine wp_exit ?_
     simp only [Exit.then, Exit.inBlock, ↓reduceIte, Nat.reduceEqDiff]
     obtain rfl := Option.some.inj H
     have hM : MS (M) w26 := (fun x h => hM.chg (Chg.refl [] _) x (mr (h)))
     have hC := hC.trans (Chg.refl [] _) (Ok.nil _ _)
     exact J26 _ _ (ha.sel (by kernel_rfl)) hC hM
  have Hc19 := H
  have H := H19
  refine wp_loop_ghost (fun kk a w19 => ∃ (x20 : Int) (x21 : Int) (x22 : Int), vineryref02_six.l1 k s10 kk x20 x21 x22 = some s19 ∧ Has a Tryz.f116.ntmps [(3, .slice ao14 s10.length cap14), (5, .int .i64 x20), (6, .int .i64 x21), (7, .int .i64 x22)] ∧ (Own (rInt .i64) 3 w19 (blkL ao14 ++ (M)) ao14 cap14 s10) ∧ (Chg [] w w19) ∧ (MS (blkL ao14 ++ (M)) w19)) k ?_ ?_
  ·skip
   exact ⟨(0 : Int), (0 : Int), (0 : Int), H, (ha.sel (by kernel_rfl)), f14, hC, hM⟩
  ·rintro kk a w19 ⟨x20, x21, x22, H, ha, f14, hC, hM⟩
   obtain _ | kk := kk
   ·exact nomatch (show none = some _ from H)
   rw [vineryref02_six.l1] at H
   refine wp_seq_k fun K57 hK57 => ?_
   refine wp_seq_k fun K58 hK58 => ?_
   refine wp_region_lit ?_
   refine seg ha 2 [(3, .slice ao14 s10.length cap14), (5, .int .i64 x20), (6, .int .i64 x21), (7, .int .i64 x22), (32, .bool (decide (x22 < (8 : Int))))] (by kernel_rfl) fun a ha => ?_
   refine hK58 _ _ ?_; try clear hK58 K58
   refine cnd ha rfl (fun hc59 => ?_) (fun hc59 => ?_)
   ·have H := ite_t hc59 H
    refine wp_skip ?_
    refine hK57 _ _ ?_; try clear hK57 K57
    refine wp_seq_k fun K60 hK60 => ?_
    refine wp_block ?_
    refine wp_seq_k fun K61 hK61 => ?_
    refine wp_region_lit ?_
    refine seg ha 2 [(3, .slice ao14 s10.length cap14), (5, .int .i64 x20), (6, .int .i64 x21), (7, .int .i64 x22), (8, .int .i64 x22)] (by kernel_rfl) fun a ha => ?_
    refine hK61 _ _ ?_; try clear hK61 K61
    refine wp_seq_k fun K62 hK62 => ?_
    refine wp_block ?_
    obtain ⟨s63, H63, H⟩ := bind_some H
    have J63 : ∀ (a : Act) (wx63 : World), Has a Tryz.f116.ntmps [(3, .slice ao14 s10.length cap14), (5, .int .i64 x20), (6, .int .i64 x21), (7, .int .i64 x22), (8, .int .i64 s63)] → (Own (rInt .i64) 3 wx63 (blkL ao14 ++ (M)) ao14 cap14 s10) → (Chg [] w wx63) → (MS (blkL ao14 ++ (M)) wx63) → K62 a wx63 := by
     intro a wx63 ha f14 hC hM
     refine hK62 _ _ ?_; try clear hK62 K62
     refine wp_seq_k fun K65 hK65 => ?_
     refine wp_region_lit ?_
     refine seg ha 5 [(3, .slice ao14 s10.length cap14), (5, .int .i64 x20), (6, .int .i64 x21), (7, .int .i64 x22), (8, .int .i64 s63), (51, .bool (decide ((IntKind.i64.wrap (s63 - x22)) > x21)))] (by kernel_rfl) fun a ha => ?_
     refine hK65 _ _ ?_; try clear hK65 K65
     refine cnd ha rfl (fun hc66 => ?_) (fun hc66 => ?_)
     ·have H := ite_t hc66 H
      refine wp_seq_k fun K67 hK67 => ?_
      refine wp_region_lit ?_
      refine seg ha 2 [(3, .slice ao14 s10.length cap14), (5, .int .i64 x22), (7, .int .i64 x22), (8, .int .i64 s63)] (by kernel_rfl) fun a ha => ?_
      refine hK67 _ _ ?_; try clear hK67 K67
      refine wp_region_lit ?_
      refine seg ha 4 [(3, .slice ao14 s10.length cap14), (5, .int .i64 x22), (6, .int .i64 (IntKind.i64.wrap (s63 - x22))), (7, .int .i64 x22)] (by kernel_rfl) fun a ha => ?_
      refine hK60 _ _ ?_; try clear hK60 K60
      refine wp_region_lit ?_
      refine seg ha 3 [(3, .slice ao14 s10.length cap14), (5, .int .i64 x22), (6, .int .i64 (IntKind.i64.wrap (s63 - x22))), (7, .int .i64 (IntKind.i64.wrap (x22 + (1 : Int))))] (by kernel_rfl) fun a ha => ?_
      exact ⟨kk, Nat.lt_succ_self _, ⟨x22, IntKind.i64.wrap (s63 - x22), IntKind.i64.wrap (x22 + (1 : Int)), H, (ha.sel (by kernel_rfl)), f14, hC, hM⟩⟩
     ·have H := ite_f hc66 H
      refine wp_skip ?_
      refine hK60 _ _ ?_; try clear hK60 K60
      refine wp_region_lit ?_
      refine seg ha 3 [(3, .slice ao14 s10.length cap14), (5, .int .i64 x20), (6, .int .i64 x21), (7, .int .i64 (IntKind.i64.wrap (x22 + (1 : Int))))] (by kernel_rfl) fun a ha => ?_
      exact ⟨kk, Nat.lt_succ_self _, ⟨x20, x21, IntKind.i64.wrap (x22 + (1 : Int)), H, (ha.sel (by kernel_rfl)), f14, hC, hM⟩⟩
    have Hc63 := H
    have H := H63
    refine wp_loop_ghost (fun kk a w63 => ∃ (x64 : Int), vineryref02_six.l3 s10 kk x64 = some s63 ∧ Has a Tryz.f116.ntmps [(3, .slice ao14 s10.length cap14), (5, .int .i64 x20), (6, .int .i64 x21), (7, .int .i64 x22), (8, .int .i64 x64)] ∧ (Own (rInt .i64) 3 w63 (blkL ao14 ++ (M)) ao14 cap14 s10) ∧ (Chg [] w w63) ∧ (MS (blkL ao14 ++ (M)) w63)) k ?_ ?_
    ·skip
     exact ⟨x22, H, (ha.sel (by kernel_rfl)), f14, hC, hM⟩
    ·rintro kk a w63 ⟨x64, H, ha, f14, hC, hM⟩
     obtain _ | kk := kk
     ·exact nomatch (show none = some _ from H)
     rw [vineryref02_six.l3] at H
     refine wp_seq_k fun K68 hK68 => ?_
     refine wp_seq_k fun K69 hK69 => ?_
     refine wp_region_lit ?_
     obtain ⟨s70, H70, H⟩ := bind_some H
     have J70 : ∀ (a : Act) (w70 : World), Has a Tryz.f116.ntmps [(3, .slice ao14 s10.length cap14), (5, .int .i64 x20), (6, .int .i64 x21), (7, .int .i64 x22), (8, .int .i64 x64), (44, .bool s70)] → (Own (rInt .i64) 3 w70 (blkL ao14 ++ (M)) ao14 cap14 s10) → (Chg [] w w70) → (MS (blkL ao14 ++ (M)) w70) → K69 a w70 := by
      intro a w70 ha f14 hC hM
      refine hK69 _ _ ?_; try clear hK69 K69
      refine cnd ha rfl (fun hc71 => ?_) (fun hc71 => ?_)
      ·have H := ite_t hc71 H
       refine wp_skip ?_
       refine hK68 _ _ ?_; try clear hK68 K68
       refine wp_block ?_
       refine wp_region_lit ?_
       refine seg ha 3 [(3, .slice ao14 s10.length cap14), (5, .int .i64 x20), (6, .int .i64 x21), (7, .int .i64 x22), (8, .int .i64 (IntKind.i64.wrap (x64 + (1 : Int))))] (by kernel_rfl) fun a ha => ?_
       exact ⟨kk, Nat.lt_succ_self _, ⟨IntKind.i64.wrap (x64 + (1 : Int)), H, (ha.sel (by kernel_rfl)), f14, hC, hM⟩⟩
      ·have H := ite_f hc71 H
       refine wp_exit ?_
       simp only [Exit.then, Exit.inBlock, ↓reduceIte, Nat.reduceEqDiff]
       obtain rfl := Option.some.inj H
       exact J63 _ _ (ha.sel (by kernel_rfl)) f14 hC hM
     have H := H70
     refine seg ha 3 [(38, .bool (decide (x64 < (8 : Int)))), (3, .slice ao14 s10.length cap14), (5, .int .i64 x20), (6, .int .i64 x21), (7, .int .i64 x22), (8, .int .i64 x64)] (by kernel_rfl) fun a ha => ?_
     rcases Bool.eq_false_or_eq_true (decide (x64 < (8 : Int))) with hb72 | hb72
     ·have ha := ha.lit hb72
      have H := ite_t hb72 H
      refine sgh ha 2 [2, 2] [(3, .slice ao14 s10.length cap14), (5, .int .i64 x20), (6, .int .i64 x21), (7, .int .i64 x22), (8, .int .i64 x64), (38, .bool true), (39, .slice ao14 s10.length cap14), (40, .int .i64 x64)] (by kernel_rfl) fun a ha => ?_
      obtain ⟨⟨hx73, hx73'⟩, H⟩ := ite_some H
      refine ix (r := (rInt .i64)) ha (by kernel_rfl) (by kernel_rfl) rfl rfl rfl rfl rfl (Own.toRSl (M' := []) f14 (Ok.nil _ _) (fun _ _ h => nomatch h)) hx73 hx73' fun a ge74 oe75 cs76 hn79 hR77 hE78 ha => ?_
      rw [rd_get] at hR77
      obtain rfl := hR77
      have hE78 : ∀ j v, ([.int .i64 (rd s10 x64)] : List Value)[j]? = some v → w63.cell? ⟨ge74, oe75 + j, none⟩ = some v := hE78
      refine ld ha rfl (by kernel_rfl) rfl rfl rfl (hE78 0 (.int .i64 (rd s10 x64)) (by kernel_rfl)) fun a ha => ?_
      refine sgh ha 2 [2, 3] [(3, .slice ao14 s10.length cap14), (5, .int .i64 x20), (6, .int .i64 x21), (7, .int .i64 x22), (8, .int .i64 x64), (44, .bool ((rd s10 x64) == (0 : Int)))] (by kernel_rfl) fun a ha => ?_
      obtain rfl := Option.some.inj H
      exact J70 _ _ (ha.sel (by kernel_rfl)) f14 hC hM
     ·have ha := ha.lit hb72
      have H := ite_f hb72 H
      refine sgh ha 6 [1, 1, 1, 1, 1, 4] [(3, .slice ao14 s10.length cap14), (5, .int .i64 x20), (6, .int .i64 x21), (7, .int .i64 x22), (8, .int .i64 x64), (44, .bool false)] (by kernel_rfl) fun a ha => ?_
      obtain rfl := Option.some.inj H
      exact J70 _ _ (ha.sel (by kernel_rfl)) f14 hC hM
   ·have H := ite_f hc59 H
    refine wp_exit ?_
    simp only [Exit.then, Exit.inBlock, ↓reduceIte, Nat.reduceEqDiff]
    obtain rfl := Option.some.inj H
    exact J19 _ _ (ha.sel (by kernel_rfl)) f14 hC hM
 have Hc10 := H
 have H := H10
 refine wp_loop_ghost (fun kk a w10 => ∃ (x12 : List Int) (x13 : Int) (ao11 : Option Addr) (cap11 : Nat), vineryref02_six.l0 a0 kk x12 x13 = some s10 ∧ Has a Tryz.f116.ntmps [(1, .pointer (some ⟨g3, 0, none⟩)), (3, .slice ao11 x12.length cap11), (4, .int .i64 x13)] ∧ (Own (rInt .i64) 3 w10 (blkL ao11 ++ (M)) ao11 cap11 x12) ∧ (∀ j v, (cS_api_Addr a0)[j]? = some v → w10.cell? ⟨g3, 0 + j, none⟩ = some v) ∧ (g3 ∉ (blkL ao11 ++ (M))) ∧ (∀ x ∈ blkL ao11, w.heap.size ≤ x) ∧ (∀ x ∈ blkL ao11, x ∉ M) ∧ (Chg [] w w10) ∧ (MS (blkL ao11 ++ (M)) w10)) k ?_ ?_
 ·skip
  have o1 : Ok [] (M) w2.heap.size := Ok.nil _ _
  have o2 : Ok (blkL none ++ (M)) (M) w2.heap.size := (Ok.app (fun _ h => nomatch h) (Ok.refl _ _))
  have q_hn6 : g3 ∉ blkL none ++ (M) := fun h => (o2 g3 h).elim hn6 (fun h => absurd (lt_cell (hE5 0 _ rfl)) (Nat.not_lt.2 h))
  have hE5 : ∀ j v, (cS_api_Addr a0)[j]? = some v → w2.cell? ⟨g3, 0 + j, none⟩ = some v := fun j v hv => (cell_keep (Chg.refl [] _) o1 hn6 (hE5 j v hv))
  have hn6 := q_hn6
  have p_z80_M : ∀ x ∈ blkL none, x ∉ M := fun x hx hy => absurd (hM x (hy)) (Nat.not_lt.2 ((fun _ h => nomatch h) x hx))
  have e_z80 : ∀ x ∈ blkL none, w.heap.size ≤ x := fun x hx => Nat.le_trans hC.size ((fun _ h => nomatch h) x hx)
  have hM : MS (blkL none ++ (M)) w2 := (MS.app (fun _ h => nomatch h) (hM.chg (Chg.refl [] _)))
  have hC := hC.trans (Chg.refl [] _) (Ok.nil _ _)
  exact ⟨([] : List Int), (0 : Int), none, 0, H, (ha.sel (by kernel_rfl)), Own.nil, hE5, hn6, e_z80, p_z80_M, hC, hM⟩
 ·rintro kk a w10 ⟨x12, x13, ao11, cap11, H, ha, f11, hE5, hn6, e_i11, p_i11_M, hC, hM⟩
  obtain _ | kk := kk
  ·exact nomatch (show none = some _ from H)
  rw [vineryref02_six.l0] at H
  refine wp_seq_k fun K81 hK81 => ?_
  refine wp_seq_k fun K82 hK82 => ?_
  refine wp_region_lit ?_
  refine seg ha 2 [(1, .pointer (some ⟨g3, 0, none⟩)), (3, .slice ao11 x12.length cap11), (4, .int .i64 x13), (12, .bool (decide (x13 < (16 : Int))))] (by kernel_rfl) fun a ha => ?_
  refine hK82 _ _ ?_; try clear hK82 K82
  refine cnd ha rfl (fun hc83 => ?_) (fun hc83 => ?_)
  ·have H := ite_t hc83 H
   refine wp_skip ?_
   refine hK81 _ _ ?_; try clear hK81 K81
   refine wp_seq_k fun K84 hK84 => ?_
   refine wp_block ?_
   have okS : Ok (blkL ao11) (blkL ao11 ++ (M)) w10.heap.size := (fun _ h => .inl (ml h))
   have z_hE5 := hE5
   have z_hn6 := hn6
   refine drw (fun w' => Chg (blkL ao11) w10 w') (by kernel_rfl) fun w85 hc86 _ => ?_
   have hS : Chg (blkL ao11) w10 w85 := (Chg.refl (blkL ao11) _).trans hc86 (Ok.nil _ _)
   have o1 : Ok [] (blkL ao11 ++ (M)) w10.heap.size := Ok.nil _ _
   have o2 : Ok (blkL ao11 ++ (M)) (blkL ao11 ++ (M)) w10.heap.size := (Ok.refl _ _)
   have f11 := f11.chg hc86 o1 o2 (fun _ _ h => nomatch h) (fun _ h => ml h)
   have q_hn6 : g3 ∉ blkL ao11 ++ (M) := fun h => (o2 g3 h).elim hn6 (fun h => absurd (lt_cell (hE5 0 _ rfl)) (Nat.not_lt.2 h))
   have hE5 : ∀ j v, (cS_api_Addr a0)[j]? = some v → w85.cell? ⟨g3, 0 + j, none⟩ = some v := fun j v hv => (cell_keep hc86 o1 hn6 (hE5 j v hv))
   have hn6 := q_hn6
   have hM : MS (blkL ao11 ++ (M)) w85 := (hM.chg hc86)
   have hC := hC.trans hc86 (Ok.nil _ _)
   refine tkpz 0 0 (.slice ao11 x12.length cap11) ha (s := hS) (q := fun a ha => ?_)
   refine tkpz 1 0 (.int .i64 x13) ha (s := hS) (q := fun a ha => ?_)
   refine tkpz 2 0 (.pointer (some ⟨g3, 0 + 1, none⟩)) ha (s := hS) (q := fun a ha => ?_)
   obtain ⟨⟨hx87, hx87'⟩, H⟩ := ite_some H
   have hE87 : ∀ j v, ([.int .u8 (ar a0.B (Int.toNat x13))] : List Value)[j]? = some v → w10.cell? ⟨g3, (0 + 1 + (Int.toNat x13)) + j, none⟩ = some v := cellA (m := 16) [.int .i64 a0.Size] [] z_hE5 (by kernel_rfl) (by omega)
   have hn87 := z_hn6
   refine tkz 3 ha (v := .pointer (some ⟨g3, (0 + 1 + (Int.toNat x13)), none⟩)) (y := fun w' hs => ixA_run (T := 5) (N := 16) (g := g3) (o' := 0 + 1) (k := .i64) (i := x13) ha (by kernel_rfl) (by kernel_rfl) (by rfl) (by rfl) hx87 hx87' w') (s := hS) (q := fun a ha => ?_)
   refine tkz 4 ha (v := .int .u8 (ar a0.B (Int.toNat x13))) (y := fun w' hs => ld_run ha rfl (by kernel_rfl) (cell_keep hs okS hn87 (hE87 0 (.int .u8 (ar a0.B (Int.toNat x13))) (by kernel_rfl)))) (s := hS) (q := fun a ha => ?_)
   refine tkpz 5 0 (.int .i64 (IntKind.i64.wrap (ar a0.B (Int.toNat x13)))) ha (s := hS) (q := fun a ha => ?_)
   refine tkpz 6 0 (.int .i64 (IntKind.i64.wrap ((IntKind.i64.wrap (ar a0.B (Int.toNat x13))) * (256 : Int)))) ha (s := hS) (q := fun a ha => ?_)
   refine tkpz 7 0 (.int .i64 x13) ha (s := hS) (q := fun a ha => ?_)
   refine tkpz 8 0 (.int .i64 (IntKind.i64.wrap (x13 + (1 : Int)))) ha (s := hS) (q := fun a ha => ?_)
   refine tkpz 9 0 (.pointer (some ⟨g3, 0 + 1, none⟩)) ha (s := hS) (q := fun a ha => ?_)
   obtain ⟨⟨hx88, hx88'⟩, H⟩ := ite_some H
   have hE88 : ∀ j v, ([.int .u8 (ar a0.B (Int.toNat (IntKind.i64.wrap (x13 + (1 : Int)))))] : List Value)[j]? = some v → w10.cell? ⟨g3, (0 + 1 + (Int.toNat (IntKind.i64.wrap (x13 + (1 : Int))))) + j, none⟩ = some v := cellA (m := 16) [.int .i64 a0.Size] [] z_hE5 (by kernel_rfl) (by omega)
   have hn88 := z_hn6
   refine tkz 10 ha (v := .pointer (some ⟨g3, (0 + 1 + (Int.toNat (IntKind.i64.wrap (x13 + (1 : Int))))), none⟩)) (y := fun w' hs => ixA_run (T := 5) (N := 16) (g := g3) (o' := 0 + 1) (k := .i64) (i := IntKind.i64.wrap (x13 + (1 : Int))) ha (by kernel_rfl) (by kernel_rfl) (by rfl) (by rfl) hx88 hx88' w') (s := hS) (q := fun a ha => ?_)
   refine tkz 11 ha (v := .int .u8 (ar a0.B (Int.toNat (IntKind.i64.wrap (x13 + (1 : Int)))))) (y := fun w' hs => ld_run ha rfl (by kernel_rfl) (cell_keep hs okS hn88 (hE88 0 (.int .u8 (ar a0.B (Int.toNat (IntKind.i64.wrap (x13 + (1 : Int)))))) (by kernel_rfl)))) (s := hS) (q := fun a ha => ?_)
   refine tkpz 12 0 (.int .i64 (IntKind.i64.wrap (ar a0.B (Int.toNat (IntKind.i64.wrap (x13 + (1 : Int))))))) ha (s := hS) (q := fun a ha => ?_)
   refine tkpz 13 0 (.int .i64 (IntKind.i64.wrap ((IntKind.i64.wrap ((IntKind.i64.wrap (ar a0.B (Int.toNat x13))) * (256 : Int))) + (IntKind.i64.wrap (ar a0.B (Int.toNat (IntKind.i64.wrap (x13 + (1 : Int))))))))) ha (s := hS) (q := fun a ha => ?_)
   refine ac 14 (by kernel_rfl) (by rfl) fun K89 hK89 => ?_
   refine bsl (vals := ([.int .i64 (IntKind.i64.wrap ((IntKind.i64.wrap ((IntKind.i64.wrap (ar a0.B (Int.toNat x13))) * (256 : Int))) + (IntKind.i64.wrap (ar a0.B (Int.toNat (IntKind.i64.wrap (x13 + (1 : Int))))))))] : List Value)) (T := 3) ha rfl (([.int .i64 (IntKind.i64.wrap ((IntKind.i64.wrap ((IntKind.i64.wrap (ar a0.B (Int.toNat x13))) * (256 : Int))) + (IntKind.i64.wrap (ar a0.B (Int.toNat (IntKind.i64.wrap (x13 + (1 : Int))))))))] : List Value) ++ ([] : List Value)) (fun w => by kernel_rfl) rfl rfl rfl fun a w90 g91 hN92 ha => ?_
   have o1 : Ok [] (blkL ao11 ++ (M)) w85.heap.size := Ok.nil _ _
   have o2 : Ok ([g91] ++ (blkL ao11 ++ (M))) (blkL ao11 ++ (M)) w85.heap.size := (Ok.app (hN92.ok _) (Ok.refl _ _))
   have f11 := f11.chg hN92.chg o1 o2 (fun _ _ h => nomatch h) (fun _ h => mr (ml h))
   have q_hn6 : g3 ∉ [g91] ++ (blkL ao11 ++ (M)) := fun h => (o2 g3 h).elim hn6 (fun h => absurd (lt_cell (hE5 0 _ rfl)) (Nat.not_lt.2 h))
   have hE5 : ∀ j v, (cS_api_Addr a0)[j]? = some v → w90.cell? ⟨g3, 0 + j, none⟩ = some v := fun j v hv => (cell_keep hN92.chg o1 hn6 (hE5 j v hv))
   have hn6 := q_hn6
   have p_iD000093_i11 : ∀ x ∈ [g91], x ∉ (blkL ao11) := fun x hx hy => absurd (hM x (ml hy)) (Nat.not_lt.2 ((hN92.ge1) x hx))
   have p_iD000093_M : ∀ x ∈ [g91], x ∉ M := fun x hx hy => absurd (hM x (mr (hy))) (Nat.not_lt.2 ((hN92.ge1) x hx))
   have e_iD000093 : ∀ x ∈ [g91], w.heap.size ≤ x := fun x hx => Nat.le_trans hC.size ((hN92.ge1) x hx)
   have hM : MS ([g91] ++ (blkL ao11 ++ (M))) w90 := (MS.app hN92.ms (hM.chg hN92.chg))
   have hC := hC.trans hN92.chg (Ok.nil _ _)
   have d_iD000093 : Ok ([g91]) (blkL ao11) w10.heap.size := fun x hx => .inr (Nat.le_trans hS.size ((hN92.ge1) x hx))
   have hS := hS.trans hN92.chg (Ok.nil _ _)
   have f94 : Own (rInt .i64) 3 w90 ([g91] ++ (blkL ao11 ++ (M))) (some ⟨g91, 0, none⟩) 1 ([IntKind.i64.wrap ((IntKind.i64.wrap ((IntKind.i64.wrap (ar a0.B (Int.toNat x13))) * (256 : Int))) + (IntKind.i64.wrap (ar a0.B (Int.toNat (IntKind.i64.wrap (x13 + (1 : Int)))))))] : List Int) := hN92.own ⟨([.int .i64 (IntKind.i64.wrap ((IntKind.i64.wrap ((IntKind.i64.wrap (ar a0.B (Int.toNat x13))) * (256 : Int))) + (IntKind.i64.wrap (ar a0.B (Int.toNat (IntKind.i64.wrap (x13 + (1 : Int))))))))] : List Value), _, rfl, rfl, rfl⟩ (Nat.le_of_ble_eq_true rfl)
   refine ae hK89 hS ?_; clear hK89 K89
   refine ac 15 (by kernel_rfl) (by rfl) fun K95 hK95 => ?_
   obtain ⟨hx96, H⟩ := ite_some H
   refine app (r := (rInt .i64)) (xs := x12) (ys := ([IntKind.i64.wrap ((IntKind.i64.wrap ((IntKind.i64.wrap (ar a0.B (Int.toNat x13))) * (256 : Int))) + (IntKind.i64.wrap (ar a0.B (Int.toNat (IntKind.i64.wrap (x13 + (1 : Int)))))))] : List Int)) ha (ElemT.mk' (bytes := 8) (by kernel_rfl)) rfl rfl rfl rfl rfl f11 f94.src hx96 (by decide) fun a w97 ao98 cap98 hO98 hc98 hk98 hl98 ha => ?_
   have o1 : Ok (blkL ao11) ([g91] ++ (blkL ao11 ++ (M))) w90.heap.size := (fun _ h => .inl (mr (ml h)))
   have o2 : Ok (blkL ao98 ++ ([g91] ++ (M))) ([g91] ++ (blkL ao11 ++ (M))) w90.heap.size := (Ok.app (Ok.to hk98 (fun _ h => mr (ml h))) (Ok.app (fun _ h => .inl (ml h)) (fun _ h => .inl (mr (mr (h))))))
   have f94 := f94.chg hc98 o1 o2 p_iD000093_i11 (fun _ h => mr (ml h))
   have q_hn6 : g3 ∉ blkL ao98 ++ ([g91] ++ (M)) := fun h => (o2 g3 h).elim hn6 (fun h => absurd (lt_cell (hE5 0 _ rfl)) (Nat.not_lt.2 h))
   have hE5 : ∀ j v, (cS_api_Addr a0)[j]? = some v → w97.cell? ⟨g3, 0 + j, none⟩ = some v := fun j v hv => (cell_keep hc98 o1 hn6 (hE5 j v hv))
   have hn6 := q_hn6
   have p_iD000098_iD000093 : ∀ x ∈ blkL ao98, x ∉ ([g91]) := fun x hx hy => (hk98 x hx).elim (fun h => (fun x hx hy => p_iD000093_i11 x hy hx) x h hy) (fun h => absurd (hM x (ml hy)) (Nat.not_lt.2 h))
   have p_iD000098_M : ∀ x ∈ blkL ao98, x ∉ M := fun x hx hy => (hk98 x hx).elim (fun h => p_i11_M x h hy) (fun h => absurd (hM x (mr (mr (hy)))) (Nat.not_lt.2 h))
   have e_iD000098 : ∀ x ∈ blkL ao98, w.heap.size ≤ x := fun x hx => (hk98 x hx).elim (e_i11 x) (Nat.le_trans hC.size)
   have hM : MS (blkL ao98 ++ ([g91] ++ (M))) w97 := (MS.app hl98 (MS.app (fun x h => hM.chg hc98 x (ml h)) (fun x h => hM.chg hc98 x (mr (mr (h))))))
   have hC := hC.trans hc98 (fun x h => .inr (e_i11 x h))
   have d_iD000098 : Ok (blkL ao98) (blkL ao11) w10.heap.size := fun x hx => (hk98 x hx).elim (fun h => .inl (h)) (fun h => .inr (Nat.le_trans hS.size h))
   have hS := hS.trans hc98 (fun x h => .inl (h))
   have f98 := hO98.chg (M' := blkL ao98 ++ ([g91] ++ (M))) (Chg.refl [] _) (Ok.nil _ _) (Ok.app (fun _ h => .inl (ml h)) (Ok.to (Ok.app (fun _ h => .inl (ml h)) (fun _ h => .inl (mr (mr (h))))) (fun _ h => mr h))) (fun _ _ h => nomatch h) (fun _ h => ml h)
   refine ae hK95 hS ?_; clear hK95 K95
   refine tkpz 16 0 (.slice ao98 (x12 ++ ([IntKind.i64.wrap ((IntKind.i64.wrap ((IntKind.i64.wrap (ar a0.B (Int.toNat x13))) * (256 : Int))) + (IntKind.i64.wrap (ar a0.B (Int.toNat (IntKind.i64.wrap (x13 + (1 : Int)))))))] : List Int)).length cap98) ha (s := hS) (q := fun a ha => ?_)
   refine dn (by kernel_rfl) ?_
   refine hK84 _ _ ?_; try clear hK84 K84
   refine wp_region_lit ?_
   refine seg ha 3 [(1, .pointer (some ⟨g3, 0, none⟩)), (3, .slice ao98 (x12 ++ ([IntKind.i64.wrap ((IntKind.i64.wrap ((IntKind.i64.wrap (ar a0.B (Int.toNat x13))) * (256 : Int))) + (IntKind.i64.wrap (ar a0.B (Int.toNat (IntKind.i64.wrap (x13 + (1 : Int)))))))] : List Int)).length cap98), (4, .int .i64 (IntKind.i64.wrap (x13 + (2 : Int))))] (by kernel_rfl) fun a ha => ?_
   have o1 : Ok [] (blkL ao98 ++ ([g91] ++ (M))) w97.heap.size := Ok.nil _ _
   have o2 : Ok (blkL ao98 ++ (M)) (blkL ao98 ++ ([g91] ++ (M))) w97.heap.size := (Ok.app (fun _ h => .inl (ml h)) (fun _ h => .inl (mr (mr (h)))))
   have f98 := f98.chg (Chg.refl [] _) o1 o2 (fun _ _ h => nomatch h) (fun _ h => ml h)
   have q_hn6 : g3 ∉ blkL ao98 ++ (M) := fun h => (o2 g3 h).elim hn6 (fun h => absurd (lt_cell (hE5 0 _ rfl)) (Nat.not_lt.2 h))
   have hE5 : ∀ j v, (cS_api_Addr a0)[j]? = some v → w97.cell? ⟨g3, 0 + j, none⟩ = some v := fun j v hv => (cell_keep (Chg.refl [] _) o1 hn6 (hE5 j v hv))
   have hn6 := q_hn6
   have hM : MS (blkL ao98 ++ (M)) w97 := (MS.app (fun x h => hM.chg (Chg.refl [] _) x (ml h)) (fun x h => hM.chg (Chg.refl [] _) x (mr (mr (h)))))
   have hC := hC.trans (Chg.refl [] _) (Ok.nil _ _)
   exact ⟨kk, Nat.lt_succ_self _, ⟨(x12 ++ ([IntKind.i64.wrap ((IntKind.i64.wrap ((IntKind.i64.wrap (ar a0.B (Int.toNat x13))) * (256 : Int))) + (IntKind.i64.wrap (ar a0.B (Int.toNat (IntKind.i64.wrap (x13 + (1 : Int)))))))] : List Int)), IntKind.i64.wrap (x13 + (2 : Int)), ao98, cap98, H, (ha.sel (by kernel_rfl)), f98, hE5, hn6, e_iD000098, p_iD000098_M, hC, hM⟩⟩
  ·have H := ite_f hc83 H
   refine wp_exit ?_
   simp only [Exit.then, Exit.inBlock, ↓reduceIte, Nat.reduceEqDiff]
   obtain rfl := Option.some.inj H
   exact J10 _ _ ao11 cap11 (ha.sel (by kernel_rfl)) f11 e_i11 p_i11_M hC hM
def vineryref02_Text.l0 (k : Nat) (a0 : S_api_Addr) : Nat → (List UInt8) → Int → Option (List UInt8)
  | 0, _, _ => none
  | kk + 1, x25, x26 => (if (decide (x26 < (4 : Int))) = true then (if (x25 ++ ([46] : List UInt8)).length ≤ 9223372036854775807 then (if 0 ≤ x26 ∧ x26 < (16 : Int) then (vineryref02_Number.f k (IntKind.i64.wrap (ar a0.B (Int.toNat x26))) (10 : Int)).bind fun t34 => (if ((x25 ++ ([46] : List UInt8)) ++ t34).length ≤ 9223372036854775807 then vineryref02_Text.l0 k a0 kk ((x25 ++ ([46] : List UInt8)) ++ t34) (IntKind.i64.wrap (x26 + (1 : Int))) else none) else none) else none) else some (x25 : List UInt8))
def vineryref02_Text.f (k : Nat) (a0 : S_api_Addr) : Option (List UInt8) := (vineryref02_Right.f k a0).bind fun t8 => ((if (!t8) = true then some (true : Bool) else some (a0.Size == (0 : Int) : Bool))).bind fun s11 => (if s11 = true then some ((([] : List UInt8) : List UInt8)) else (if (a0.Size == (16 : Int)) = true then (vineryref02_six.f k a0).bind fun t18 => some ((t18 : List UInt8)) else (vineryref02_Number.f k (IntKind.i64.wrap (ar a0.B 0)) (10 : Int)).bind fun t21 => (vineryref02_Text.l0 k a0 k t21 (1 : Int)).bind fun s24 => some ((s24 : List UInt8))))
set_option maxRecDepth 100000 in
theorem vineryref02_Text.walk (w : World) (M : List Nat) (hM : MS M w) (a0 : S_api_Addr) (k : Nat) (r : List UInt8) (H : vineryref02_Text.f k a0 = some r) :
    To Tryz.prog 86 [.agg (cS_api_Addr a0).toArray] w fun v w' => v = .string (bstr r) ∧ Chg [] w w' ∧ MS (M) w' := by
 unfold vineryref02_Text.f at H
 refine ent Tryz.func86 rfl [(0, .agg (cS_api_Addr a0).toArray)] rfl (by rfl) fun a ha => ?_
 have hC : Chg [] w w := Chg.refl _ _
 refine wp_seq_k fun K1 hK1 => ?_
 refine wp_region_lit ?_
 refine bx (cs := (cS_api_Addr a0)) ha rfl rfl rfl rfl rfl fun a w2 g3 hN4 ha => ?_
 have hn6 := hN4.notin hM
 have hM : MS (M) w2 := (hM.chg hN4.chg)
 have hC := hC.trans hN4.chg (Ok.nil _ _)
 have hE5 : ∀ j v, (cS_api_Addr a0)[j]? = some v → w2.cell? ⟨g3, 0 + j, none⟩ = some v := Box.cells (New.box hN4)
 refine seg ha 1 [(1, .pointer (some ⟨g3, 0, none⟩))] (by kernel_rfl) fun a ha => ?_
 refine hK1 _ _ ?_; try clear hK1 K1
 refine wp_seq_k fun K7 hK7 => ?_
 refine wp_region_lit ?_
 refine ldA (cs := (cS_api_Addr a0)) ha rfl (by kernel_rfl) rfl rfl rfl (cells_sub hE5 (all := (cS_api_Addr a0)) [] [] (by kernel_rfl)) fun a ha => ?_
 obtain ⟨t8, H8, H⟩ := bind_some H
 refine cl ha (by rfl) (by kernel_rfl) (by rfl) (by rfl) (by rfl) (vineryref02_Right.walk w2 _ hM a0 k _ H8) ?_
 rintro _ w8 ⟨rfl, hc8, hMn⟩ a ha
 have o1 : Ok [] (M) w2.heap.size := Ok.nil _ _
 have o2 : Ok (M) (M) w2.heap.size := (Ok.refl _ _)
 have q_hn6 : g3 ∉ M := fun h => (o2 g3 h).elim hn6 (fun h => absurd (lt_cell (hE5 0 _ rfl)) (Nat.not_lt.2 h))
 have hE5 : ∀ j v, (cS_api_Addr a0)[j]? = some v → w8.cell? ⟨g3, 0 + j, none⟩ = some v := fun j v hv => (cell_keep hc8 o1 hn6 (hE5 j v hv))
 have hn6 := q_hn6
 have hM : MS (M) w8 := (hM.chg hc8)
 have hC := hC.trans hc8 (Ok.nil _ _)
 refine seg ha 1 [(1, .pointer (some ⟨g3, 0, none⟩)), (3, .bool t8)] (by kernel_rfl) fun a ha => ?_
 refine hK7 _ _ ?_; try clear hK7 K7
 refine wp_seq_k fun K9 hK9 => ?_
 refine wp_seq_k fun K10 hK10 => ?_
 refine wp_region_lit ?_
 obtain ⟨s11, H11, H⟩ := bind_some H
 have J11 : ∀ (a : Act) (w11 : World), Has a Tryz.f86.ntmps [(1, .pointer (some ⟨g3, 0, none⟩)), (14, .bool s11)] → (∀ j v, (cS_api_Addr a0)[j]? = some v → w11.cell? ⟨g3, 0 + j, none⟩ = some v) → (g3 ∉ (M)) → (Chg [] w w11) → (MS (M) w11) → K10 a w11 := by
  intro a w11 ha hE5 hn6 hC hM
  refine hK10 _ _ ?_; try clear hK10 K10
  refine cnd ha rfl (fun hc12 => ?_) (fun hc12 => ?_)
  ·have H := ite_t hc12 H
   refine wp_seq_k fun K13 hK13 => ?_
   refine wp_region_lit ?_
   refine seg ha 1 [(2, .string (bstr ([] : List UInt8)))] (by kernel_rfl) fun a ha => ?_
   refine hK13 _ _ ?_; try clear hK13 K13
   refine wp_ret ?_
   try simp only [Exit.then, Exit.inBlock]
   obtain rfl := Option.some.inj H
   refine rt1 ha rfl rfl ?_
   exact ⟨rfl, hC, hM⟩
  ·have H := ite_f hc12 H
   refine wp_skip ?_
   refine hK9 _ _ ?_; try clear hK9 K9
   refine wp_seq_k fun K14 hK14 => ?_
   refine wp_seq_k fun K15 hK15 => ?_
   refine wp_region_lit ?_
   refine seg ha 1 [(1, .pointer (some ⟨g3, 0, none⟩)), (15, .pointer (some ⟨g3, 0, none⟩))] (by kernel_rfl) fun a ha => ?_
   refine ld ha rfl (by kernel_rfl) rfl rfl rfl (hE5 0 (.int .i64 a0.Size) (by kernel_rfl)) fun a ha => ?_
   refine seg ha 1 [(1, .pointer (some ⟨g3, 0, none⟩)), (17, .bool (a0.Size == (16 : Int)))] (by kernel_rfl) fun a ha => ?_
   refine hK15 _ _ ?_; try clear hK15 K15
   refine cnd ha rfl (fun hc16 => ?_) (fun hc16 => ?_)
   ·have H := ite_t hc16 H
    refine wp_seq_k fun K17 hK17 => ?_
    refine wp_region_lit ?_
    refine ldA (cs := (cS_api_Addr a0)) ha rfl (by kernel_rfl) rfl rfl rfl (cells_sub hE5 (all := (cS_api_Addr a0)) [] [] (by kernel_rfl)) fun a ha => ?_
    obtain ⟨t18, H18, H⟩ := bind_some H
    refine cl ha (by rfl) (by kernel_rfl) (by rfl) (by rfl) (by rfl) (vineryref02_six.walk w11 _ hM a0 k _ H18) ?_
    rintro _ w18 ⟨rfl, hc18, hMn⟩ a ha
    have hM : MS (M) w18 := (hM.chg hc18)
    have hC := hC.trans hc18 (Ok.nil _ _)
    refine seg ha 1 [(2, .string (bstr t18))] (by kernel_rfl) fun a ha => ?_
    refine hK17 _ _ ?_; try clear hK17 K17
    refine wp_ret ?_
    try simp only [Exit.then, Exit.inBlock]
    obtain rfl := Option.some.inj H
    refine rt1 ha rfl rfl ?_
    exact ⟨rfl, hC, hM⟩
   ·have H := ite_f hc16 H
    refine wp_skip ?_
    refine hK14 _ _ ?_; try clear hK14 K14
    refine wp_seq_k fun K19 hK19 => ?_
    refine wp_region_lit ?_
    refine seg ha 1 [(1, .pointer (some ⟨g3, 0, none⟩)), (20, .pointer (some ⟨g3, 0 + 1, none⟩))] (by kernel_rfl) fun a ha => ?_
    have hE20 : ∀ j v, ([.int .u8 (ar a0.B 0)] : List Value)[j]? = some v → w11.cell? ⟨g3, (0 + 1 + 0) + j, none⟩ = some v := cellA (m := 16) [.int .i64 a0.Size] [] hE5 (by kernel_rfl) (by decide)
    have hn20 := hn6
    refine hop (v := .pointer (some ⟨g3, (0 + 1 + 0), none⟩)) (w' := w11) ha rfl rfl rfl (ixA_run (T := 5) (N := 16) (g := g3) (o' := 0 + 1) (k := .i64) (i := (0 : Int)) ha (by kernel_rfl) (by kernel_rfl) (by rfl) (by rfl) (by decide) (by decide) _) fun a ha => ?_
    refine ld ha rfl (by kernel_rfl) rfl rfl rfl (hE20 0 (.int .u8 (ar a0.B 0)) (by kernel_rfl)) fun a ha => ?_
    refine seg ha 1 [(1, .pointer (some ⟨g3, 0, none⟩)), (23, .int .i64 (IntKind.i64.wrap (ar a0.B 0)))] (by kernel_rfl) fun a ha => ?_
    obtain ⟨t21, H21, H⟩ := bind_some H
    refine cl ha (by rfl) (by kernel_rfl) (by rfl) (by rfl) (by rfl) (vineryref02_Number.walk w11 _ hM (IntKind.i64.wrap (ar a0.B 0)) (10 : Int) k _ H21) ?_
    rintro _ w21 ⟨rfl, hc21, hMn⟩ a ha
    have o1 : Ok [] (M) w11.heap.size := Ok.nil _ _
    have o2 : Ok (M) (M) w11.heap.size := (Ok.refl _ _)
    have q_hn6 : g3 ∉ M := fun h => (o2 g3 h).elim hn6 (fun h => absurd (lt_cell (hE5 0 _ rfl)) (Nat.not_lt.2 h))
    have hE5 : ∀ j v, (cS_api_Addr a0)[j]? = some v → w21.cell? ⟨g3, 0 + j, none⟩ = some v := fun j v hv => (cell_keep hc21 o1 hn6 (hE5 j v hv))
    have hn6 := q_hn6
    have hM : MS (M) w21 := (hM.chg hc21)
    have hC := hC.trans hc21 (Ok.nil _ _)
    refine seg ha 1 [(1, .pointer (some ⟨g3, 0, none⟩)), (4, .string (bstr t21))] (by kernel_rfl) fun a ha => ?_
    refine hK19 _ _ ?_; try clear hK19 K19
    refine wp_seq_k fun K22 hK22 => ?_
    refine wp_seq_k fun K23 hK23 => ?_
    refine wp_region_lit ?_
    refine seg ha 1 [(1, .pointer (some ⟨g3, 0, none⟩)), (4, .string (bstr t21)), (5, .int .i64 (1 : Int))] (by kernel_rfl) fun a ha => ?_
    refine hK23 _ _ ?_; try clear hK23 K23
    refine wp_block ?_
    obtain ⟨s24, H24, H⟩ := bind_some H
    have J24 : ∀ (a : Act) (wx24 : World), Has a Tryz.f86.ntmps [(4, .string (bstr s24))] → (Chg [] w wx24) → (MS (M) wx24) → K22 a wx24 := by
     intro a wx24 ha hC hM
     refine hK22 _ _ ?_; try clear hK22 K22
     refine wp_seq_k fun K27 hK27 => ?_
     refine wp_region_lit ?_
     refine seg ha 2 [(2, .string (bstr s24))] (by kernel_rfl) fun a ha => ?_
     refine hK27 _ _ ?_; try clear hK27 K27
     refine wp_ret ?_
     try simp only [Exit.then, Exit.inBlock]
     obtain rfl := Option.some.inj H
     refine rt1 ha rfl rfl ?_
     exact ⟨rfl, hC, hM⟩
    have Hc24 := H
    have H := H24
    refine wp_loop_ghost (fun kk a w24 => ∃ (x25 : List UInt8) (x26 : Int), vineryref02_Text.l0 k a0 kk x25 x26 = some s24 ∧ Has a Tryz.f86.ntmps [(1, .pointer (some ⟨g3, 0, none⟩)), (4, .string (bstr x25)), (5, .int .i64 x26)] ∧ (∀ j v, (cS_api_Addr a0)[j]? = some v → w24.cell? ⟨g3, 0 + j, none⟩ = some v) ∧ (g3 ∉ (M)) ∧ (Chg [] w w24) ∧ (MS (M) w24)) k ?_ ?_
    ·skip
     exact ⟨t21, (1 : Int), H, (ha.sel (by kernel_rfl)), hE5, hn6, hC, hM⟩
    ·rintro kk a w24 ⟨x25, x26, H, ha, hE5, hn6, hC, hM⟩
     obtain _ | kk := kk
     ·exact nomatch (show none = some _ from H)
     rw [vineryref02_Text.l0] at H
     refine wp_seq_k fun K28 hK28 => ?_
     refine wp_seq_k fun K29 hK29 => ?_
     refine wp_region_lit ?_
     refine seg ha 2 [(1, .pointer (some ⟨g3, 0, none⟩)), (4, .string (bstr x25)), (5, .int .i64 x26), (26, .bool (decide (x26 < (4 : Int))))] (by kernel_rfl) fun a ha => ?_
     refine hK29 _ _ ?_; try clear hK29 K29
     refine cnd ha rfl (fun hc30 => ?_) (fun hc30 => ?_)
     ·have H := ite_t hc30 H
      refine wp_skip ?_
      refine hK28 _ _ ?_; try clear hK28 K28
      refine wp_seq_k fun K31 hK31 => ?_
      refine wp_block ?_
      refine wp_region_lit ?_
      refine seg ha 1 [(1, .pointer (some ⟨g3, 0, none⟩)), (5, .int .i64 x26), (29, .string (bstr x25))] (by kernel_rfl) fun a ha => ?_
      obtain ⟨hx32, H⟩ := ite_some H
      refine sadd ha rfl rfl rfl rfl rfl hx32 fun a ha => ?_
      refine seg ha 2 [(1, .pointer (some ⟨g3, 0, none⟩)), (5, .int .i64 x26), (30, .string (bstr (x25 ++ ([46] : List UInt8)))), (31, .int .i64 x26), (32, .pointer (some ⟨g3, 0 + 1, none⟩))] (by kernel_rfl) fun a ha => ?_
      obtain ⟨⟨hx33, hx33'⟩, H⟩ := ite_some H
      have hE33 : ∀ j v, ([.int .u8 (ar a0.B (Int.toNat x26))] : List Value)[j]? = some v → w24.cell? ⟨g3, (0 + 1 + (Int.toNat x26)) + j, none⟩ = some v := cellA (m := 16) [.int .i64 a0.Size] [] hE5 (by kernel_rfl) (by omega)
      have hn33 := hn6
      refine hop (v := .pointer (some ⟨g3, (0 + 1 + (Int.toNat x26)), none⟩)) (w' := w24) ha rfl rfl rfl (ixA_run (T := 5) (N := 16) (g := g3) (o' := 0 + 1) (k := .i64) (i := x26) ha (by kernel_rfl) (by kernel_rfl) (by rfl) (by rfl) hx33 hx33' _) fun a ha => ?_
      refine ld ha rfl (by kernel_rfl) rfl rfl rfl (hE33 0 (.int .u8 (ar a0.B (Int.toNat x26))) (by kernel_rfl)) fun a ha => ?_
      refine seg ha 1 [(1, .pointer (some ⟨g3, 0, none⟩)), (5, .int .i64 x26), (30, .string (bstr (x25 ++ ([46] : List UInt8)))), (35, .int .i64 (IntKind.i64.wrap (ar a0.B (Int.toNat x26))))] (by kernel_rfl) fun a ha => ?_
      obtain ⟨t34, H34, H⟩ := bind_some H
      refine cl ha (by rfl) (by kernel_rfl) (by rfl) (by rfl) (by rfl) (vineryref02_Number.walk w24 _ hM (IntKind.i64.wrap (ar a0.B (Int.toNat x26))) (10 : Int) k _ H34) ?_
      rintro _ w34 ⟨rfl, hc34, hMn⟩ a ha
      have o1 : Ok [] (M) w24.heap.size := Ok.nil _ _
      have o2 : Ok (M) (M) w24.heap.size := (Ok.refl _ _)
      have q_hn6 : g3 ∉ M := fun h => (o2 g3 h).elim hn6 (fun h => absurd (lt_cell (hE5 0 _ rfl)) (Nat.not_lt.2 h))
      have hE5 : ∀ j v, (cS_api_Addr a0)[j]? = some v → w34.cell? ⟨g3, 0 + j, none⟩ = some v := fun j v hv => (cell_keep hc34 o1 hn6 (hE5 j v hv))
      have hn6 := q_hn6
      have hM : MS (M) w34 := (hM.chg hc34)
      have hC := hC.trans hc34 (Ok.nil _ _)
      obtain ⟨hx35, H⟩ := ite_some H
      refine sadd ha rfl rfl rfl rfl rfl hx35 fun a ha => ?_
      refine seg ha 1 [(1, .pointer (some ⟨g3, 0, none⟩)), (4, .string (bstr ((x25 ++ ([46] : List UInt8)) ++ t34))), (5, .int .i64 x26)] (by kernel_rfl) fun a ha => ?_
      refine hK31 _ _ ?_; try clear hK31 K31
      refine wp_region_lit ?_
      refine seg ha 3 [(1, .pointer (some ⟨g3, 0, none⟩)), (4, .string (bstr ((x25 ++ ([46] : List UInt8)) ++ t34))), (5, .int .i64 (IntKind.i64.wrap (x26 + (1 : Int))))] (by kernel_rfl) fun a ha => ?_
      exact ⟨kk, Nat.lt_succ_self _, ⟨(x25 ++ ([46] : List UInt8)) ++ t34, IntKind.i64.wrap (x26 + (1 : Int)), H, (ha.sel (by kernel_rfl)), hE5, hn6, hC, hM⟩⟩
     ·have H := ite_f hc30 H
      refine wp_exit ?_
      simp only [Exit.then, Exit.inBlock, ↓reduceIte, Nat.reduceEqDiff]
      obtain rfl := Option.some.inj H
      exact J24 _ _ (ha.sel (by kernel_rfl)) hC hM
 have H := H11
 refine seg ha 3 [(10, .bool (!t8)), (1, .pointer (some ⟨g3, 0, none⟩))] (by kernel_rfl) fun a ha => ?_
 rcases Bool.eq_false_or_eq_true (!t8) with hb36 | hb36
 ·have ha := ha.lit hb36
  have H := ite_t hb36 H
  refine sgh ha 4 [1, 1, 1, 3] [(1, .pointer (some ⟨g3, 0, none⟩)), (14, .bool true)] (by kernel_rfl) fun a ha => ?_
  obtain rfl := Option.some.inj H
  exact J11 _ _ (ha.sel (by kernel_rfl)) hE5 hn6 hC hM
 ·have ha := ha.lit hb36
  have H := ite_f hb36 H
  refine sgh ha 1 [2] [(1, .pointer (some ⟨g3, 0, none⟩)), (10, .bool false), (11, .pointer (some ⟨g3, 0, none⟩))] (by kernel_rfl) fun a ha => ?_
  refine ld ha rfl (by kernel_rfl) rfl rfl rfl (hE5 0 (.int .i64 a0.Size) (by kernel_rfl)) fun a ha => ?_
  refine sgh ha 2 [2, 4] [(1, .pointer (some ⟨g3, 0, none⟩)), (14, .bool (a0.Size == (0 : Int)))] (by kernel_rfl) fun a ha => ?_
  obtain rfl := Option.some.inj H
  exact J11 _ _ (ha.sel (by kernel_rfl)) hE5 hn6 hC hM
end Go.E
