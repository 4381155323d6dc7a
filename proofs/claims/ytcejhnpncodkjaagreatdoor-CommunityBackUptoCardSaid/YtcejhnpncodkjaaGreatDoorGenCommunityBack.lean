/- What the functions that the law reaches compute, and the walks that show it. -/
import Derived.Test.YtcejhnpncodkjaaGreatDoorEngU
import Derived.Test.YtcejhnpncodkjaaGreatDoorShelf
import Derived.Test.YtcejhnpncodkjaaGreatDoorEngQ
import Derived.Test.YtcejhnpncodkjaaGreatDoorEngY
import Derived.Test.YtcejhnpncodkjaaGreatDoorProg
import Derived.Test.YtcejhnpncodkjaaGreatDoorGenCommunityBackP2
set_option linter.unusedVariables false
set_option linter.unusedSimpArgs false
namespace Go.E
open Go.RowKit Go.Proofs
def rd_Parse.f (k : Nat) (a0 : List UInt8) : Option (List Int × Int) := (strings_Split.f a0 ([58] : List UInt8)).bind fun t7 => (if ((t7.length : Int) == (2 : Int)) = true then (if 0 ≤ (1 : Int) ∧ (1 : Int) < (t7.length : Int) then (rd_strange.f k (rd t7 (1 : Int))).bind fun t21 => (rd_Text.f k t21).bind fun t26 => (if (!((bstr t26).toList == (bstr a0).toList)) = true then some ((([(0 : Int), (0 : Int), (0 : Int), (0 : Int), (0 : Int), (0 : Int), (0 : Int), (0 : Int)] : List Int) : List Int), ((4 : Int) : Int)) else some ((t21 : List Int), ((0 : Int) : Int))) else none) else (if ((t7.length : Int) == (3 : Int)) = true then (if 0 ≤ (0 : Int) ∧ (0 : Int) < (t7.length : Int) then (if 0 ≤ (1 : Int) ∧ (1 : Int) < (t7.length : Int) then (if 0 ≤ (2 : Int) ∧ (2 : Int) < (t7.length : Int) then (rd_known.f k (rd t7 (0 : Int)) (rd t7 (1 : Int)) (rd t7 (2 : Int))).bind fun t60 => ((if (!t60.2) = true then some (true : Bool) else (rd_Text.f k t60.1).bind fun t75 => some (!((bstr t75).toList == (bstr a0).toList) : Bool))).bind fun s66 => (if s66 = true then some ((([(0 : Int), (0 : Int), (0 : Int), (0 : Int), (0 : Int), (0 : Int), (0 : Int), (0 : Int)] : List Int) : List Int), ((4 : Int) : Int)) else some ((t60.1 : List Int), ((0 : Int) : Int))) else none) else none) else none) else some ((([(0 : Int), (0 : Int), (0 : Int), (0 : Int), (0 : Int), (0 : Int), (0 : Int), (0 : Int)] : List Int) : List Int), ((4 : Int) : Int))))
set_option maxRecDepth 100000 in
theorem rd_Parse.walk (w : World) (M : List Nat) (hM : MS M w) (hG : GF w M) (a0 : List UInt8) (k : Nat) (r : List Int × Int) (H : rd_Parse.f k a0 = some r) :
    To Tryz.prog 63 [.string (bstr a0)] w fun v w' => v = .tuple #[.agg (cA .u8 8 r.1).toArray, .int .i64 r.2] ∧ Chg [] w w' ∧ MS (M) w' := by
 unfold rd_Parse.f at H
 refine ent Tryz.func63 rfl [(0, .string (bstr a0))] rfl (by rfl) fun a ha => ?_
 have hC : Chg [] w w := Chg.refl _ _
 refine wp_seq_k fun K1 hK1 => ?_
 refine wp_region_lit ?_
 refine al (cs := (cA .u8 8 (List.replicate 8 (0 : Int)))) (z := .agg (cA .u8 8 (List.replicate 8 (0 : Int))).toArray) ha (fun w => by kernel_rfl) rfl rfl rfl rfl fun a w2 g3 hN4 ha => ?_
 have o1 : Ok [] (M) w.heap.size := Ok.nil _ _
 have o2 : Ok ([g3] ++ (M)) (M) w.heap.size := (Ok.app (hN4.ok _) (Ok.refl _ _))
 have hG := hG.chg hN4.chg o1 o2
 have p_i5_M : ∀ x ∈ [g3], x ∉ M := fun x hx hy => absurd (hM x (hy)) (Nat.not_lt.2 ((hN4.ge1) x hx))
 have e_i5 : ∀ x ∈ [g3], w.heap.size ≤ x := fun x hx => Nat.le_trans hC.size ((hN4.ge1) x hx)
 have hM : MS ([g3] ++ (M)) w2 := (MS.app hN4.ms (hM.chg hN4.chg))
 have hC := hC.trans hN4.chg (Ok.nil _ _)
 have hBg3 : Box w2 g3 (cA .u8 8 (List.replicate 8 (0 : Int))) := hN4.box
 refine seg ha 1 [(0, .string (bstr a0)), (2, .pointer (some ⟨g3, 0, none⟩))] (by kernel_rfl) fun a ha => ?_
 refine hK1 _ _ ?_; try clear hK1 K1
 refine wp_seq_k fun K6 hK6 => ?_
 refine wp_region_lit ?_
 refine seg ha 1 [(0, .string (bstr a0)), (2, .pointer (some ⟨g3, 0, none⟩)), (6, .string (bstr a0))] (by kernel_rfl) fun a ha => ?_
 obtain ⟨t7, H7, H⟩ := bind_some H
 refine cl ha (by rfl) (by kernel_rfl) (by rfl) (by rfl) (by rfl) (strings_Split.walk w2 _ hM hG a0 ([58] : List UInt8) _ H7) ?_
 rintro _ w7 ⟨ao8, cap8, rfl, f8, ne_i8, hc7, hMn⟩ a ha
 have o1 : Ok [] ([g3] ++ (M)) w2.heap.size := Ok.nil _ _
 have o2 : Ok (blkL ao8 ++ ([g3] ++ (M))) ([g3] ++ (M)) w2.heap.size := (Ok.app (fun x h => .inr (ne_i8 x h)) (Ok.refl _ _))
 have hG := hG.chg hc7 o1 o2
 have hBg3 := hBg3.chg hc7 (fun h => nomatch h)
 have p_i8_i5 : ∀ x ∈ blkL ao8, x ∉ ([g3]) := fun x hx hy => absurd (hM x (ml hy)) (Nat.not_lt.2 (ne_i8 x hx))
 have p_i8_M : ∀ x ∈ blkL ao8, x ∉ M := fun x hx hy => absurd (hM x (mr (hy))) (Nat.not_lt.2 (ne_i8 x hx))
 have e_i8 : ∀ x ∈ blkL ao8, w.heap.size ≤ x := fun x hx => Nat.le_trans hC.size (ne_i8 x hx)
 have hM : MS (blkL ao8 ++ ([g3] ++ (M))) w7 := (MS.app (fun x h => hMn x (ml h)) (hM.chg hc7))
 have hC := hC.trans hc7 (Ok.nil _ _)
 refine seg ha 1 [(0, .string (bstr a0)), (2, .pointer (some ⟨g3, 0, none⟩)), (4, .slice ao8 t7.length cap8)] (by kernel_rfl) fun a ha => ?_
 refine hK6 _ _ ?_; try clear hK6 K6
 refine wp_seq_k fun K9 hK9 => ?_
 refine wp_region_lit ?_
 refine seg ha 1 [(0, .string (bstr a0)), (2, .pointer (some ⟨g3, 0, none⟩)), (4, .slice ao8 t7.length cap8), (5, .bool true)] (by kernel_rfl) fun a ha => ?_
 refine hK9 _ _ ?_; try clear hK9 K9
 refine wp_seq_k fun K10 hK10 => ?_
 refine wp_seq_k fun K11 hK11 => ?_
 refine wp_region_lit ?_
 refine seg ha 2 [(0, .string (bstr a0)), (2, .pointer (some ⟨g3, 0, none⟩)), (4, .slice ao8 t7.length cap8), (5, .bool true), (9, .int .i64 (t7.length : Int))] (by kernel_rfl) fun a ha => ?_
 refine hK11 _ _ ?_; try clear hK11 K11
 refine wp_block ?_
 refine wp_seq_k fun K12 hK12 => ?_
 refine wp_region_lit ?_
 refine seg ha 2 [(0, .string (bstr a0)), (2, .pointer (some ⟨g3, 0, none⟩)), (4, .slice ao8 t7.length cap8), (5, .bool true), (9, .int .i64 (t7.length : Int)), (10, .bool ((t7.length : Int) == (2 : Int)))] (by kernel_rfl) fun a ha => ?_
 refine hK12 _ _ ?_; try clear hK12 K12
 refine cnd ha rfl (fun hc13 => ?_) (fun hc13 => ?_)
 ·have H := ite_t hc13 H
  refine wp_region_lit ?_
  refine seg ha 1 [(0, .string (bstr a0)), (2, .pointer (some ⟨g3, 0, none⟩)), (5, .bool true), (12, .slice ao8 t7.length cap8)] (by kernel_rfl) fun a ha => ?_
  obtain ⟨⟨hx14, hx14'⟩, H⟩ := ite_some H
  refine ix (r := rStr) ha (by kernel_rfl) (by kernel_rfl) rfl rfl rfl rfl rfl (Own.toRSl (M' := []) f8 (Ok.nil _ _) (fun _ _ h => nomatch h)) hx14 hx14' fun a ge15 oe16 cs17 hn20 hR18 hE19 ha => ?_
  rw [rd_get] at hR18
  obtain rfl := hR18
  have hE19 : ∀ j v, ([.string (bstr (rd t7 (1 : Int)))] : List Value)[j]? = some v → w7.cell? ⟨ge15, oe16 + j, none⟩ = some v := hE19
  refine ld ha rfl (by kernel_rfl) rfl rfl rfl (hE19 0 (.string (bstr (rd t7 (1 : Int)))) (by kernel_rfl)) fun a ha => ?_
  obtain ⟨t21, H21, H⟩ := bind_some H
  refine cl ha (by rfl) (by kernel_rfl) (by rfl) (by rfl) (by rfl) (rd_strange.walk w7 _ hM (rd t7 (1 : Int)) k _ H21) ?_
  rintro _ w21 ⟨rfl, hc21, hMn⟩ a ha
  have o1 : Ok [] (blkL ao8 ++ ([g3] ++ (M))) w7.heap.size := Ok.nil _ _
  have o2 : Ok (blkL ao8 ++ ([g3] ++ (M))) (blkL ao8 ++ ([g3] ++ (M))) w7.heap.size := (Ok.refl _ _)
  have hG := hG.chg hc21 o1 o2
  have hBg3 := hBg3.chg hc21 (fun h => nomatch h)
  have hM : MS (blkL ao8 ++ ([g3] ++ (M))) w21 := (hM.chg hc21)
  have hC := hC.trans hc21 (Ok.nil _ _)
  refine stA (l := (cA .u8 8 t21)) ha rfl rfl rfl (by kernel_rfl) rfl rfl hBg3 rfl fun a w22 ha hb2 hc23 _ => ?_
  have o1 : Ok [g3] (blkL ao8 ++ ([g3] ++ (M))) w21.heap.size := (fun _ h => .inl (mr (ml h)))
  have o2 : Ok (blkL ao8 ++ ([g3] ++ (M))) (blkL ao8 ++ ([g3] ++ (M))) w21.heap.size := (Ok.refl _ _)
  have hG := hG.chg hc23 o1 o2
  have hM : MS (blkL ao8 ++ ([g3] ++ (M))) w22 := (hM.chg hc23)
  have hC := hC.trans hc23 (fun x h => .inr (e_i5 x h))
  have hBg3 : Box w22 g3 (cA .u8 8 t21) := hb2
  refine hK10 _ _ ?_; try clear hK10 K10
  refine wp_seq_k fun K24 hK24 => ?_
  refine wp_seq_k fun K25 hK25 => ?_
  refine wp_region_lit ?_
  refine seg ha 3 [(0, .string (bstr a0)), (2, .pointer (some ⟨g3, 0, none⟩)), (33, .bool false)] (by kernel_rfl) fun a ha => ?_
  refine ldA (cs := (cA .u8 8 t21)) ha rfl (by kernel_rfl) rfl rfl rfl (cells_sub (Box.cells hBg3) (all := (cA .u8 8 t21)) [] [] (by kernel_rfl)) fun a ha => ?_
  obtain ⟨t26, H26, H⟩ := bind_some H
  refine cl ha (by rfl) (by kernel_rfl) (by rfl) (by rfl) (by rfl) (rd_Text.walk w22 _ hM hG t21 k _ H26) ?_
  rintro _ w26 ⟨rfl, hc26, hMn⟩ a ha
  have o1 : Ok [] (blkL ao8 ++ ([g3] ++ (M))) w22.heap.size := Ok.nil _ _
  have o2 : Ok (blkL ao8 ++ ([g3] ++ (M))) (blkL ao8 ++ ([g3] ++ (M))) w22.heap.size := (Ok.refl _ _)
  have hG := hG.chg hc26 o1 o2
  have hBg3 := hBg3.chg hc26 (fun h => nomatch h)
  have hM : MS (blkL ao8 ++ ([g3] ++ (M))) w26 := (hM.chg hc26)
  have hC := hC.trans hc26 (Ok.nil _ _)
  refine sgh ha 3 [2, 2, 4] [(2, .pointer (some ⟨g3, 0, none⟩)), (38, .bool (!((bstr t26).toList == (bstr a0).toList)))] (by kernel_rfl) fun a ha => ?_
  refine hK25 _ _ ?_; try clear hK25 K25
  refine cnd ha rfl (fun hc27 => ?_) (fun hc27 => ?_)
  ·have H := ite_t hc27 H
   refine wp_seq_k fun K28 hK28 => ?_
   refine wp_region_lit ?_
   refine opk (v := .agg (cA .u8 8 ([(0 : Int), (0 : Int), (0 : Int), (0 : Int), (0 : Int), (0 : Int), (0 : Int), (0 : Int)] : List Int)).toArray) ha rfl rfl rfl rfl rfl (fun w => by kernel_rfl) fun a ha => ?_
   refine stA (l := (cA .u8 8 ([(0 : Int), (0 : Int), (0 : Int), (0 : Int), (0 : Int), (0 : Int), (0 : Int), (0 : Int)] : List Int))) ha rfl rfl rfl (by kernel_rfl) rfl rfl hBg3 rfl fun a w29 ha hb2 hc30 _ => ?_
   have o1 : Ok [g3] (blkL ao8 ++ ([g3] ++ (M))) w26.heap.size := (fun _ h => .inl (mr (ml h)))
   have o2 : Ok (blkL ao8 ++ ([g3] ++ (M))) (blkL ao8 ++ ([g3] ++ (M))) w26.heap.size := (Ok.refl _ _)
   have hG := hG.chg hc30 o1 o2
   have hM : MS (blkL ao8 ++ ([g3] ++ (M))) w29 := (hM.chg hc30)
   have hC := hC.trans hc30 (fun x h => .inr (e_i5 x h))
   have hBg3 : Box w29 g3 (cA .u8 8 ([(0 : Int), (0 : Int), (0 : Int), (0 : Int), (0 : Int), (0 : Int), (0 : Int), (0 : Int)] : List Int)) := hb2
   refine seg ha 1 [(2, .pointer (some ⟨g3, 0, none⟩)), (3, .int .i64 (4 : Int))] (by kernel_rfl) fun a ha => ?_
   refine hK28 _ _ ?_; try clear hK28 K28
   refine wp_ret ?_
   try simp only [Exit.then, Exit.inBlock]
   have o1 : Ok [] (blkL ao8 ++ ([g3] ++ (M))) w29.heap.size := Ok.nil _ _
   have o2 : Ok (M) (blkL ao8 ++ ([g3] ++ (M))) w29.heap.size := (fun _ h => .inl (mr (mr (h))))
   have hG := hG.chg (Chg.refl [] _) o1 o2
   have hM : MS (M) w29 := (fun x h => hM.chg (Chg.refl [] _) x (mr (mr (h))))
   obtain rfl := Option.some.inj H
   refine rtr ha (res2 rfl (roA ha rfl hBg3 (by kernel_rfl)) (roT ha rfl)) ?_
   exact ⟨rfl, hC, hM⟩
  ·have H := ite_f hc27 H
   refine wp_skip ?_
   refine hK24 _ _ ?_; try clear hK24 K24
   refine wp_seq_k fun K31 hK31 => ?_
   refine wp_region_lit ?_
   refine ldA (cs := (cA .u8 8 t21)) ha rfl (by kernel_rfl) rfl rfl rfl (cells_sub (Box.cells hBg3) (all := (cA .u8 8 t21)) [] [] (by kernel_rfl)) fun a ha => ?_
   refine stA (l := (cA .u8 8 t21)) ha rfl rfl rfl (by kernel_rfl) rfl rfl hBg3 rfl fun a w32 ha hb2 hc33 _ => ?_
   have o1 : Ok [g3] (blkL ao8 ++ ([g3] ++ (M))) w26.heap.size := (fun _ h => .inl (mr (ml h)))
   have o2 : Ok (blkL ao8 ++ ([g3] ++ (M))) (blkL ao8 ++ ([g3] ++ (M))) w26.heap.size := (Ok.refl _ _)
   have hG := hG.chg hc33 o1 o2
   have hM : MS (blkL ao8 ++ ([g3] ++ (M))) w32 := (hM.chg hc33)
   have hC := hC.trans hc33 (fun x h => .inr (e_i5 x h))
   have hBg3 : Box w32 g3 (cA .u8 8 t21) := hb2
   refine seg ha 1 [(2, .pointer (some ⟨g3, 0, none⟩)), (3, .int .i64 (0 : Int))] (by kernel_rfl) fun a ha => ?_
   refine hK31 _ _ ?_; try clear hK31 K31
   refine wp_ret ?_
   try simp only [Exit.then, Exit.inBlock]
   have o1 : Ok [] (blkL ao8 ++ ([g3] ++ (M))) w32.heap.size := Ok.nil _ _
   have o2 : Ok (M) (blkL ao8 ++ ([g3] ++ (M))) w32.heap.size := (fun _ h => .inl (mr (mr (h))))
   have hG := hG.chg (Chg.refl [] _) o1 o2
   have hM : MS (M) w32 := (fun x h => hM.chg (Chg.refl [] _) x (mr (mr (h))))
   obtain rfl := Option.some.inj H
   refine rtr ha (res2 rfl (roA ha rfl hBg3 (by kernel_rfl)) (roT ha rfl)) ?_
   exact ⟨rfl, hC, hM⟩
 ·have H := ite_f hc13 H
  refine wp_seq_k fun K34 hK34 => ?_
  refine wp_region_lit ?_
  refine seg ha 2 [(0, .string (bstr a0)), (2, .pointer (some ⟨g3, 0, none⟩)), (4, .slice ao8 t7.length cap8), (16, .bool ((t7.length : Int) == (3 : Int)))] (by kernel_rfl) fun a ha => ?_
  refine hK34 _ _ ?_; try clear hK34 K34
  refine cnd ha rfl (fun hc35 => ?_) (fun hc35 => ?_)
  ·have H := ite_t hc35 H
   have okS : Ok ([g3]) (blkL ao8 ++ ([g3] ++ (M))) w7.heap.size := (fun _ h => .inl (mr (ml h)))
   have z_f8 := Own.toRSl (M' := ([g3])) f8 okS p_i8_i5
   refine drw (fun w' => Chg ([g3]) w7 w') (by kernel_rfl) fun w36 hc37 _ => ?_
   have hS : Chg ([g3]) w7 w36 := (Chg.refl ([g3]) _).trans hc37 (Ok.nil _ _)
   have o1 : Ok [] (blkL ao8 ++ ([g3] ++ (M))) w7.heap.size := Ok.nil _ _
   have o2 : Ok (blkL ao8 ++ ([g3] ++ (M))) (blkL ao8 ++ ([g3] ++ (M))) w7.heap.size := (Ok.refl _ _)
   have hG := hG.chg hc37 o1 o2
   have f8 := f8.chg hc37 o1 o2 (fun _ _ h => nomatch h) (fun _ h => ml h)
   have hBg3 := hBg3.chg hc37 (fun h => nomatch h)
   have hM : MS (blkL ao8 ++ ([g3] ++ (M))) w36 := (hM.chg hc37)
   have hC := hC.trans hc37 (Ok.nil _ _)
   refine tkpz 0 0 (.slice ao8 t7.length cap8) ha (s := hS) (q := fun a ha => ?_)
   obtain ⟨⟨hx38, hx38'⟩, H⟩ := ite_some H
   obtain ⟨ge39, oe400, cs41, hx38eq, hn44, hR42, hE43⟩ := RSl.elem z_f8 (Int.toNat (0 : Int)) (by omega)
   rw [rd_get] at hR42
   obtain rfl := hR42
   have hE43 : ∀ j v, ([.string (bstr (rd t7 (0 : Int)))] : List Value)[j]? = some v → w7.cell? ⟨ge39, (oe400 + (Int.toNat (0 : Int)) * rStr.sz) + j, none⟩ = some v := hE43
   refine tkz 1 ha (v := .pointer (some ⟨ge39, (oe400 + (Int.toNat (0 : Int)) * rStr.sz), none⟩)) (y := fun w' _ => ix_run (r := rStr) (T := 9) ha (by kernel_rfl) (by kernel_rfl) (by rfl) (by rfl) hx38eq hx38 hx38') (s := hS) (q := fun a ha => ?_)
   refine tkz 2 ha (v := .string (bstr (rd t7 (0 : Int)))) (y := fun w' hs => ld_run ha rfl (by kernel_rfl) (cell_keep hs (Ok.refl _ _) hn44 (hE43 0 (.string (bstr (rd t7 (0 : Int)))) (by kernel_rfl)))) (s := hS) (q := fun a ha => ?_)
   refine tkpz 3 0 (.slice ao8 t7.length cap8) ha (s := hS) (q := fun a ha => ?_)
   obtain ⟨⟨hx45, hx45'⟩, H⟩ := ite_some H
   obtain ⟨ge46, oe470, cs48, hx45eq, hn51, hR49, hE50⟩ := RSl.elem z_f8 (Int.toNat (1 : Int)) (by omega)
   rw [rd_get] at hR49
   obtain rfl := hR49
   have hE50 : ∀ j v, ([.string (bstr (rd t7 (1 : Int)))] : List Value)[j]? = some v → w7.cell? ⟨ge46, (oe470 + (Int.toNat (1 : Int)) * rStr.sz) + j, none⟩ = some v := hE50
   refine tkz 4 ha (v := .pointer (some ⟨ge46, (oe470 + (Int.toNat (1 : Int)) * rStr.sz), none⟩)) (y := fun w' _ => ix_run (r := rStr) (T := 9) ha (by kernel_rfl) (by kernel_rfl) (by rfl) (by rfl) hx45eq hx45 hx45') (s := hS) (q := fun a ha => ?_)
   refine tkz 5 ha (v := .string (bstr (rd t7 (1 : Int)))) (y := fun w' hs => ld_run ha rfl (by kernel_rfl) (cell_keep hs (Ok.refl _ _) hn51 (hE50 0 (.string (bstr (rd t7 (1 : Int)))) (by kernel_rfl)))) (s := hS) (q := fun a ha => ?_)
   refine tkpz 6 0 (.slice ao8 t7.length cap8) ha (s := hS) (q := fun a ha => ?_)
   obtain ⟨⟨hx52, hx52'⟩, H⟩ := ite_some H
   obtain ⟨ge53, oe540, cs55, hx52eq, hn58, hR56, hE57⟩ := RSl.elem z_f8 (Int.toNat (2 : Int)) (by omega)
   rw [rd_get] at hR56
   obtain rfl := hR56
   have hE57 : ∀ j v, ([.string (bstr (rd t7 (2 : Int)))] : List Value)[j]? = some v → w7.cell? ⟨ge53, (oe540 + (Int.toNat (2 : Int)) * rStr.sz) + j, none⟩ = some v := hE57
   refine tkz 7 ha (v := .pointer (some ⟨ge53, (oe540 + (Int.toNat (2 : Int)) * rStr.sz), none⟩)) (y := fun w' _ => ix_run (r := rStr) (T := 9) ha (by kernel_rfl) (by kernel_rfl) (by rfl) (by rfl) hx52eq hx52 hx52') (s := hS) (q := fun a ha => ?_)
   refine tkz 8 ha (v := .string (bstr (rd t7 (2 : Int)))) (y := fun w' hs => ld_run ha rfl (by kernel_rfl) (cell_keep hs (Ok.refl _ _) hn58 (hE57 0 (.string (bstr (rd t7 (2 : Int)))) (by kernel_rfl)))) (s := hS) (q := fun a ha => ?_)
   refine ac 9 (by kernel_rfl) (by rfl) fun K59 hK59 => ?_
   obtain ⟨t60, H60, H⟩ := bind_some H
   refine cl ha (by rfl) (by kernel_rfl) (by rfl) (by rfl) (by rfl) (rd_known.walk w36 _ hM hG (rd t7 (0 : Int)) (rd t7 (1 : Int)) (rd t7 (2 : Int)) k _ H60) ?_
   rintro _ w60 ⟨rfl, hc60, hMn⟩ a ha
   have o1 : Ok [] (blkL ao8 ++ ([g3] ++ (M))) w36.heap.size := Ok.nil _ _
   have o2 : Ok (blkL ao8 ++ ([g3] ++ (M))) (blkL ao8 ++ ([g3] ++ (M))) w36.heap.size := (Ok.refl _ _)
   have hG := hG.chg hc60 o1 o2
   have f8 := f8.chg hc60 o1 o2 (fun _ _ h => nomatch h) (fun _ h => ml h)
   have hBg3 := hBg3.chg hc60 (fun h => nomatch h)
   have hM : MS (blkL ao8 ++ ([g3] ++ (M))) w60 := (hM.chg hc60)
   have hC := hC.trans hc60 (Ok.nil _ _)
   have hS := hS.trans hc60 (Ok.nil _ _)
   refine ae hK59 hS ?_; clear hK59 K59
   refine tkpz 10 0 (.tuple #[.agg (cA .u8 8 t60.1).toArray, .bool t60.2]) ha (s := hS) (q := fun a ha => ?_)
   refine tkpz 11 0 (.agg (cA .u8 8 t60.1).toArray) ha (s := hS) (q := fun a ha => ?_)
   refine tkpz 12 0 (.bool t60.2) ha (s := hS) (q := fun a ha => ?_)
   refine ac 13 (by kernel_rfl) (by rfl) fun K61 hK61 => ?_
   refine stA (l := (cA .u8 8 t60.1)) ha rfl rfl rfl (by kernel_rfl) rfl rfl hBg3 rfl fun a w62 ha hb2 hc63 _ => ?_
   have o1 : Ok [g3] (blkL ao8 ++ ([g3] ++ (M))) w60.heap.size := (fun _ h => .inl (mr (ml h)))
   have o2 : Ok (blkL ao8 ++ ([g3] ++ (M))) (blkL ao8 ++ ([g3] ++ (M))) w60.heap.size := (Ok.refl _ _)
   have hG := hG.chg hc63 o1 o2
   have f8 := f8.chg hc63 o1 o2 p_i8_i5 (fun _ h => ml h)
   have hM : MS (blkL ao8 ++ ([g3] ++ (M))) w62 := (hM.chg hc63)
   have hC := hC.trans hc63 (fun x h => .inr (e_i5 x h))
   have hS := hS.trans hc63 (fun x h => .inl (h))
   have hBg3 : Box w62 g3 (cA .u8 8 t60.1) := hb2
   refine ae hK61 hS ?_; clear hK61 K61
   refine tkpz 14 0 (.bool t60.2) ha (s := hS) (q := fun a ha => ?_)
   refine dn (by kernel_rfl) ?_
   refine hK10 _ _ ?_; try clear hK10 K10
   refine wp_seq_k fun K64 hK64 => ?_
   refine wp_seq_k fun K65 hK65 => ?_
   refine wp_region_lit ?_
   obtain ⟨s66, H66, H⟩ := bind_some H
   have J66 : ∀ (a : Act) (w66 : World), Has a Tryz.f63.ntmps [(2, .pointer (some ⟨g3, 0, none⟩)), (38, .bool s66)] → (Box w66 g3 (cA .u8 8 t60.1)) → (GF w66 ([g3] ++ (M))) → (Chg [] w w66) → (MS ([g3] ++ (M)) w66) → K65 a w66 := by
    intro a w66 ha hBg3 hG hC hM
    refine hK65 _ _ ?_; try clear hK65 K65
    refine cnd ha rfl (fun hc67 => ?_) (fun hc67 => ?_)
    ·have H := ite_t hc67 H
     refine wp_seq_k fun K68 hK68 => ?_
     refine wp_region_lit ?_
     refine opk (v := .agg (cA .u8 8 ([(0 : Int), (0 : Int), (0 : Int), (0 : Int), (0 : Int), (0 : Int), (0 : Int), (0 : Int)] : List Int)).toArray) ha rfl rfl rfl rfl rfl (fun w => by kernel_rfl) fun a ha => ?_
     refine stA (l := (cA .u8 8 ([(0 : Int), (0 : Int), (0 : Int), (0 : Int), (0 : Int), (0 : Int), (0 : Int), (0 : Int)] : List Int))) ha rfl rfl rfl (by kernel_rfl) rfl rfl hBg3 rfl fun a w69 ha hb2 hc70 _ => ?_
     have o1 : Ok [g3] ([g3] ++ (M)) w66.heap.size := (fun _ h => .inl (ml h))
     have o2 : Ok ([g3] ++ (M)) ([g3] ++ (M)) w66.heap.size := (Ok.refl _ _)
     have hG := hG.chg hc70 o1 o2
     have hM : MS ([g3] ++ (M)) w69 := (hM.chg hc70)
     have hC := hC.trans hc70 (fun x h => .inr (e_i5 x h))
     have hBg3 : Box w69 g3 (cA .u8 8 ([(0 : Int), (0 : Int), (0 : Int), (0 : Int), (0 : Int), (0 : Int), (0 : Int), (0 : Int)] : List Int)) := hb2
     refine seg ha 1 [(2, .pointer (some ⟨g3, 0, none⟩)), (3, .int .i64 (4 : Int))] (by kernel_rfl) fun a ha => ?_
     refine hK68 _ _ ?_; try clear hK68 K68
     refine wp_ret ?_
     try simp only [Exit.then, Exit.inBlock]
     have o1 : Ok [] ([g3] ++ (M)) w69.heap.size := Ok.nil _ _
     have o2 : Ok (M) ([g3] ++ (M)) w69.heap.size := (fun _ h => .inl (mr (h)))
     have hG := hG.chg (Chg.refl [] _) o1 o2
     have hM : MS (M) w69 := (fun x h => hM.chg (Chg.refl [] _) x (mr (h)))
     obtain rfl := Option.some.inj H
     refine rtr ha (res2 rfl (roA ha rfl hBg3 (by kernel_rfl)) (roT ha rfl)) ?_
     exact ⟨rfl, hC, hM⟩
    ·have H := ite_f hc67 H
     refine wp_skip ?_
     refine hK64 _ _ ?_; try clear hK64 K64
     refine wp_seq_k fun K71 hK71 => ?_
     refine wp_region_lit ?_
     refine ldA (cs := (cA .u8 8 t60.1)) ha rfl (by kernel_rfl) rfl rfl rfl (cells_sub (Box.cells hBg3) (all := (cA .u8 8 t60.1)) [] [] (by kernel_rfl)) fun a ha => ?_
     refine stA (l := (cA .u8 8 t60.1)) ha rfl rfl rfl (by kernel_rfl) rfl rfl hBg3 rfl fun a w72 ha hb2 hc73 _ => ?_
     have o1 : Ok [g3] ([g3] ++ (M)) w66.heap.size := (fun _ h => .inl (ml h))
     have o2 : Ok ([g3] ++ (M)) ([g3] ++ (M)) w66.heap.size := (Ok.refl _ _)
     have hG := hG.chg hc73 o1 o2
     have hM : MS ([g3] ++ (M)) w72 := (hM.chg hc73)
     have hC := hC.trans hc73 (fun x h => .inr (e_i5 x h))
     have hBg3 : Box w72 g3 (cA .u8 8 t60.1) := hb2
     refine seg ha 1 [(2, .pointer (some ⟨g3, 0, none⟩)), (3, .int .i64 (0 : Int))] (by kernel_rfl) fun a ha => ?_
     refine hK71 _ _ ?_; try clear hK71 K71
     refine wp_ret ?_
     try simp only [Exit.then, Exit.inBlock]
     have o1 : Ok [] ([g3] ++ (M)) w72.heap.size := Ok.nil _ _
     have o2 : Ok (M) ([g3] ++ (M)) w72.heap.size := (fun _ h => .inl (mr (h)))
     have hG := hG.chg (Chg.refl [] _) o1 o2
     have hM : MS (M) w72 := (fun x h => hM.chg (Chg.refl [] _) x (mr (h)))
     obtain rfl := Option.some.inj H
     refine rtr ha (res2 rfl (roA ha rfl hBg3 (by kernel_rfl)) (roT ha rfl)) ?_
     exact ⟨rfl, hC, hM⟩
   have H := H66
   refine seg ha 3 [(33, .bool (!t60.2)), (0, .string (bstr a0)), (2, .pointer (some ⟨g3, 0, none⟩))] (by kernel_rfl) fun a ha => ?_
   rcases Bool.eq_false_or_eq_true (!t60.2) with hb74 | hb74
   ·have ha := ha.lit hb74
    have H := ite_t hb74 H
    refine sgh ha 5 [1, 1, 1, 1, 3] [(2, .pointer (some ⟨g3, 0, none⟩)), (38, .bool true)] (by kernel_rfl) fun a ha => ?_
    obtain rfl := Option.some.inj H
    have o1 : Ok [] (blkL ao8 ++ ([g3] ++ (M))) w62.heap.size := Ok.nil _ _
    have o2 : Ok ([g3] ++ (M)) (blkL ao8 ++ ([g3] ++ (M))) w62.heap.size := (fun _ h => .inl (mr (h)))
    have hG := hG.chg (Chg.refl [] _) o1 o2
    have hM : MS ([g3] ++ (M)) w62 := (fun x h => hM.chg (Chg.refl [] _) x (mr (h)))
    exact J66 _ _ (ha.sel (by kernel_rfl)) hBg3 hG hC hM
   ·have ha := ha.lit hb74
    have H := ite_f hb74 H
    refine ldA (cs := (cA .u8 8 t60.1)) ha rfl (by kernel_rfl) rfl rfl rfl (cells_sub (Box.cells hBg3) (all := (cA .u8 8 t60.1)) [] [] (by kernel_rfl)) fun a ha => ?_
    obtain ⟨t75, H75, H⟩ := bind_some H
    refine cl ha (by rfl) (by kernel_rfl) (by rfl) (by rfl) (by rfl) (rd_Text.walk w62 _ hM hG t60.1 k _ H75) ?_
    rintro _ w75 ⟨rfl, hc75, hMn⟩ a ha
    have o1 : Ok [] (blkL ao8 ++ ([g3] ++ (M))) w62.heap.size := Ok.nil _ _
    have o2 : Ok (blkL ao8 ++ ([g3] ++ (M))) (blkL ao8 ++ ([g3] ++ (M))) w62.heap.size := (Ok.refl _ _)
    have hG := hG.chg hc75 o1 o2
    have hBg3 := hBg3.chg hc75 (fun h => nomatch h)
    have hM : MS (blkL ao8 ++ ([g3] ++ (M))) w75 := (hM.chg hc75)
    have hC := hC.trans hc75 (Ok.nil _ _)
    refine sgh ha 3 [2, 2, 4] [(2, .pointer (some ⟨g3, 0, none⟩)), (38, .bool (!((bstr t75).toList == (bstr a0).toList)))] (by kernel_rfl) fun a ha => ?_
    obtain rfl := Option.some.inj H
    have o1 : Ok [] (blkL ao8 ++ ([g3] ++ (M))) w75.heap.size := Ok.nil _ _
    have o2 : Ok ([g3] ++ (M)) (blkL ao8 ++ ([g3] ++ (M))) w75.heap.size := (fun _ h => .inl (mr (h)))
    have hG := hG.chg (Chg.refl [] _) o1 o2
    have hM : MS ([g3] ++ (M)) w75 := (fun x h => hM.chg (Chg.refl [] _) x (mr (h)))
    exact J66 _ _ (ha.sel (by kernel_rfl)) hBg3 hG hC hM
  ·have H := ite_f hc35 H
   refine wp_region_lit ?_
   refine seg ha 1 [(0, .string (bstr a0)), (2, .pointer (some ⟨g3, 0, none⟩)), (5, .bool false)] (by kernel_rfl) fun a ha => ?_
   refine hK10 _ _ ?_; try clear hK10 K10
   refine wp_seq_k fun K76 hK76 => ?_
   refine wp_seq_k fun K77 hK77 => ?_
   refine wp_region_lit ?_
   refine sgh ha 8 [0, 0, 0, 1, 1, 1, 1, 3] [(2, .pointer (some ⟨g3, 0, none⟩)), (38, .bool true)] (by kernel_rfl) fun a ha => ?_
   refine hK77 _ _ ?_; try clear hK77 K77
   refine cnd ha rfl (fun _ => ?_) (fun h => nomatch h)
   refine wp_seq_k fun K79 hK79 => ?_
   refine wp_region_lit ?_
   refine opk (v := .agg (cA .u8 8 ([(0 : Int), (0 : Int), (0 : Int), (0 : Int), (0 : Int), (0 : Int), (0 : Int), (0 : Int)] : List Int)).toArray) ha rfl rfl rfl rfl rfl (fun w => by kernel_rfl) fun a ha => ?_
   refine stA (l := (cA .u8 8 ([(0 : Int), (0 : Int), (0 : Int), (0 : Int), (0 : Int), (0 : Int), (0 : Int), (0 : Int)] : List Int))) ha rfl rfl rfl (by kernel_rfl) rfl rfl hBg3 rfl fun a w80 ha hb2 hc81 _ => ?_
   have o1 : Ok [g3] (blkL ao8 ++ ([g3] ++ (M))) w7.heap.size := (fun _ h => .inl (mr (ml h)))
   have o2 : Ok (blkL ao8 ++ ([g3] ++ (M))) (blkL ao8 ++ ([g3] ++ (M))) w7.heap.size := (Ok.refl _ _)
   have hG := hG.chg hc81 o1 o2
   have hM : MS (blkL ao8 ++ ([g3] ++ (M))) w80 := (hM.chg hc81)
   have hC := hC.trans hc81 (fun x h => .inr (e_i5 x h))
   have hBg3 : Box w80 g3 (cA .u8 8 ([(0 : Int), (0 : Int), (0 : Int), (0 : Int), (0 : Int), (0 : Int), (0 : Int), (0 : Int)] : List Int)) := hb2
   refine seg ha 1 [(2, .pointer (some ⟨g3, 0, none⟩)), (3, .int .i64 (4 : Int))] (by kernel_rfl) fun a ha => ?_
   refine hK79 _ _ ?_; try clear hK79 K79
   refine wp_ret ?_
   try simp only [Exit.then, Exit.inBlock]
   have o1 : Ok [] (blkL ao8 ++ ([g3] ++ (M))) w80.heap.size := Ok.nil _ _
   have o2 : Ok (M) (blkL ao8 ++ ([g3] ++ (M))) w80.heap.size := (fun _ h => .inl (mr (mr (h))))
   have hG := hG.chg (Chg.refl [] _) o1 o2
   have hM : MS (M) w80 := (fun x h => hM.chg (Chg.refl [] _) x (mr (mr (h))))
   obtain rfl := Option.some.inj H
   refine rtr ha (res2 rfl (roA ha rfl hBg3 (by kernel_rfl)) (roT ha rfl)) ?_
   exact ⟨rfl, hC, hM⟩
def community_number.l0 (a0 : List UInt8) : Nat → Int → Nat → Option ((Int) ⊕ (Int × Nat))
  | 0, _, _ => none
  | kk + 1, x10, x11 => (if x11 < a0.length then (if (if (if (decide (((dec a0 x11).1 : Int) < (48 : Int))) = true then true else (decide (((dec a0 x11).1 : Int) > (57 : Int)))) = true then true else (decide ((x11 : Int) ≥ (10 : Int)))) = true then some (.inl (((-1 : Int) : Int))) else community_number.l0 a0 kk (IntKind.i64.wrap ((IntKind.i64.wrap ((10 : Int) * x10)) + (IntKind.i64.wrap (IntKind.i32.wrap (((dec a0 x11).1 : Int) - (48 : Int)))))) (x11 + (dec a0 x11).2)) else some (.inr ((x10 : Int), (x11 : Nat))))
def community_number.f (k : Nat) (a0 : List UInt8) : Option (Int) := (community_number.l0 a0 k (0 : Int) (0 : Nat)).bind fun s9 => match s9 with | .inl r => some r | .inr s9' => some ((s9'.1 : Int))
set_option maxRecDepth 100000 in
theorem community_number.walk (w : World) (M : List Nat) (hM : MS M w) (a0 : List UInt8) (k : Nat) (r : Int) (H : community_number.f k a0 = some r) :
    To Tryz.prog 66 [.string (bstr a0)] w fun v w' => v = .int .i64 r ∧ Chg [] w w' ∧ MS (M) w' := by
 unfold community_number.f at H
 refine ent Tryz.func66 rfl [(0, .string (bstr a0))] rfl (by rfl) fun a ha => ?_
 have hC : Chg [] w w := Chg.refl _ _
 refine wp_seq_k fun K1 hK1 => ?_
 refine wp_region_lit ?_
 refine seg ha 1 [(0, .string (bstr a0))] (by kernel_rfl) fun a ha => ?_
 refine hK1 _ _ ?_; try clear hK1 K1
 refine wp_seq_k fun K2 hK2 => ?_
 refine wp_region_lit ?_
 refine seg ha 1 [(0, .string (bstr a0)), (3, .int .i64 (0 : Int))] (by kernel_rfl) fun a ha => ?_
 refine hK2 _ _ ?_; try clear hK2 K2
 refine wp_seq_k fun K3 hK3 => ?_
 refine wp_seq_k fun K4 hK4 => ?_
 refine wp_region_lit ?_
 refine seg ha 1 [(3, .int .i64 (0 : Int)), (6, .string (bstr a0))] (by kernel_rfl) fun a ha => ?_
 refine rng (s := a0) ha (by kernel_rfl) rfl rfl rfl rfl fun a w5 g6 hN7 ha => ?_
 have p_i8_M : ∀ x ∈ [g6], x ∉ M := fun x hx hy => absurd (hM x (hy)) (Nat.not_lt.2 ((hN7.ge1) x hx))
 have e_i8 : ∀ x ∈ [g6], w.heap.size ≤ x := fun x hx => Nat.le_trans hC.size ((hN7.ge1) x hx)
 have hM : MS ([g6] ++ (M)) w5 := (MS.app hN7.ms (hM.chg hN7.chg))
 have hC := hC.trans hN7.chg (Ok.nil _ _)
 have hBg6 : Iter w5 g6 a0 0 := hN7.at_
 refine hK4 _ _ ?_; try clear hK4 K4
 refine wp_block ?_
 obtain ⟨s9, H9, H⟩ := bind_some H
 have J9 : ∀ s9' (a : Act) (wx9 : World), s9 = .inr s9' → Has a Tryz.f66.ntmps [(3, .int .i64 s9'.1)] → (Iter wx9 g6 a0 s9'.2) → (Chg [] w wx9) → (MS ([g6] ++ (M)) wx9) → K3 a wx9 := by
  intro s9' a wx9 hs ha hBg6 hC hM
  subst hs
  refine hK3 _ _ ?_; try clear hK3 K3
  refine wp_seq_k fun K12 hK12 => ?_
  refine wp_region_lit ?_
  refine seg ha 2 [(2, .int .i64 s9'.1)] (by kernel_rfl) fun a ha => ?_
  refine hK12 _ _ ?_; try clear hK12 K12
  refine wp_ret ?_
  try simp only [Exit.then, Exit.inBlock]
  have hM : MS (M) wx9 := (fun x h => hM.chg (Chg.refl [] _) x (mr (h)))
  obtain rfl := Option.some.inj H
  refine rt1 ha rfl rfl ?_
  exact ⟨rfl, hC, hM⟩
 have Hc9 := H
 have H := H9
 refine wp_loop_ghost (fun kk a w9 => ∃ (x10 : Int) (x11 : Nat), community_number.l0 a0 kk x10 x11 = some s9 ∧ Has a Tryz.f66.ntmps [(3, .int .i64 x10), (7, .pointer (some ⟨g6, 0, none⟩))] ∧ (Iter w9 g6 a0 x11) ∧ (Chg [] w w9) ∧ (MS ([g6] ++ (M)) w9)) k ?_ ?_
 ·skip
  exact ⟨(0 : Int), (0 : Nat), H, (ha.sel (by kernel_rfl)), hBg6, hC, hM⟩
 ·rintro kk a w9 ⟨x10, x11, H, ha, hBg6, hC, hM⟩
  obtain _ | kk := kk
  ·exact nomatch (show none = some _ from H)
  rw [community_number.l0] at H
  refine wp_seq_k fun K13 hK13 => ?_
  refine wp_region_lit ?_
  by_cases hp14 : x11 < a0.length
  ·have H := (if_pos hp14).symm.trans H
   refine nxt_more ha rfl rfl rfl rfl hBg6 hp14 fun a w14 hI14 hc14 ha => ?_
   have hM : MS ([g6] ++ (M)) w14 := (hM.chg hc14)
   have hC := hC.trans hc14 (fun x h => .inr (e_i8 x h))
   have hBg6 := hI14
   refine seg ha 1 [(3, .int .i64 x10), (7, .pointer (some ⟨g6, 0, none⟩)), (8, .tuple #[.bool true, .int .i64 (x11 : Int), .int .i32 ((dec a0 x11).1 : Int)]), (9, .bool true)] (by kernel_rfl) fun a ha => ?_
   refine hK13 _ _ ?_; try clear hK13 K13
   refine wp_seq_k fun K15 hK15 => ?_
   refine cnd ha rfl (fun _ => ?_) (fun h => nomatch h)
   refine wp_skip ?_
   refine hK15 _ _ ?_; try clear hK15 K15
   refine wp_block ?_
   refine wp_seq_k fun K17 hK17 => ?_
   refine wp_region_lit ?_
   refine seg ha 4 [(3, .int .i64 x10), (4, .int .i64 (x11 : Int)), (5, .int .i32 ((dec a0 x11).1 : Int)), (7, .pointer (some ⟨g6, 0, none⟩))] (by kernel_rfl) fun a ha => ?_
   refine hK17 _ _ ?_; try clear hK17 K17
   refine wp_seq_k fun K18 hK18 => ?_
   refine wp_seq_k fun K19 hK19 => ?_
   refine wp_region_lit ?_
   refine seg ha 10 [(3, .int .i64 x10), (5, .int .i32 ((dec a0 x11).1 : Int)), (7, .pointer (some ⟨g6, 0, none⟩)), (21, .bool (if (if (decide (((dec a0 x11).1 : Int) < (48 : Int))) = true then true else (decide (((dec a0 x11).1 : Int) > (57 : Int)))) = true then true else (decide ((x11 : Int) ≥ (10 : Int)))))] (by kernel_rfl) fun a ha => ?_
   refine hK19 _ _ ?_; try clear hK19 K19
   refine cnd ha rfl (fun hc20 => ?_) (fun hc20 => ?_)
   ·have H := ite_t hc20 H
    refine wp_seq_k fun K21 hK21 => ?_
    refine wp_region_lit ?_
    refine seg ha 1 [(2, .int .i64 (-1 : Int))] (by kernel_rfl) fun a ha => ?_
    refine hK21 _ _ ?_; try clear hK21 K21
    refine wp_ret ?_
    try simp only [Exit.then, Exit.inBlock]
    have hM : MS (M) w14 := (fun x h => hM.chg (Chg.refl [] _) x (mr (h)))
    obtain rfl := Option.some.inj H
    have H := (show some _ = some _ from Hc9)
    obtain rfl := Option.some.inj H
    refine rt1 ha rfl rfl ?_
    exact ⟨rfl, hC, hM⟩
   ·have H := ite_f hc20 H
    refine wp_skip ?_
    refine hK18 _ _ ?_; try clear hK18 K18
    refine wp_region_lit ?_
    refine seg ha 7 [(3, .int .i64 (IntKind.i64.wrap ((IntKind.i64.wrap ((10 : Int) * x10)) + (IntKind.i64.wrap (IntKind.i32.wrap (((dec a0 x11).1 : Int) - (48 : Int))))))), (7, .pointer (some ⟨g6, 0, none⟩))] (by kernel_rfl) fun a ha => ?_
    exact ⟨kk, Nat.lt_succ_self _, ⟨IntKind.i64.wrap ((IntKind.i64.wrap ((10 : Int) * x10)) + (IntKind.i64.wrap (IntKind.i32.wrap (((dec a0 x11).1 : Int) - (48 : Int))))), x11 + (dec a0 x11).2, H, (ha.sel (by kernel_rfl)), hBg6, hC, hM⟩⟩
  ·have H := (if_neg hp14).symm.trans H
   refine nxt_over ha rfl rfl rfl rfl hBg6 hp14 fun a ha => ?_
   refine seg ha 1 [(3, .int .i64 x10), (7, .pointer (some ⟨g6, 0, none⟩)), (8, .tuple #[.bool false]), (9, .bool false)] (by kernel_rfl) fun a ha => ?_
   refine hK13 _ _ ?_; try clear hK13 K13
   refine wp_seq_k fun K22 hK22 => ?_
   refine cnd ha rfl (fun h => nomatch h) (fun _ => ?_)
   refine wp_exit ?_
   simp only [Exit.then, Exit.inBlock, ↓reduceIte, Nat.reduceEqDiff]
   obtain rfl := Option.some.inj H
   exact J9 _ _ _ rfl (ha.sel (by kernel_rfl)) hBg6 hC hM
def community_raw.l0 (a0 : List UInt8) : Nat → (List Int) → Nat → Option ((List Int) ⊕ (List Int × Nat))
  | 0, _, _ => none
  | kk + 1, x13, x14 => (if x14 < a0.length then ((if (decide (((dec a0 x14).1 : Int) ≥ (97 : Int))) = true then some (IntKind.i32.wrap ((IntKind.i32.wrap (((dec a0 x14).1 : Int) - (97 : Int))) + (10 : Int)) : Int) else some (IntKind.i32.wrap (((dec a0 x14).1 : Int) - (48 : Int)) : Int))).bind fun s25 => (if (if (if (decide (s25 < (0 : Int))) = true then true else (decide (s25 > (15 : Int)))) = true then true else (decide ((x14 : Int) ≥ (16 : Int)))) = true then some (.inl ((([(0 : Int), (0 : Int), (0 : Int), (0 : Int), (0 : Int), (0 : Int), (0 : Int), (0 : Int)] : List Int) : List Int))) else (if 0 ≤ (IntKind.i64.wrap (Int.tdiv (x14 : Int) (2 : Int))) ∧ (IntKind.i64.wrap (Int.tdiv (x14 : Int) (2 : Int))) < (8 : Int) then (if 0 ≤ (IntKind.i64.wrap (Int.tdiv (x14 : Int) (2 : Int))) ∧ (IntKind.i64.wrap (Int.tdiv (x14 : Int) (2 : Int))) < (8 : Int) then community_raw.l0 a0 kk ((arL 8 x13).set (Int.toNat (IntKind.i64.wrap (Int.tdiv (x14 : Int) (2 : Int)))) (IntKind.u8.wrap (BitVec.ofInt IntKind.u8.bits (IntKind.u8.wrap ((ar x13 (Int.toNat (IntKind.i64.wrap (Int.tdiv (x14 : Int) (2 : Int))))) * 2 ^ (min (4 : Int).toNat IntKind.u8.bits))) ||| BitVec.ofInt IntKind.u8.bits (IntKind.u8.wrap s25)).toNat)) (x14 + (dec a0 x14).2) else none) else none)) else some (.inr ((x13 : List Int), (x14 : Nat))))
def community_raw.f (k : Nat) (a0 : List UInt8) : Option (List Int) := (community_raw.l0 a0 k (List.replicate 8 (0 : Int)) (0 : Nat)).bind fun s12 => match s12 with | .inl r => some r | .inr s12' => some ((s12'.1 : List Int))
set_option maxRecDepth 100000 in
theorem community_raw.walk (w : World) (M : List Nat) (hM : MS M w) (a0 : List UInt8) (k : Nat) (r : List Int) (H : community_raw.f k a0 = some r) :
    To Tryz.prog 67 [.string (bstr a0)] w fun v w' => v = .agg (cA .u8 8 r).toArray ∧ Chg [] w w' ∧ MS (M) w' := by
 unfold community_raw.f at H
 refine ent Tryz.func67 rfl [(0, .string (bstr a0))] rfl (by rfl) fun a ha => ?_
 have hC : Chg [] w w := Chg.refl _ _
 refine wp_seq_k fun K1 hK1 => ?_
 refine wp_region_lit ?_
 refine al (cs := (cA .u8 8 (List.replicate 8 (0 : Int)))) (z := .agg (cA .u8 8 (List.replicate 8 (0 : Int))).toArray) ha (fun w => by kernel_rfl) rfl rfl rfl rfl fun a w2 g3 hN4 ha => ?_
 have p_i5_M : ∀ x ∈ [g3], x ∉ M := fun x hx hy => absurd (hM x (hy)) (Nat.not_lt.2 ((hN4.ge1) x hx))
 have e_i5 : ∀ x ∈ [g3], w.heap.size ≤ x := fun x hx => Nat.le_trans hC.size ((hN4.ge1) x hx)
 have hM : MS ([g3] ++ (M)) w2 := (MS.app hN4.ms (hM.chg hN4.chg))
 have hC := hC.trans hN4.chg (Ok.nil _ _)
 have hBg3 : Box w2 g3 (cA .u8 8 (List.replicate 8 (0 : Int))) := hN4.box
 refine hK1 _ _ ?_; try clear hK1 K1
 refine wp_seq_k fun K6 hK6 => ?_
 refine wp_seq_k fun K7 hK7 => ?_
 refine wp_region_lit ?_
 refine seg ha 1 [(2, .pointer (some ⟨g3, 0, none⟩)), (6, .string (bstr a0))] (by kernel_rfl) fun a ha => ?_
 refine rng (s := a0) ha (by kernel_rfl) rfl rfl rfl rfl fun a w8 g9 hN10 ha => ?_
 have hBg3 := hBg3.chg hN10.chg (fun h => nomatch h)
 have p_i11_i5 : ∀ x ∈ [g9], x ∉ ([g3]) := fun x hx hy => absurd (hM x (ml hy)) (Nat.not_lt.2 ((hN10.ge1) x hx))
 have p_i11_M : ∀ x ∈ [g9], x ∉ M := fun x hx hy => absurd (hM x (mr (hy))) (Nat.not_lt.2 ((hN10.ge1) x hx))
 have e_i11 : ∀ x ∈ [g9], w.heap.size ≤ x := fun x hx => Nat.le_trans hC.size ((hN10.ge1) x hx)
 have hM : MS ([g9] ++ ([g3] ++ (M))) w8 := (MS.app hN10.ms (hM.chg hN10.chg))
 have hC := hC.trans hN10.chg (Ok.nil _ _)
 have hBg9 : Iter w8 g9 a0 0 := hN10.at_
 refine hK7 _ _ ?_; try clear hK7 K7
 refine wp_block ?_
 obtain ⟨s12, H12, H⟩ := bind_some H
 have J12 : ∀ s12' (a : Act) (wx12 : World), s12 = .inr s12' → Has a Tryz.f67.ntmps [(2, .pointer (some ⟨g3, 0, none⟩))] → (Box wx12 g3 (cA .u8 8 s12'.1)) → (Iter wx12 g9 a0 s12'.2) → (Chg [] w wx12) → (MS ([g9] ++ ([g3] ++ (M))) wx12) → K6 a wx12 := by
  intro s12' a wx12 hs ha hBg3 hBg9 hC hM
  subst hs
  refine hK6 _ _ ?_; try clear hK6 K6
  refine wp_seq_k fun K15 hK15 => ?_
  refine wp_region_lit ?_
  refine ldA (cs := (cA .u8 8 s12'.1)) ha rfl (by kernel_rfl) rfl rfl rfl (cells_sub (Box.cells hBg3) (all := (cA .u8 8 s12'.1)) [] [] (by kernel_rfl)) fun a ha => ?_
  refine stA (l := (cA .u8 8 s12'.1)) ha rfl rfl rfl (by kernel_rfl) rfl rfl hBg3 rfl fun a w16 ha hb2 hc17 _ => ?_
  have hBg9 := hBg9.chg hc17 (p_i11_i5 g9 (by simp))
  have hM : MS ([g9] ++ ([g3] ++ (M))) w16 := (hM.chg hc17)
  have hC := hC.trans hc17 (fun x h => .inr (e_i5 x h))
  have hBg3 : Box w16 g3 (cA .u8 8 s12'.1) := hb2
  refine hK15 _ _ ?_; try clear hK15 K15
  refine wp_ret ?_
  try simp only [Exit.then, Exit.inBlock]
  have hM : MS (M) w16 := (fun x h => hM.chg (Chg.refl [] _) x (mr (mr (h))))
  obtain rfl := Option.some.inj H
  refine rtr ha (res1 rfl (roA ha rfl hBg3 (by kernel_rfl))) ?_
  exact ⟨rfl, hC, hM⟩
 have Hc12 := H
 have H := H12
 refine wp_loop_ghost (fun kk a w12 => ∃ (x13 : List Int) (x14 : Nat), community_raw.l0 a0 kk x13 x14 = some s12 ∧ Has a Tryz.f67.ntmps [(2, .pointer (some ⟨g3, 0, none⟩)), (7, .pointer (some ⟨g9, 0, none⟩))] ∧ (Box w12 g3 (cA .u8 8 x13)) ∧ (Iter w12 g9 a0 x14) ∧ (Chg [] w w12) ∧ (MS ([g9] ++ ([g3] ++ (M))) w12)) k ?_ ?_
 ·skip
  exact ⟨(List.replicate 8 (0 : Int)), (0 : Nat), H, (ha.sel (by kernel_rfl)), hBg3, hBg9, hC, hM⟩
 ·rintro kk a w12 ⟨x13, x14, H, ha, hBg3, hBg9, hC, hM⟩
  obtain _ | kk := kk
  ·exact nomatch (show none = some _ from H)
  rw [community_raw.l0] at H
  refine wp_seq_k fun K18 hK18 => ?_
  refine wp_region_lit ?_
  by_cases hp19 : x14 < a0.length
  ·have H := (if_pos hp19).symm.trans H
   refine nxt_more ha rfl rfl rfl rfl hBg9 hp19 fun a w19 hI19 hc19 ha => ?_
   have hBg3 := hBg3.chg hc19 ((fun x (hx : x ∈ [g3]) (hy : x ∈ [g9]) => p_i11_i5 x hy hx) g3 (by simp))
   have hM : MS ([g9] ++ ([g3] ++ (M))) w19 := (hM.chg hc19)
   have hC := hC.trans hc19 (fun x h => .inr (e_i11 x h))
   have hBg9 := hI19
   refine seg ha 1 [(2, .pointer (some ⟨g3, 0, none⟩)), (7, .pointer (some ⟨g9, 0, none⟩)), (8, .tuple #[.bool true, .int .i64 (x14 : Int), .int .i32 ((dec a0 x14).1 : Int)]), (9, .bool true)] (by kernel_rfl) fun a ha => ?_
   refine hK18 _ _ ?_; try clear hK18 K18
   refine wp_seq_k fun K20 hK20 => ?_
   refine cnd ha rfl (fun _ => ?_) (fun h => nomatch h)
   refine wp_skip ?_
   refine hK20 _ _ ?_; try clear hK20 K20
   refine wp_block ?_
   refine wp_seq_k fun K22 hK22 => ?_
   refine wp_region_lit ?_
   refine seg ha 4 [(2, .pointer (some ⟨g3, 0, none⟩)), (3, .int .i64 (x14 : Int)), (4, .int .i32 ((dec a0 x14).1 : Int)), (7, .pointer (some ⟨g9, 0, none⟩))] (by kernel_rfl) fun a ha => ?_
   refine hK22 _ _ ?_; try clear hK22 K22
   refine wp_seq_k fun K23 hK23 => ?_
   refine wp_region_lit ?_
   refine seg ha 3 [(2, .pointer (some ⟨g3, 0, none⟩)), (3, .int .i64 (x14 : Int)), (4, .int .i32 ((dec a0 x14).1 : Int)), (5, .int .i32 (IntKind.i32.wrap (((dec a0 x14).1 : Int) - (48 : Int)))), (7, .pointer (some ⟨g9, 0, none⟩))] (by kernel_rfl) fun a ha => ?_
   refine hK23 _ _ ?_; try clear hK23 K23
   refine wp_seq_k fun K24 hK24 => ?_
   obtain ⟨s25, H25, H⟩ := bind_some H
   have J25 : ∀ (a : Act) (w25 : World), Has a Tryz.f67.ntmps [(2, .pointer (some ⟨g3, 0, none⟩)), (3, .int .i64 (x14 : Int)), (5, .int .i32 s25), (7, .pointer (some ⟨g9, 0, none⟩))] → (Box w25 g3 (cA .u8 8 x13)) → (Iter w25 g9 a0 (x14 + (dec a0 x14).2)) → (Chg [] w w25) → (MS ([g9] ++ ([g3] ++ (M))) w25) → K24 a w25 := by
    intro a w25 ha hBg3 hBg9 hC hM
    refine hK24 _ _ ?_; try clear hK24 K24
    refine wp_seq_k fun K26 hK26 => ?_
    refine wp_seq_k fun K27 hK27 => ?_
    refine wp_region_lit ?_
    refine seg ha 10 [(2, .pointer (some ⟨g3, 0, none⟩)), (3, .int .i64 (x14 : Int)), (5, .int .i32 s25), (7, .pointer (some ⟨g9, 0, none⟩)), (28, .bool (if (if (decide (s25 < (0 : Int))) = true then true else (decide (s25 > (15 : Int)))) = true then true else (decide ((x14 : Int) ≥ (16 : Int)))))] (by kernel_rfl) fun a ha => ?_
    refine hK27 _ _ ?_; try clear hK27 K27
    refine cnd ha rfl (fun hc28 => ?_) (fun hc28 => ?_)
    ·have H := ite_t hc28 H
     refine wp_seq_k fun K29 hK29 => ?_
     refine wp_region_lit ?_
     refine opk (v := .agg (cA .u8 8 ([(0 : Int), (0 : Int), (0 : Int), (0 : Int), (0 : Int), (0 : Int), (0 : Int), (0 : Int)] : List Int)).toArray) ha rfl rfl rfl rfl rfl (fun w => by kernel_rfl) fun a ha => ?_
     refine stA (l := (cA .u8 8 ([(0 : Int), (0 : Int), (0 : Int), (0 : Int), (0 : Int), (0 : Int), (0 : Int), (0 : Int)] : List Int))) ha rfl rfl rfl (by kernel_rfl) rfl rfl hBg3 rfl fun a w30 ha hb2 hc31 _ => ?_
     have hBg9 := hBg9.chg hc31 (p_i11_i5 g9 (by simp))
     have hM : MS ([g9] ++ ([g3] ++ (M))) w30 := (hM.chg hc31)
     have hC := hC.trans hc31 (fun x h => .inr (e_i5 x h))
     have hBg3 : Box w30 g3 (cA .u8 8 ([(0 : Int), (0 : Int), (0 : Int), (0 : Int), (0 : Int), (0 : Int), (0 : Int), (0 : Int)] : List Int)) := hb2
     refine hK29 _ _ ?_; try clear hK29 K29
     refine wp_ret ?_
     try simp only [Exit.then, Exit.inBlock]
     have hM : MS (M) w30 := (fun x h => hM.chg (Chg.refl [] _) x (mr (mr (h))))
     obtain rfl := Option.some.inj H
     have H := (show some _ = some _ from Hc12)
     obtain rfl := Option.some.inj H
     refine rtr ha (res1 rfl (roA ha rfl hBg3 (by kernel_rfl))) ?_
     exact ⟨rfl, hC, hM⟩
    ·have H := ite_f hc28 H
     refine wp_skip ?_
     refine hK26 _ _ ?_; try clear hK26 K26
     refine wp_region_lit ?_
     refine seg ha 4 [(2, .pointer (some ⟨g3, 0, none⟩)), (5, .int .i32 s25), (7, .pointer (some ⟨g9, 0, none⟩)), (31, .int .i64 (IntKind.i64.wrap (Int.tdiv (x14 : Int) (2 : Int)))), (33, .int .i64 (IntKind.i64.wrap (Int.tdiv (x14 : Int) (2 : Int))))] (by kernel_rfl) fun a ha => ?_
     obtain ⟨⟨hx32, hx32'⟩, H⟩ := ite_some H
     have hi32 : (Int.toNat (IntKind.i64.wrap (Int.tdiv (x14 : Int) (2 : Int)))) < 8 := by omega
     refine hop (v := .pointer (some ⟨g3, 0 + (Int.toNat (IntKind.i64.wrap (Int.tdiv (x14 : Int) (2 : Int)))), none⟩)) (w' := w25) ha rfl rfl rfl (ixA_run (T := 5) (N := 8) (g := g3) (o' := 0) (k := .i64) (i := IntKind.i64.wrap (Int.tdiv (x14 : Int) (2 : Int))) ha (by kernel_rfl) (by kernel_rfl) (by rfl) (by rfl) hx32 hx32' _) fun a ha => ?_
     refine ld (v := .int .u8 (ar x13 (Int.toNat (IntKind.i64.wrap (Int.tdiv (x14 : Int) (2 : Int)))))) ha rfl (by kernel_rfl) rfl rfl rfl (hBg3.cell' (o := 0 + (Int.toNat (IntKind.i64.wrap (Int.tdiv (x14 : Int) (2 : Int))))) rfl (arr_cell (k := .u8) (m := 8) (x := x13) ([] : List Value) ([] : List Value) (by kernel_rfl) hi32)) fun a ha => ?_
     refine seg ha 4 [(2, .pointer (some ⟨g3, 0, none⟩)), (7, .pointer (some ⟨g9, 0, none⟩)), (31, .int .i64 (IntKind.i64.wrap (Int.tdiv (x14 : Int) (2 : Int)))), (39, .int .u8 (IntKind.u8.wrap (BitVec.ofInt IntKind.u8.bits (IntKind.u8.wrap ((ar x13 (Int.toNat (IntKind.i64.wrap (Int.tdiv (x14 : Int) (2 : Int))))) * 2 ^ (min (4 : Int).toNat IntKind.u8.bits))) ||| BitVec.ofInt IntKind.u8.bits (IntKind.u8.wrap s25)).toNat))] (by kernel_rfl) fun a ha => ?_
     obtain ⟨⟨hx33, hx33'⟩, H⟩ := ite_some H
     have hi33 : (Int.toNat (IntKind.i64.wrap (Int.tdiv (x14 : Int) (2 : Int)))) < 8 := by omega
     refine hop (v := .pointer (some ⟨g3, 0 + (Int.toNat (IntKind.i64.wrap (Int.tdiv (x14 : Int) (2 : Int)))), none⟩)) (w' := w25) ha rfl rfl rfl (ixA_run (T := 5) (N := 8) (g := g3) (o' := 0) (k := .i64) (i := IntKind.i64.wrap (Int.tdiv (x14 : Int) (2 : Int))) ha (by kernel_rfl) (by kernel_rfl) (by rfl) (by rfl) hx33 hx33' _) fun a ha => ?_
     refine st (o' := 0 + (Int.toNat (IntKind.i64.wrap (Int.tdiv (x14 : Int) (2 : Int))))) ha rfl rfl rfl (by kernel_rfl) rfl rfl hBg3 (arr_lt (k := .u8) (m := 8) (x := x13) ([] : List Value) ([] : List Value) (by kernel_rfl) hi33) fun a w34 ha hb2 hc35 _ => ?_
     have hBg9 := hBg9.chg hc35 (p_i11_i5 g9 (by simp))
     have hM : MS ([g9] ++ ([g3] ++ (M))) w34 := (hM.chg hc35)
     have hC := hC.trans hc35 (fun x h => .inr (e_i5 x h))
     have hBg3 : Box w34 g3 (cA .u8 8 ((arL 8 x13).set (Int.toNat (IntKind.i64.wrap (Int.tdiv (x14 : Int) (2 : Int)))) (IntKind.u8.wrap (BitVec.ofInt IntKind.u8.bits (IntKind.u8.wrap ((ar x13 (Int.toNat (IntKind.i64.wrap (Int.tdiv (x14 : Int) (2 : Int))))) * 2 ^ (min (4 : Int).toNat IntKind.u8.bits))) ||| BitVec.ofInt IntKind.u8.bits (IntKind.u8.wrap s25)).toNat))) := Box.setA (k := .u8) (m := 8) (x := x13) ([] : List Value) ([] : List Value) hb2 (by kernel_rfl) hi33 (by kernel_rfl)
     exact ⟨kk, Nat.lt_succ_self _, ⟨((arL 8 x13).set (Int.toNat (IntKind.i64.wrap (Int.tdiv (x14 : Int) (2 : Int)))) (IntKind.u8.wrap (BitVec.ofInt IntKind.u8.bits (IntKind.u8.wrap ((ar x13 (Int.toNat (IntKind.i64.wrap (Int.tdiv (x14 : Int) (2 : Int))))) * 2 ^ (min (4 : Int).toNat IntKind.u8.bits))) ||| BitVec.ofInt IntKind.u8.bits (IntKind.u8.wrap s25)).toNat)), x14 + (dec a0 x14).2, H, (ha.sel (by kernel_rfl)), hBg3, hBg9, hC, hM⟩⟩
   have H := H25
   refine wp_seq_k fun K36 hK36 => ?_
   refine wp_region_lit ?_
   refine seg ha 2 [(2, .pointer (some ⟨g3, 0, none⟩)), (3, .int .i64 (x14 : Int)), (4, .int .i32 ((dec a0 x14).1 : Int)), (5, .int .i32 (IntKind.i32.wrap (((dec a0 x14).1 : Int) - (48 : Int)))), (7, .pointer (some ⟨g9, 0, none⟩)), (15, .bool (decide (((dec a0 x14).1 : Int) ≥ (97 : Int))))] (by kernel_rfl) fun a ha => ?_
   refine hK36 _ _ ?_; try clear hK36 K36
   refine cnd ha rfl (fun hc37 => ?_) (fun hc37 => ?_)
   ·have H := ite_t hc37 H
    refine wp_region_lit ?_
    refine seg ha 4 [(2, .pointer (some ⟨g3, 0, none⟩)), (3, .int .i64 (x14 : Int)), (5, .int .i32 (IntKind.i32.wrap ((IntKind.i32.wrap (((dec a0 x14).1 : Int) - (97 : Int))) + (10 : Int)))), (7, .pointer (some ⟨g9, 0, none⟩))] (by kernel_rfl) fun a ha => ?_
    obtain rfl := Option.some.inj H
    exact J25 _ _ (ha.sel (by kernel_rfl)) hBg3 hBg9 hC hM
   ·have H := ite_f hc37 H
    refine wp_skip ?_
    obtain rfl := Option.some.inj H
    exact J25 _ _ (ha.sel (by kernel_rfl)) hBg3 hBg9 hC hM
  ·have H := (if_neg hp19).symm.trans H
   refine nxt_over ha rfl rfl rfl rfl hBg9 hp19 fun a ha => ?_
   refine seg ha 1 [(2, .pointer (some ⟨g3, 0, none⟩)), (7, .pointer (some ⟨g9, 0, none⟩)), (8, .tuple #[.bool false]), (9, .bool false)] (by kernel_rfl) fun a ha => ?_
   refine hK18 _ _ ?_; try clear hK18 K18
   refine wp_seq_k fun K38 hK38 => ?_
   refine cnd ha rfl (fun h => nomatch h) (fun _ => ?_)
   refine wp_exit ?_
   simp only [Exit.then, Exit.inBlock, ↓reduceIte, Nat.reduceEqDiff]
   obtain rfl := Option.some.inj H
   exact J12 _ _ _ rfl (ha.sel (by kernel_rfl)) hBg3 hBg9 hC hM
def community_Parse.f (k : Nat) (a0 : List UInt8) : Option (List Int × Int) := (strings_Cut.f a0 ([58] : List UInt8)).bind fun t7 => (if ((bstr t7.1).toList == (bstr ([114, 116] : List UInt8)).toList) = true then (rd_Parse.f k t7.2.1).bind fun t13 => (rd_Parts.f k t13.1).bind fun t21 => (community_Target.f k t21.1 t21.2.1 t21.2.2.1).bind fun t22 => ((if (t22.2 != (0 : Int)) = true then some (true : Bool) else (community_Text.f k t22.1).bind fun t36 => some (!((bstr t36).toList == (bstr a0).toList) : Bool))).bind fun s27 => (if s27 = true then some ((([(0 : Int), (0 : Int), (0 : Int), (0 : Int), (0 : Int), (0 : Int), (0 : Int), (0 : Int)] : List Int) : List Int), ((4 : Int) : Int)) else some ((t22.1 : List Int), ((0 : Int) : Int))) else (if ((bstr t7.1).toList == (bstr ([105, 109, 112, 111, 114, 116] : List UInt8)).toList) = true then (strings_Cut.f t7.2.1 ([58] : List UInt8)).bind fun t40 => (addr_Parse.f k t40.1).bind fun t42 => (community_number.f k t40.2.1).bind fun t52 => (community_Import.f k t42.1 t52).bind fun t54 => ((if (t54.2 != (0 : Int)) = true then some (true : Bool) else (community_Text.f k t54.1).bind fun t69 => some (!((bstr t69).toList == (bstr a0).toList) : Bool))).bind fun s60 => (if s60 = true then some ((([(0 : Int), (0 : Int), (0 : Int), (0 : Int), (0 : Int), (0 : Int), (0 : Int), (0 : Int)] : List Int) : List Int), ((4 : Int) : Int)) else some ((t54.1 : List Int), ((0 : Int) : Int))) else (if ((bstr t7.1).toList == (bstr ([115, 111, 117, 114, 99, 101] : List UInt8)).toList) = true then (community_number.f k t7.2.1).bind fun t72 => (community_Source.f k t72).bind fun t73 => ((if (t73.2 != (0 : Int)) = true then some (true : Bool) else (community_Text.f k t73.1).bind fun t87 => some (!((bstr t87).toList == (bstr a0).toList) : Bool))).bind fun s78 => (if s78 = true then some ((([(0 : Int), (0 : Int), (0 : Int), (0 : Int), (0 : Int), (0 : Int), (0 : Int), (0 : Int)] : List Int) : List Int), ((4 : Int) : Int)) else some ((t73.1 : List Int), ((0 : Int) : Int))) else (community_raw.f k t7.2.1).bind fun t88 => ((if ((0 : Int) != (0 : Int)) = true then some (true : Bool) else (community_Text.f k t88).bind fun t102 => some (!((bstr t102).toList == (bstr a0).toList) : Bool))).bind fun s93 => (if s93 = true then some ((([(0 : Int), (0 : Int), (0 : Int), (0 : Int), (0 : Int), (0 : Int), (0 : Int), (0 : Int)] : List Int) : List Int), ((4 : Int) : Int)) else some ((t88 : List Int), ((0 : Int) : Int))))))
set_option maxRecDepth 100000 in
theorem community_Parse.walk (w : World) (M : List Nat) (hM : MS M w) (hG : GF w M) (a0 : List UInt8) (k : Nat) (r : List Int × Int) (H : community_Parse.f k a0 = some r) :
    To Tryz.prog 31 [.string (bstr a0)] w fun v w' => v = .tuple #[.agg (cA .u8 8 r.1).toArray, .int .i64 r.2] ∧ Chg [] w w' ∧ MS (M) w' := by
 unfold community_Parse.f at H
 refine ent Tryz.func31 rfl [(0, .string (bstr a0))] rfl (by rfl) fun a ha => ?_
 have hC : Chg [] w w := Chg.refl _ _
 refine wp_seq_k fun K1 hK1 => ?_
 refine wp_region_lit ?_
 refine al (cs := (cA .u8 8 (List.replicate 8 (0 : Int)))) (z := .agg (cA .u8 8 (List.replicate 8 (0 : Int))).toArray) ha (fun w => by kernel_rfl) rfl rfl rfl rfl fun a w2 g3 hN4 ha => ?_
 have o1 : Ok [] (M) w.heap.size := Ok.nil _ _
 have o2 : Ok ([g3] ++ (M)) (M) w.heap.size := (Ok.app (hN4.ok _) (Ok.refl _ _))
 have hG := hG.chg hN4.chg o1 o2
 have p_i5_M : ∀ x ∈ [g3], x ∉ M := fun x hx hy => absurd (hM x (hy)) (Nat.not_lt.2 ((hN4.ge1) x hx))
 have e_i5 : ∀ x ∈ [g3], w.heap.size ≤ x := fun x hx => Nat.le_trans hC.size ((hN4.ge1) x hx)
 have hM : MS ([g3] ++ (M)) w2 := (MS.app hN4.ms (hM.chg hN4.chg))
 have hC := hC.trans hN4.chg (Ok.nil _ _)
 have hBg3 : Box w2 g3 (cA .u8 8 (List.replicate 8 (0 : Int))) := hN4.box
 refine seg ha 1 [(0, .string (bstr a0)), (2, .pointer (some ⟨g3, 0, none⟩)), (3, .int .i64 (0 : Int))] (by kernel_rfl) fun a ha => ?_
 refine hK1 _ _ ?_; try clear hK1 K1
 refine wp_seq_k fun K6 hK6 => ?_
 refine wp_region_lit ?_
 refine seg ha 1 [(0, .string (bstr a0)), (2, .pointer (some ⟨g3, 0, none⟩)), (3, .int .i64 (0 : Int)), (19, .string (bstr a0))] (by kernel_rfl) fun a ha => ?_
 obtain ⟨t7, H7, H⟩ := bind_some H
 refine cl ha (by rfl) (by kernel_rfl) (by rfl) (by rfl) (by rfl) (strings_Cut.walk w2 _ hM hG a0 ([58] : List UInt8) _ H7) ?_
 rintro _ w7 ⟨rfl, hc7, hMn⟩ a ha
 have o1 : Ok [] ([g3] ++ (M)) w2.heap.size := Ok.nil _ _
 have o2 : Ok ([g3] ++ (M)) ([g3] ++ (M)) w2.heap.size := (Ok.refl _ _)
 have hG := hG.chg hc7 o1 o2
 have hBg3 := hBg3.chg hc7 (fun h => nomatch h)
 have hM : MS ([g3] ++ (M)) w7 := (hM.chg hc7)
 have hC := hC.trans hc7 (Ok.nil _ _)
 refine seg ha 7 [(0, .string (bstr a0)), (2, .pointer (some ⟨g3, 0, none⟩)), (3, .int .i64 (0 : Int)), (4, .string (bstr t7.1)), (5, .string (bstr t7.2.1))] (by kernel_rfl) fun a ha => ?_
 refine hK6 _ _ ?_; try clear hK6 K6
 refine wp_seq_k fun K8 hK8 => ?_
 refine wp_seq_k fun K9 hK9 => ?_
 refine wp_region_lit ?_
 refine seg ha 1 [(0, .string (bstr a0)), (2, .pointer (some ⟨g3, 0, none⟩)), (3, .int .i64 (0 : Int)), (5, .string (bstr t7.2.1)), (24, .string (bstr t7.1))] (by kernel_rfl) fun a ha => ?_
 refine hK9 _ _ ?_; try clear hK9 K9
 refine wp_block ?_
 refine wp_seq_k fun K10 hK10 => ?_
 refine wp_region_lit ?_
 refine seg ha 2 [(0, .string (bstr a0)), (2, .pointer (some ⟨g3, 0, none⟩)), (3, .int .i64 (0 : Int)), (5, .string (bstr t7.2.1)), (24, .string (bstr t7.1)), (27, .bool ((bstr t7.1).toList == (bstr ([114, 116] : List UInt8)).toList))] (by kernel_rfl) fun a ha => ?_
 refine hK10 _ _ ?_; try clear hK10 K10
 refine cnd ha rfl (fun hc11 => ?_) (fun hc11 => ?_)
 ·have H := ite_t hc11 H
  refine wp_seq_k fun K12 hK12 => ?_
  refine wp_region_lit ?_
  refine seg ha 1 [(0, .string (bstr a0)), (2, .pointer (some ⟨g3, 0, none⟩)), (30, .string (bstr t7.2.1))] (by kernel_rfl) fun a ha => ?_
  obtain ⟨t13, H13, H⟩ := bind_some H
  refine cl ha (by rfl) (by kernel_rfl) (by rfl) (by rfl) (by rfl) (rd_Parse.walk w7 _ hM hG t7.2.1 k _ H13) ?_
  rintro _ w13 ⟨rfl, hc13, hMn⟩ a ha
  have o1 : Ok [] ([g3] ++ (M)) w7.heap.size := Ok.nil _ _
  have o2 : Ok ([g3] ++ (M)) ([g3] ++ (M)) w7.heap.size := (Ok.refl _ _)
  have hG := hG.chg hc13 o1 o2
  have hBg3 := hBg3.chg hc13 (fun h => nomatch h)
  have hM : MS ([g3] ++ (M)) w13 := (hM.chg hc13)
  have hC := hC.trans hc13 (Ok.nil _ _)
  refine seg ha 3 [(0, .string (bstr a0)), (2, .pointer (some ⟨g3, 0, none⟩)), (32, .agg (cA .u8 8 t13.1).toArray), (33, .int .i64 t13.2)] (by kernel_rfl) fun a ha => ?_
  refine al (cs := (cA .u8 8 (List.replicate 8 (0 : Int)))) (z := .agg (cA .u8 8 (List.replicate 8 (0 : Int))).toArray) ha (fun w => by kernel_rfl) rfl rfl rfl rfl fun a w14 g15 hN16 ha => ?_
  have o1 : Ok [] ([g3] ++ (M)) w13.heap.size := Ok.nil _ _
  have o2 : Ok ([g15] ++ ([g3] ++ (M))) ([g3] ++ (M)) w13.heap.size := (Ok.app (hN16.ok _) (Ok.refl _ _))
  have hG := hG.chg hN16.chg o1 o2
  have hBg3 := hBg3.chg hN16.chg (fun h => nomatch h)
  have p_i17_i5 : ∀ x ∈ [g15], x ∉ ([g3]) := fun x hx hy => absurd (hM x (ml hy)) (Nat.not_lt.2 ((hN16.ge1) x hx))
  have p_i17_M : ∀ x ∈ [g15], x ∉ M := fun x hx hy => absurd (hM x (mr (hy))) (Nat.not_lt.2 ((hN16.ge1) x hx))
  have e_i17 : ∀ x ∈ [g15], w.heap.size ≤ x := fun x hx => Nat.le_trans hC.size ((hN16.ge1) x hx)
  have hM : MS ([g15] ++ ([g3] ++ (M))) w14 := (MS.app hN16.ms (hM.chg hN16.chg))
  have hC := hC.trans hN16.chg (Ok.nil _ _)
  have hBg15 : Box w14 g15 (cA .u8 8 (List.replicate 8 (0 : Int))) := hN16.box
  refine stA (l := (cA .u8 8 t13.1)) ha rfl rfl rfl (by kernel_rfl) rfl rfl hBg15 rfl fun a w18 ha hb2 hc19 _ => ?_
  have o1 : Ok [g15] ([g15] ++ ([g3] ++ (M))) w14.heap.size := (fun _ h => .inl (ml h))
  have o2 : Ok ([g15] ++ ([g3] ++ (M))) ([g15] ++ ([g3] ++ (M))) w14.heap.size := (Ok.refl _ _)
  have hG := hG.chg hc19 o1 o2
  have hBg3 := hBg3.chg hc19 ((fun x (hx : x ∈ [g3]) (hy : x ∈ [g15]) => p_i17_i5 x hy hx) g3 (by simp))
  have hM : MS ([g15] ++ ([g3] ++ (M))) w18 := (hM.chg hc19)
  have hC := hC.trans hc19 (fun x h => .inr (e_i17 x h))
  have hBg15 : Box w18 g15 (cA .u8 8 t13.1) := hb2
  refine seg ha 1 [(0, .string (bstr a0)), (2, .pointer (some ⟨g3, 0, none⟩)), (7, .pointer (some ⟨g15, 0, none⟩))] (by kernel_rfl) fun a ha => ?_
  refine hK12 _ _ ?_; try clear hK12 K12
  refine wp_seq_k fun K20 hK20 => ?_
  refine wp_region_lit ?_
  refine ldA (cs := (cA .u8 8 t13.1)) ha rfl (by kernel_rfl) rfl rfl rfl (cells_sub (Box.cells hBg15) (all := (cA .u8 8 t13.1)) [] [] (by kernel_rfl)) fun a ha => ?_
  obtain ⟨t21, H21, H⟩ := bind_some H
  refine cl ha (by rfl) (by kernel_rfl) (by rfl) (by rfl) (by rfl) (rd_Parts.walk w18 _ hM t13.1 k _ H21) ?_
  rintro _ w21 ⟨rfl, hc21, hMn⟩ a ha
  have o1 : Ok [] ([g15] ++ ([g3] ++ (M))) w18.heap.size := Ok.nil _ _
  have o2 : Ok ([g15] ++ ([g3] ++ (M))) ([g15] ++ ([g3] ++ (M))) w18.heap.size := (Ok.refl _ _)
  have hG := hG.chg hc21 o1 o2
  have hBg3 := hBg3.chg hc21 (fun h => nomatch h)
  have hBg15 := hBg15.chg hc21 (fun h => nomatch h)
  have hM : MS ([g15] ++ ([g3] ++ (M))) w21 := (hM.chg hc21)
  have hC := hC.trans hc21 (Ok.nil _ _)
  refine seg ha 9 [(0, .string (bstr a0)), (2, .pointer (some ⟨g3, 0, none⟩)), (9, .int .i64 t21.1), (10, .int .i64 t21.2.1), (11, .int .i64 t21.2.2.1)] (by kernel_rfl) fun a ha => ?_
  refine hK20 _ _ ?_; try clear hK20 K20
  refine wp_region_lit ?_
  refine seg ha 3 [(0, .string (bstr a0)), (2, .pointer (some ⟨g3, 0, none⟩)), (42, .int .i64 t21.1), (43, .int .i64 t21.2.1), (44, .int .i64 t21.2.2.1)] (by kernel_rfl) fun a ha => ?_
  obtain ⟨t22, H22, H⟩ := bind_some H
  refine cl ha (by rfl) (by kernel_rfl) (by rfl) (by rfl) (by rfl) (community_Target.walk w21 _ hM t21.1 t21.2.1 t21.2.2.1 k _ H22) ?_
  rintro _ w22 ⟨rfl, hc22, hMn⟩ a ha
  have o1 : Ok [] ([g15] ++ ([g3] ++ (M))) w21.heap.size := Ok.nil _ _
  have o2 : Ok ([g15] ++ ([g3] ++ (M))) ([g15] ++ ([g3] ++ (M))) w21.heap.size := (Ok.refl _ _)
  have hG := hG.chg hc22 o1 o2
  have hBg3 := hBg3.chg hc22 (fun h => nomatch h)
  have hBg15 := hBg15.chg hc22 (fun h => nomatch h)
  have hM : MS ([g15] ++ ([g3] ++ (M))) w22 := (hM.chg hc22)
  have hC := hC.trans hc22 (Ok.nil _ _)
  refine seg ha 3 [(0, .string (bstr a0)), (2, .pointer (some ⟨g3, 0, none⟩)), (46, .agg (cA .u8 8 t22.1).toArray), (47, .int .i64 t22.2)] (by kernel_rfl) fun a ha => ?_
  refine stA (l := (cA .u8 8 t22.1)) ha rfl rfl rfl (by kernel_rfl) rfl rfl hBg3 rfl fun a w23 ha hb2 hc24 _ => ?_
  have o1 : Ok [g3] ([g15] ++ ([g3] ++ (M))) w22.heap.size := (fun _ h => .inl (mr (ml h)))
  have o2 : Ok ([g15] ++ ([g3] ++ (M))) ([g15] ++ ([g3] ++ (M))) w22.heap.size := (Ok.refl _ _)
  have hG := hG.chg hc24 o1 o2
  have hBg15 := hBg15.chg hc24 (p_i17_i5 g15 (by simp))
  have hM : MS ([g15] ++ ([g3] ++ (M))) w23 := (hM.chg hc24)
  have hC := hC.trans hc24 (fun x h => .inr (e_i5 x h))
  have hBg3 : Box w23 g3 (cA .u8 8 t22.1) := hb2
  refine seg ha 1 [(0, .string (bstr a0)), (2, .pointer (some ⟨g3, 0, none⟩)), (3, .int .i64 t22.2)] (by kernel_rfl) fun a ha => ?_
  refine hK8 _ _ ?_; try clear hK8 K8
  refine wp_seq_k fun K25 hK25 => ?_
  refine wp_seq_k fun K26 hK26 => ?_
  refine wp_region_lit ?_
  obtain ⟨s27, H27, H⟩ := bind_some H
  have J27 : ∀ (a : Act) (w27 : World), Has a Tryz.f31.ntmps [(2, .pointer (some ⟨g3, 0, none⟩)), (83, .bool s27)] → (Box w27 g3 (cA .u8 8 t22.1)) → (Box w27 g15 (cA .u8 8 t13.1)) → (GF w27 ([g15] ++ ([g3] ++ (M)))) → (Chg [] w w27) → (MS ([g15] ++ ([g3] ++ (M))) w27) → K26 a w27 := by
   intro a w27 ha hBg3 hBg15 hG hC hM
   refine hK26 _ _ ?_; try clear hK26 K26
   refine cnd ha rfl (fun hc28 => ?_) (fun hc28 => ?_)
   ·have H := ite_t hc28 H
    refine wp_seq_k fun K29 hK29 => ?_
    refine wp_region_lit ?_
    refine opk (v := .agg (cA .u8 8 ([(0 : Int), (0 : Int), (0 : Int), (0 : Int), (0 : Int), (0 : Int), (0 : Int), (0 : Int)] : List Int)).toArray) ha rfl rfl rfl rfl rfl (fun w => by kernel_rfl) fun a ha => ?_
    refine stA (l := (cA .u8 8 ([(0 : Int), (0 : Int), (0 : Int), (0 : Int), (0 : Int), (0 : Int), (0 : Int), (0 : Int)] : List Int))) ha rfl rfl rfl (by kernel_rfl) rfl rfl hBg3 rfl fun a w30 ha hb2 hc31 _ => ?_
    have o1 : Ok [g3] ([g15] ++ ([g3] ++ (M))) w27.heap.size := (fun _ h => .inl (mr (ml h)))
    have o2 : Ok ([g15] ++ ([g3] ++ (M))) ([g15] ++ ([g3] ++ (M))) w27.heap.size := (Ok.refl _ _)
    have hG := hG.chg hc31 o1 o2
    have hBg15 := hBg15.chg hc31 (p_i17_i5 g15 (by simp))
    have hM : MS ([g15] ++ ([g3] ++ (M))) w30 := (hM.chg hc31)
    have hC := hC.trans hc31 (fun x h => .inr (e_i5 x h))
    have hBg3 : Box w30 g3 (cA .u8 8 ([(0 : Int), (0 : Int), (0 : Int), (0 : Int), (0 : Int), (0 : Int), (0 : Int), (0 : Int)] : List Int)) := hb2
    refine seg ha 1 [(2, .pointer (some ⟨g3, 0, none⟩)), (3, .int .i64 (4 : Int))] (by kernel_rfl) fun a ha => ?_
    refine hK29 _ _ ?_; try clear hK29 K29
    refine wp_ret ?_
    try simp only [Exit.then, Exit.inBlock]
    have o1 : Ok [] ([g15] ++ ([g3] ++ (M))) w30.heap.size := Ok.nil _ _
    have o2 : Ok (M) ([g15] ++ ([g3] ++ (M))) w30.heap.size := (fun _ h => .inl (mr (mr (h))))
    have hG := hG.chg (Chg.refl [] _) o1 o2
    have hM : MS (M) w30 := (fun x h => hM.chg (Chg.refl [] _) x (mr (mr (h))))
    obtain rfl := Option.some.inj H
    refine rtr ha (res2 rfl (roA ha rfl hBg3 (by kernel_rfl)) (roT ha rfl)) ?_
    exact ⟨rfl, hC, hM⟩
   ·have H := ite_f hc28 H
    refine wp_skip ?_
    refine hK25 _ _ ?_; try clear hK25 K25
    refine wp_seq_k fun K32 hK32 => ?_
    refine wp_region_lit ?_
    refine ldA (cs := (cA .u8 8 t22.1)) ha rfl (by kernel_rfl) rfl rfl rfl (cells_sub (Box.cells hBg3) (all := (cA .u8 8 t22.1)) [] [] (by kernel_rfl)) fun a ha => ?_
    refine stA (l := (cA .u8 8 t22.1)) ha rfl rfl rfl (by kernel_rfl) rfl rfl hBg3 rfl fun a w33 ha hb2 hc34 _ => ?_
    have o1 : Ok [g3] ([g15] ++ ([g3] ++ (M))) w27.heap.size := (fun _ h => .inl (mr (ml h)))
    have o2 : Ok ([g15] ++ ([g3] ++ (M))) ([g15] ++ ([g3] ++ (M))) w27.heap.size := (Ok.refl _ _)
    have hG := hG.chg hc34 o1 o2
    have hBg15 := hBg15.chg hc34 (p_i17_i5 g15 (by simp))
    have hM : MS ([g15] ++ ([g3] ++ (M))) w33 := (hM.chg hc34)
    have hC := hC.trans hc34 (fun x h => .inr (e_i5 x h))
    have hBg3 : Box w33 g3 (cA .u8 8 t22.1) := hb2
    refine seg ha 1 [(2, .pointer (some ⟨g3, 0, none⟩)), (3, .int .i64 (0 : Int))] (by kernel_rfl) fun a ha => ?_
    refine hK32 _ _ ?_; try clear hK32 K32
    refine wp_ret ?_
    try simp only [Exit.then, Exit.inBlock]
    have o1 : Ok [] ([g15] ++ ([g3] ++ (M))) w33.heap.size := Ok.nil _ _
    have o2 : Ok (M) ([g15] ++ ([g3] ++ (M))) w33.heap.size := (fun _ h => .inl (mr (mr (h))))
    have hG := hG.chg (Chg.refl [] _) o1 o2
    have hM : MS (M) w33 := (fun x h => hM.chg (Chg.refl [] _) x (mr (mr (h))))
    obtain rfl := Option.some.inj H
    refine rtr ha (res2 rfl (roA ha rfl hBg3 (by kernel_rfl)) (roT ha rfl)) ?_
    exact ⟨rfl, hC, hM⟩
  have H := H27
  refine seg ha 3 [(78, .bool (t22.2 != (0 : Int))), (0, .string (bstr a0)), (2, .pointer (some ⟨g3, 0, none⟩))] (by kernel_rfl) fun a ha => ?_
  rcases Bool.eq_false_or_eq_true (t22.2 != (0 : Int)) with hb35 | hb35
  ·have ha := ha.lit hb35
   have H := ite_t hb35 H
   refine sgh ha 5 [1, 1, 1, 1, 3] [(2, .pointer (some ⟨g3, 0, none⟩)), (83, .bool true)] (by kernel_rfl) fun a ha => ?_
   obtain rfl := Option.some.inj H
   exact J27 _ _ (ha.sel (by kernel_rfl)) hBg3 hBg15 hG hC hM
  ·have ha := ha.lit hb35
   have H := ite_f hb35 H
   refine ldA (cs := (cA .u8 8 t22.1)) ha rfl (by kernel_rfl) rfl rfl rfl (cells_sub (Box.cells hBg3) (all := (cA .u8 8 t22.1)) [] [] (by kernel_rfl)) fun a ha => ?_
   obtain ⟨t36, H36, H⟩ := bind_some H
   refine cl ha (by rfl) (by kernel_rfl) (by rfl) (by rfl) (by rfl) (community_Text.walk w23 _ hM hG t22.1 k _ H36) ?_
   rintro _ w36 ⟨rfl, hc36, hMn⟩ a ha
   have o1 : Ok [] ([g15] ++ ([g3] ++ (M))) w23.heap.size := Ok.nil _ _
   have o2 : Ok ([g15] ++ ([g3] ++ (M))) ([g15] ++ ([g3] ++ (M))) w23.heap.size := (Ok.refl _ _)
   have hG := hG.chg hc36 o1 o2
   have hBg3 := hBg3.chg hc36 (fun h => nomatch h)
   have hBg15 := hBg15.chg hc36 (fun h => nomatch h)
   have hM : MS ([g15] ++ ([g3] ++ (M))) w36 := (hM.chg hc36)
   have hC := hC.trans hc36 (Ok.nil _ _)
   refine sgh ha 3 [2, 2, 4] [(2, .pointer (some ⟨g3, 0, none⟩)), (83, .bool (!((bstr t36).toList == (bstr a0).toList)))] (by kernel_rfl) fun a ha => ?_
   obtain rfl := Option.some.inj H
   exact J27 _ _ (ha.sel (by kernel_rfl)) hBg3 hBg15 hG hC hM
 ·have H := ite_f hc11 H
  refine wp_seq_k fun K37 hK37 => ?_
  refine wp_region_lit ?_
  refine seg ha 2 [(0, .string (bstr a0)), (2, .pointer (some ⟨g3, 0, none⟩)), (3, .int .i64 (0 : Int)), (5, .string (bstr t7.2.1)), (24, .string (bstr t7.1)), (48, .bool ((bstr t7.1).toList == (bstr ([105, 109, 112, 111, 114, 116] : List UInt8)).toList))] (by kernel_rfl) fun a ha => ?_
  refine hK37 _ _ ?_; try clear hK37 K37
  refine cnd ha rfl (fun hc38 => ?_) (fun hc38 => ?_)
  ·have H := ite_t hc38 H
   refine wp_seq_k fun K39 hK39 => ?_
   refine wp_region_lit ?_
   refine seg ha 1 [(0, .string (bstr a0)), (2, .pointer (some ⟨g3, 0, none⟩)), (51, .string (bstr t7.2.1))] (by kernel_rfl) fun a ha => ?_
   obtain ⟨t40, H40, H⟩ := bind_some H
   refine cl ha (by rfl) (by kernel_rfl) (by rfl) (by rfl) (by rfl) (strings_Cut.walk w7 _ hM hG t7.2.1 ([58] : List UInt8) _ H40) ?_
   rintro _ w40 ⟨rfl, hc40, hMn⟩ a ha
   have o1 : Ok [] ([g3] ++ (M)) w7.heap.size := Ok.nil _ _
   have o2 : Ok ([g3] ++ (M)) ([g3] ++ (M)) w7.heap.size := (Ok.refl _ _)
   have hG := hG.chg hc40 o1 o2
   have hBg3 := hBg3.chg hc40 (fun h => nomatch h)
   have hM : MS ([g3] ++ (M)) w40 := (hM.chg hc40)
   have hC := hC.trans hc40 (Ok.nil _ _)
   refine seg ha 7 [(0, .string (bstr a0)), (2, .pointer (some ⟨g3, 0, none⟩)), (13, .string (bstr t40.1)), (14, .string (bstr t40.2.1))] (by kernel_rfl) fun a ha => ?_
   refine hK39 _ _ ?_; try clear hK39 K39
   refine wp_seq_k fun K41 hK41 => ?_
   refine wp_region_lit ?_
   refine seg ha 1 [(0, .string (bstr a0)), (2, .pointer (some ⟨g3, 0, none⟩)), (14, .string (bstr t40.2.1)), (57, .string (bstr t40.1))] (by kernel_rfl) fun a ha => ?_
   obtain ⟨t42, H42, H⟩ := bind_some H
   refine cl ha (by rfl) (by kernel_rfl) (by rfl) (by rfl) (by rfl) (addr_Parse.walk w40 _ hM hG t40.1 k _ H42) ?_
   rintro _ w42 ⟨rfl, hc42, hMn⟩ a ha
   have o1 : Ok [] ([g3] ++ (M)) w40.heap.size := Ok.nil _ _
   have o2 : Ok ([g3] ++ (M)) ([g3] ++ (M)) w40.heap.size := (Ok.refl _ _)
   have hG := hG.chg hc42 o1 o2
   have hBg3 := hBg3.chg hc42 (fun h => nomatch h)
   have hM : MS ([g3] ++ (M)) w42 := (hM.chg hc42)
   have hC := hC.trans hc42 (Ok.nil _ _)
   refine seg ha 3 [(0, .string (bstr a0)), (2, .pointer (some ⟨g3, 0, none⟩)), (14, .string (bstr t40.2.1)), (59, .agg (cS_api_Addr t42.1).toArray), (60, .int .i64 t42.2)] (by kernel_rfl) fun a ha => ?_
   refine al (cs := (cS_api_Addr (⟨(0 : Int), (List.replicate 16 (0 : Int))⟩ : S_api_Addr))) (z := .agg (cS_api_Addr (⟨(0 : Int), (List.replicate 16 (0 : Int))⟩ : S_api_Addr)).toArray) ha (fun w => by kernel_rfl) rfl rfl rfl rfl fun a w43 g44 hN45 ha => ?_
   have o1 : Ok [] ([g3] ++ (M)) w42.heap.size := Ok.nil _ _
   have o2 : Ok ([g44] ++ ([g3] ++ (M))) ([g3] ++ (M)) w42.heap.size := (Ok.app (hN45.ok _) (Ok.refl _ _))
   have hG := hG.chg hN45.chg o1 o2
   have hBg3 := hBg3.chg hN45.chg (fun h => nomatch h)
   have p_i46_i5 : ∀ x ∈ [g44], x ∉ ([g3]) := fun x hx hy => absurd (hM x (ml hy)) (Nat.not_lt.2 ((hN45.ge1) x hx))
   have p_i46_M : ∀ x ∈ [g44], x ∉ M := fun x hx hy => absurd (hM x (mr (hy))) (Nat.not_lt.2 ((hN45.ge1) x hx))
   have e_i46 : ∀ x ∈ [g44], w.heap.size ≤ x := fun x hx => Nat.le_trans hC.size ((hN45.ge1) x hx)
   have hM : MS ([g44] ++ ([g3] ++ (M))) w43 := (MS.app hN45.ms (hM.chg hN45.chg))
   have hC := hC.trans hN45.chg (Ok.nil _ _)
   have hBg44 : Box w43 g44 (cS_api_Addr (⟨(0 : Int), (List.replicate 16 (0 : Int))⟩ : S_api_Addr)) := hN45.box
   refine stA (l := (cS_api_Addr t42.1)) ha rfl rfl rfl (by kernel_rfl) rfl rfl hBg44 rfl fun a w47 ha hb2 hc48 _ => ?_
   have o1 : Ok [g44] ([g44] ++ ([g3] ++ (M))) w43.heap.size := (fun _ h => .inl (ml h))
   have o2 : Ok ([g44] ++ ([g3] ++ (M))) ([g44] ++ ([g3] ++ (M))) w43.heap.size := (Ok.refl _ _)
   have hG := hG.chg hc48 o1 o2
   have hBg3 := hBg3.chg hc48 ((fun x (hx : x ∈ [g3]) (hy : x ∈ [g44]) => p_i46_i5 x hy hx) g3 (by simp))
   have hM : MS ([g44] ++ ([g3] ++ (M))) w47 := (hM.chg hc48)
   have hC := hC.trans hc48 (fun x h => .inr (e_i46 x h))
   have hBg44 : Box w47 g44 (cS_api_Addr t42.1) := hb2
   refine seg ha 1 [(0, .string (bstr a0)), (2, .pointer (some ⟨g3, 0, none⟩)), (14, .string (bstr t40.2.1)), (16, .pointer (some ⟨g44, 0, none⟩))] (by kernel_rfl) fun a ha => ?_
   refine hK41 _ _ ?_; try clear hK41 K41
   have okS : Ok ([g3]) ([g44] ++ ([g3] ++ (M))) w47.heap.size := (fun _ h => .inl (mr (ml h)))
   have z_hBg44 := hBg44
   refine drw (fun w' => Chg ([g3]) w47 w') (by kernel_rfl) fun w49 hc50 _ => ?_
   have hS : Chg ([g3]) w47 w49 := (Chg.refl ([g3]) _).trans hc50 (Ok.nil _ _)
   have o1 : Ok [] ([g44] ++ ([g3] ++ (M))) w47.heap.size := Ok.nil _ _
   have o2 : Ok ([g44] ++ ([g3] ++ (M))) ([g44] ++ ([g3] ++ (M))) w47.heap.size := (Ok.refl _ _)
   have hG := hG.chg hc50 o1 o2
   have hBg3 := hBg3.chg hc50 (fun h => nomatch h)
   have hBg44 := hBg44.chg hc50 (fun h => nomatch h)
   have hM : MS ([g44] ++ ([g3] ++ (M))) w49 := (hM.chg hc50)
   have hC := hC.trans hc50 (Ok.nil _ _)
   refine tkz 0 ha (v := .agg (cS_api_Addr t42.1).toArray) (y := fun w' hs => ldA_run (cs := (cS_api_Addr t42.1)) ha rfl (by kernel_rfl) (cells_sub (Box.cells (Box.chg z_hBg44 hs (p_i46_i5 g44 (by simp)))) (all := (cS_api_Addr t42.1)) [] [] (by kernel_rfl))) (s := hS) (q := fun a ha => ?_)
   refine tkpz 1 0 (.string (bstr t40.2.1)) ha (s := hS) (q := fun a ha => ?_)
   refine ac 2 (by kernel_rfl) (by rfl) fun K51 hK51 => ?_
   obtain ⟨t52, H52, H⟩ := bind_some H
   refine cl ha (by rfl) (by kernel_rfl) (by rfl) (by rfl) (by rfl) (community_number.walk w49 _ hM t40.2.1 k _ H52) ?_
   rintro _ w52 ⟨rfl, hc52, hMn⟩ a ha
   have o1 : Ok [] ([g44] ++ ([g3] ++ (M))) w49.heap.size := Ok.nil _ _
   have o2 : Ok ([g44] ++ ([g3] ++ (M))) ([g44] ++ ([g3] ++ (M))) w49.heap.size := (Ok.refl _ _)
   have hG := hG.chg hc52 o1 o2
   have hBg3 := hBg3.chg hc52 (fun h => nomatch h)
   have hBg44 := hBg44.chg hc52 (fun h => nomatch h)
   have hM : MS ([g44] ++ ([g3] ++ (M))) w52 := (hM.chg hc52)
   have hC := hC.trans hc52 (Ok.nil _ _)
   have hS := hS.trans hc52 (Ok.nil _ _)
   refine ae hK51 hS ?_; clear hK51 K51
   refine ac 3 (by kernel_rfl) (by rfl) fun K53 hK53 => ?_
   obtain ⟨t54, H54, H⟩ := bind_some H
   refine cl ha (by rfl) (by kernel_rfl) (by rfl) (by rfl) (by rfl) (community_Import.walk w52 _ hM t42.1 t52 k _ H54) ?_
   rintro _ w54 ⟨rfl, hc54, hMn⟩ a ha
   have o1 : Ok [] ([g44] ++ ([g3] ++ (M))) w52.heap.size := Ok.nil _ _
   have o2 : Ok ([g44] ++ ([g3] ++ (M))) ([g44] ++ ([g3] ++ (M))) w52.heap.size := (Ok.refl _ _)
   have hG := hG.chg hc54 o1 o2
   have hBg3 := hBg3.chg hc54 (fun h => nomatch h)
   have hBg44 := hBg44.chg hc54 (fun h => nomatch h)
   have hM : MS ([g44] ++ ([g3] ++ (M))) w54 := (hM.chg hc54)
   have hC := hC.trans hc54 (Ok.nil _ _)
   have hS := hS.trans hc54 (Ok.nil _ _)
   refine ae hK53 hS ?_; clear hK53 K53
   refine tkpz 4 0 (.tuple #[.agg (cA .u8 8 t54.1).toArray, .int .i64 t54.2]) ha (s := hS) (q := fun a ha => ?_)
   refine tkpz 5 0 (.agg (cA .u8 8 t54.1).toArray) ha (s := hS) (q := fun a ha => ?_)
   refine tkpz 6 0 (.int .i64 t54.2) ha (s := hS) (q := fun a ha => ?_)
   refine ac 7 (by kernel_rfl) (by rfl) fun K55 hK55 => ?_
   refine stA (l := (cA .u8 8 t54.1)) ha rfl rfl rfl (by kernel_rfl) rfl rfl hBg3 rfl fun a w56 ha hb2 hc57 _ => ?_
   have o1 : Ok [g3] ([g44] ++ ([g3] ++ (M))) w54.heap.size := (fun _ h => .inl (mr (ml h)))
   have o2 : Ok ([g44] ++ ([g3] ++ (M))) ([g44] ++ ([g3] ++ (M))) w54.heap.size := (Ok.refl _ _)
   have hG := hG.chg hc57 o1 o2
   have hBg44 := hBg44.chg hc57 (p_i46_i5 g44 (by simp))
   have hM : MS ([g44] ++ ([g3] ++ (M))) w56 := (hM.chg hc57)
   have hC := hC.trans hc57 (fun x h => .inr (e_i5 x h))
   have hS := hS.trans hc57 (fun x h => .inl (h))
   have hBg3 : Box w56 g3 (cA .u8 8 t54.1) := hb2
   refine ae hK55 hS ?_; clear hK55 K55
   refine tkpz 8 0 (.int .i64 t54.2) ha (s := hS) (q := fun a ha => ?_)
   refine dn (by kernel_rfl) ?_
   refine hK8 _ _ ?_; try clear hK8 K8
   refine wp_seq_k fun K58 hK58 => ?_
   refine wp_seq_k fun K59 hK59 => ?_
   refine wp_region_lit ?_
   obtain ⟨s60, H60, H⟩ := bind_some H
   have J60 : ∀ (a : Act) (w60 : World), Has a Tryz.f31.ntmps [(2, .pointer (some ⟨g3, 0, none⟩)), (83, .bool s60)] → (Box w60 g3 (cA .u8 8 t54.1)) → (Box w60 g44 (cS_api_Addr t42.1)) → (GF w60 ([g44] ++ ([g3] ++ (M)))) → (Chg [] w w60) → (MS ([g44] ++ ([g3] ++ (M))) w60) → K59 a w60 := by
    intro a w60 ha hBg3 hBg44 hG hC hM
    refine hK59 _ _ ?_; try clear hK59 K59
    refine cnd ha rfl (fun hc61 => ?_) (fun hc61 => ?_)
    ·have H := ite_t hc61 H
     refine wp_seq_k fun K62 hK62 => ?_
     refine wp_region_lit ?_
     refine opk (v := .agg (cA .u8 8 ([(0 : Int), (0 : Int), (0 : Int), (0 : Int), (0 : Int), (0 : Int), (0 : Int), (0 : Int)] : List Int)).toArray) ha rfl rfl rfl rfl rfl (fun w => by kernel_rfl) fun a ha => ?_
     refine stA (l := (cA .u8 8 ([(0 : Int), (0 : Int), (0 : Int), (0 : Int), (0 : Int), (0 : Int), (0 : Int), (0 : Int)] : List Int))) ha rfl rfl rfl (by kernel_rfl) rfl rfl hBg3 rfl fun a w63 ha hb2 hc64 _ => ?_
     have o1 : Ok [g3] ([g44] ++ ([g3] ++ (M))) w60.heap.size := (fun _ h => .inl (mr (ml h)))
     have o2 : Ok ([g44] ++ ([g3] ++ (M))) ([g44] ++ ([g3] ++ (M))) w60.heap.size := (Ok.refl _ _)
     have hG := hG.chg hc64 o1 o2
     have hBg44 := hBg44.chg hc64 (p_i46_i5 g44 (by simp))
     have hM : MS ([g44] ++ ([g3] ++ (M))) w63 := (hM.chg hc64)
     have hC := hC.trans hc64 (fun x h => .inr (e_i5 x h))
     have hBg3 : Box w63 g3 (cA .u8 8 ([(0 : Int), (0 : Int), (0 : Int), (0 : Int), (0 : Int), (0 : Int), (0 : Int), (0 : Int)] : List Int)) := hb2
     refine seg ha 1 [(2, .pointer (some ⟨g3, 0, none⟩)), (3, .int .i64 (4 : Int))] (by kernel_rfl) fun a ha => ?_
     refine hK62 _ _ ?_; try clear hK62 K62
     refine wp_ret ?_
     try simp only [Exit.then, Exit.inBlock]
     have o1 : Ok [] ([g44] ++ ([g3] ++ (M))) w63.heap.size := Ok.nil _ _
     have o2 : Ok (M) ([g44] ++ ([g3] ++ (M))) w63.heap.size := (fun _ h => .inl (mr (mr (h))))
     have hG := hG.chg (Chg.refl [] _) o1 o2
     have hM : MS (M) w63 := (fun x h => hM.chg (Chg.refl [] _) x (mr (mr (h))))
     obtain rfl := Option.some.inj H
     refine rtr ha (res2 rfl (roA ha rfl hBg3 (by kernel_rfl)) (roT ha rfl)) ?_
     exact ⟨rfl, hC, hM⟩
    ·have H := ite_f hc61 H
     refine wp_skip ?_
     refine hK58 _ _ ?_; try clear hK58 K58
     refine wp_seq_k fun K65 hK65 => ?_
     refine wp_region_lit ?_
     refine ldA (cs := (cA .u8 8 t54.1)) ha rfl (by kernel_rfl) rfl rfl rfl (cells_sub (Box.cells hBg3) (all := (cA .u8 8 t54.1)) [] [] (by kernel_rfl)) fun a ha => ?_
     refine stA (l := (cA .u8 8 t54.1)) ha rfl rfl rfl (by kernel_rfl) rfl rfl hBg3 rfl fun a w66 ha hb2 hc67 _ => ?_
     have o1 : Ok [g3] ([g44] ++ ([g3] ++ (M))) w60.heap.size := (fun _ h => .inl (mr (ml h)))
     have o2 : Ok ([g44] ++ ([g3] ++ (M))) ([g44] ++ ([g3] ++ (M))) w60.heap.size := (Ok.refl _ _)
     have hG := hG.chg hc67 o1 o2
     have hBg44 := hBg44.chg hc67 (p_i46_i5 g44 (by simp))
     have hM : MS ([g44] ++ ([g3] ++ (M))) w66 := (hM.chg hc67)
     have hC := hC.trans hc67 (fun x h => .inr (e_i5 x h))
     have hBg3 : Box w66 g3 (cA .u8 8 t54.1) := hb2
     refine seg ha 1 [(2, .pointer (some ⟨g3, 0, none⟩)), (3, .int .i64 (0 : Int))] (by kernel_rfl) fun a ha => ?_
     refine hK65 _ _ ?_; try clear hK65 K65
     refine wp_ret ?_
     try simp only [Exit.then, Exit.inBlock]
     have o1 : Ok [] ([g44] ++ ([g3] ++ (M))) w66.heap.size := Ok.nil _ _
     have o2 : Ok (M) ([g44] ++ ([g3] ++ (M))) w66.heap.size := (fun _ h => .inl (mr (mr (h))))
     have hG := hG.chg (Chg.refl [] _) o1 o2
     have hM : MS (M) w66 := (fun x h => hM.chg (Chg.refl [] _) x (mr (mr (h))))
     obtain rfl := Option.some.inj H
     refine rtr ha (res2 rfl (roA ha rfl hBg3 (by kernel_rfl)) (roT ha rfl)) ?_
     exact ⟨rfl, hC, hM⟩
   have H := H60
   refine seg ha 3 [(78, .bool (t54.2 != (0 : Int))), (0, .string (bstr a0)), (2, .pointer (some ⟨g3, 0, none⟩))] (by kernel_rfl) fun a ha => ?_
   rcases Bool.eq_false_or_eq_true (t54.2 != (0 : Int)) with hb68 | hb68
   ·have ha := ha.lit hb68
    have H := ite_t hb68 H
    refine sgh ha 5 [1, 1, 1, 1, 3] [(2, .pointer (some ⟨g3, 0, none⟩)), (83, .bool true)] (by kernel_rfl) fun a ha => ?_
    obtain rfl := Option.some.inj H
    exact J60 _ _ (ha.sel (by kernel_rfl)) hBg3 hBg44 hG hC hM
   ·have ha := ha.lit hb68
    have H := ite_f hb68 H
    refine ldA (cs := (cA .u8 8 t54.1)) ha rfl (by kernel_rfl) rfl rfl rfl (cells_sub (Box.cells hBg3) (all := (cA .u8 8 t54.1)) [] [] (by kernel_rfl)) fun a ha => ?_
    obtain ⟨t69, H69, H⟩ := bind_some H
    refine cl ha (by rfl) (by kernel_rfl) (by rfl) (by rfl) (by rfl) (community_Text.walk w56 _ hM hG t54.1 k _ H69) ?_
    rintro _ w69 ⟨rfl, hc69, hMn⟩ a ha
    have o1 : Ok [] ([g44] ++ ([g3] ++ (M))) w56.heap.size := Ok.nil _ _
    have o2 : Ok ([g44] ++ ([g3] ++ (M))) ([g44] ++ ([g3] ++ (M))) w56.heap.size := (Ok.refl _ _)
    have hG := hG.chg hc69 o1 o2
    have hBg3 := hBg3.chg hc69 (fun h => nomatch h)
    have hBg44 := hBg44.chg hc69 (fun h => nomatch h)
    have hM : MS ([g44] ++ ([g3] ++ (M))) w69 := (hM.chg hc69)
    have hC := hC.trans hc69 (Ok.nil _ _)
    refine sgh ha 3 [2, 2, 4] [(2, .pointer (some ⟨g3, 0, none⟩)), (83, .bool (!((bstr t69).toList == (bstr a0).toList)))] (by kernel_rfl) fun a ha => ?_
    obtain rfl := Option.some.inj H
    exact J60 _ _ (ha.sel (by kernel_rfl)) hBg3 hBg44 hG hC hM
  ·have H := ite_f hc38 H
   refine wp_seq_k fun K70 hK70 => ?_
   refine wp_region_lit ?_
   refine seg ha 2 [(0, .string (bstr a0)), (2, .pointer (some ⟨g3, 0, none⟩)), (3, .int .i64 (0 : Int)), (5, .string (bstr t7.2.1)), (68, .bool ((bstr t7.1).toList == (bstr ([115, 111, 117, 114, 99, 101] : List UInt8)).toList))] (by kernel_rfl) fun a ha => ?_
   refine hK70 _ _ ?_; try clear hK70 K70
   refine cnd ha rfl (fun hc71 => ?_) (fun hc71 => ?_)
   ·have H := ite_t hc71 H
    refine wp_region_lit ?_
    refine seg ha 1 [(0, .string (bstr a0)), (2, .pointer (some ⟨g3, 0, none⟩)), (71, .string (bstr t7.2.1))] (by kernel_rfl) fun a ha => ?_
    obtain ⟨t72, H72, H⟩ := bind_some H
    refine cl ha (by rfl) (by kernel_rfl) (by rfl) (by rfl) (by rfl) (community_number.walk w7 _ hM t7.2.1 k _ H72) ?_
    rintro _ w72 ⟨rfl, hc72, hMn⟩ a ha
    have o1 : Ok [] ([g3] ++ (M)) w7.heap.size := Ok.nil _ _
    have o2 : Ok ([g3] ++ (M)) ([g3] ++ (M)) w7.heap.size := (Ok.refl _ _)
    have hG := hG.chg hc72 o1 o2
    have hBg3 := hBg3.chg hc72 (fun h => nomatch h)
    have hM : MS ([g3] ++ (M)) w72 := (hM.chg hc72)
    have hC := hC.trans hc72 (Ok.nil _ _)
    obtain ⟨t73, H73, H⟩ := bind_some H
    refine cl ha (by rfl) (by kernel_rfl) (by rfl) (by rfl) (by rfl) (community_Source.walk w72 _ hM t72 k _ H73) ?_
    rintro _ w73 ⟨rfl, hc73, hMn⟩ a ha
    have o1 : Ok [] ([g3] ++ (M)) w72.heap.size := Ok.nil _ _
    have o2 : Ok ([g3] ++ (M)) ([g3] ++ (M)) w72.heap.size := (Ok.refl _ _)
    have hG := hG.chg hc73 o1 o2
    have hBg3 := hBg3.chg hc73 (fun h => nomatch h)
    have hM : MS ([g3] ++ (M)) w73 := (hM.chg hc73)
    have hC := hC.trans hc73 (Ok.nil _ _)
    refine seg ha 3 [(0, .string (bstr a0)), (2, .pointer (some ⟨g3, 0, none⟩)), (74, .agg (cA .u8 8 t73.1).toArray), (75, .int .i64 t73.2)] (by kernel_rfl) fun a ha => ?_
    refine stA (l := (cA .u8 8 t73.1)) ha rfl rfl rfl (by kernel_rfl) rfl rfl hBg3 rfl fun a w74 ha hb2 hc75 _ => ?_
    have o1 : Ok [g3] ([g3] ++ (M)) w73.heap.size := (fun _ h => .inl (ml h))
    have o2 : Ok ([g3] ++ (M)) ([g3] ++ (M)) w73.heap.size := (Ok.refl _ _)
    have hG := hG.chg hc75 o1 o2
    have hM : MS ([g3] ++ (M)) w74 := (hM.chg hc75)
    have hC := hC.trans hc75 (fun x h => .inr (e_i5 x h))
    have hBg3 : Box w74 g3 (cA .u8 8 t73.1) := hb2
    refine seg ha 1 [(0, .string (bstr a0)), (2, .pointer (some ⟨g3, 0, none⟩)), (3, .int .i64 t73.2)] (by kernel_rfl) fun a ha => ?_
    refine hK8 _ _ ?_; try clear hK8 K8
    refine wp_seq_k fun K76 hK76 => ?_
    refine wp_seq_k fun K77 hK77 => ?_
    refine wp_region_lit ?_
    obtain ⟨s78, H78, H⟩ := bind_some H
    have J78 : ∀ (a : Act) (w78 : World), Has a Tryz.f31.ntmps [(2, .pointer (some ⟨g3, 0, none⟩)), (83, .bool s78)] → (Box w78 g3 (cA .u8 8 t73.1)) → (GF w78 ([g3] ++ (M))) → (Chg [] w w78) → (MS ([g3] ++ (M)) w78) → K77 a w78 := by
     intro a w78 ha hBg3 hG hC hM
     refine hK77 _ _ ?_; try clear hK77 K77
     refine cnd ha rfl (fun hc79 => ?_) (fun hc79 => ?_)
     ·have H := ite_t hc79 H
      refine wp_seq_k fun K80 hK80 => ?_
      refine wp_region_lit ?_
      refine opk (v := .agg (cA .u8 8 ([(0 : Int), (0 : Int), (0 : Int), (0 : Int), (0 : Int), (0 : Int), (0 : Int), (0 : Int)] : List Int)).toArray) ha rfl rfl rfl rfl rfl (fun w => by kernel_rfl) fun a ha => ?_
      refine stA (l := (cA .u8 8 ([(0 : Int), (0 : Int), (0 : Int), (0 : Int), (0 : Int), (0 : Int), (0 : Int), (0 : Int)] : List Int))) ha rfl rfl rfl (by kernel_rfl) rfl rfl hBg3 rfl fun a w81 ha hb2 hc82 _ => ?_
      have o1 : Ok [g3] ([g3] ++ (M)) w78.heap.size := (fun _ h => .inl (ml h))
      have o2 : Ok ([g3] ++ (M)) ([g3] ++ (M)) w78.heap.size := (Ok.refl _ _)
      have hG := hG.chg hc82 o1 o2
      have hM : MS ([g3] ++ (M)) w81 := (hM.chg hc82)
      have hC := hC.trans hc82 (fun x h => .inr (e_i5 x h))
      have hBg3 : Box w81 g3 (cA .u8 8 ([(0 : Int), (0 : Int), (0 : Int), (0 : Int), (0 : Int), (0 : Int), (0 : Int), (0 : Int)] : List Int)) := hb2
      refine seg ha 1 [(2, .pointer (some ⟨g3, 0, none⟩)), (3, .int .i64 (4 : Int))] (by kernel_rfl) fun a ha => ?_
      refine hK80 _ _ ?_; try clear hK80 K80
      refine wp_ret ?_
      try simp only [Exit.then, Exit.inBlock]
      have o1 : Ok [] ([g3] ++ (M)) w81.heap.size := Ok.nil _ _
      have o2 : Ok (M) ([g3] ++ (M)) w81.heap.size := (fun _ h => .inl (mr (h)))
      have hG := hG.chg (Chg.refl [] _) o1 o2
      have hM : MS (M) w81 := (fun x h => hM.chg (Chg.refl [] _) x (mr (h)))
      obtain rfl := Option.some.inj H
      refine rtr ha (res2 rfl (roA ha rfl hBg3 (by kernel_rfl)) (roT ha rfl)) ?_
      exact ⟨rfl, hC, hM⟩
     ·have H := ite_f hc79 H
      refine wp_skip ?_
      refine hK76 _ _ ?_; try clear hK76 K76
      refine wp_seq_k fun K83 hK83 => ?_
      refine wp_region_lit ?_
      refine ldA (cs := (cA .u8 8 t73.1)) ha rfl (by kernel_rfl) rfl rfl rfl (cells_sub (Box.cells hBg3) (all := (cA .u8 8 t73.1)) [] [] (by kernel_rfl)) fun a ha => ?_
      refine stA (l := (cA .u8 8 t73.1)) ha rfl rfl rfl (by kernel_rfl) rfl rfl hBg3 rfl fun a w84 ha hb2 hc85 _ => ?_
      have o1 : Ok [g3] ([g3] ++ (M)) w78.heap.size := (fun _ h => .inl (ml h))
      have o2 : Ok ([g3] ++ (M)) ([g3] ++ (M)) w78.heap.size := (Ok.refl _ _)
      have hG := hG.chg hc85 o1 o2
      have hM : MS ([g3] ++ (M)) w84 := (hM.chg hc85)
      have hC := hC.trans hc85 (fun x h => .inr (e_i5 x h))
      have hBg3 : Box w84 g3 (cA .u8 8 t73.1) := hb2
      refine seg ha 1 [(2, .pointer (some ⟨g3, 0, none⟩)), (3, .int .i64 (0 : Int))] (by kernel_rfl) fun a ha => ?_
      refine hK83 _ _ ?_; try clear hK83 K83
      refine wp_ret ?_
      try simp only [Exit.then, Exit.inBlock]
      have o1 : Ok [] ([g3] ++ (M)) w84.heap.size := Ok.nil _ _
      have o2 : Ok (M) ([g3] ++ (M)) w84.heap.size := (fun _ h => .inl (mr (h)))
      have hG := hG.chg (Chg.refl [] _) o1 o2
      have hM : MS (M) w84 := (fun x h => hM.chg (Chg.refl [] _) x (mr (h)))
      obtain rfl := Option.some.inj H
      refine rtr ha (res2 rfl (roA ha rfl hBg3 (by kernel_rfl)) (roT ha rfl)) ?_
      exact ⟨rfl, hC, hM⟩
    have H := H78
    refine seg ha 3 [(78, .bool (t73.2 != (0 : Int))), (0, .string (bstr a0)), (2, .pointer (some ⟨g3, 0, none⟩))] (by kernel_rfl) fun a ha => ?_
    rcases Bool.eq_false_or_eq_true (t73.2 != (0 : Int)) with hb86 | hb86
    ·have ha := ha.lit hb86
     have H := ite_t hb86 H
     refine sgh ha 5 [1, 1, 1, 1, 3] [(2, .pointer (some ⟨g3, 0, none⟩)), (83, .bool true)] (by kernel_rfl) fun a ha => ?_
     obtain rfl := Option.some.inj H
     exact J78 _ _ (ha.sel (by kernel_rfl)) hBg3 hG hC hM
    ·have ha := ha.lit hb86
     have H := ite_f hb86 H
     refine ldA (cs := (cA .u8 8 t73.1)) ha rfl (by kernel_rfl) rfl rfl rfl (cells_sub (Box.cells hBg3) (all := (cA .u8 8 t73.1)) [] [] (by kernel_rfl)) fun a ha => ?_
     obtain ⟨t87, H87, H⟩ := bind_some H
     refine cl ha (by rfl) (by kernel_rfl) (by rfl) (by rfl) (by rfl) (community_Text.walk w74 _ hM hG t73.1 k _ H87) ?_
     rintro _ w87 ⟨rfl, hc87, hMn⟩ a ha
     have o1 : Ok [] ([g3] ++ (M)) w74.heap.size := Ok.nil _ _
     have o2 : Ok ([g3] ++ (M)) ([g3] ++ (M)) w74.heap.size := (Ok.refl _ _)
     have hG := hG.chg hc87 o1 o2
     have hBg3 := hBg3.chg hc87 (fun h => nomatch h)
     have hM : MS ([g3] ++ (M)) w87 := (hM.chg hc87)
     have hC := hC.trans hc87 (Ok.nil _ _)
     refine sgh ha 3 [2, 2, 4] [(2, .pointer (some ⟨g3, 0, none⟩)), (83, .bool (!((bstr t87).toList == (bstr a0).toList)))] (by kernel_rfl) fun a ha => ?_
     obtain rfl := Option.some.inj H
     exact J78 _ _ (ha.sel (by kernel_rfl)) hBg3 hG hC hM
   ·have H := ite_f hc71 H
    refine wp_region_lit ?_
    refine seg ha 1 [(0, .string (bstr a0)), (2, .pointer (some ⟨g3, 0, none⟩)), (3, .int .i64 (0 : Int)), (25, .string (bstr t7.2.1))] (by kernel_rfl) fun a ha => ?_
    obtain ⟨t88, H88, H⟩ := bind_some H
    refine cl ha (by rfl) (by kernel_rfl) (by rfl) (by rfl) (by rfl) (community_raw.walk w7 _ hM t7.2.1 k _ H88) ?_
    rintro _ w88 ⟨rfl, hc88, hMn⟩ a ha
    have o1 : Ok [] ([g3] ++ (M)) w7.heap.size := Ok.nil _ _
    have o2 : Ok ([g3] ++ (M)) ([g3] ++ (M)) w7.heap.size := (Ok.refl _ _)
    have hG := hG.chg hc88 o1 o2
    have hBg3 := hBg3.chg hc88 (fun h => nomatch h)
    have hM : MS ([g3] ++ (M)) w88 := (hM.chg hc88)
    have hC := hC.trans hc88 (Ok.nil _ _)
    refine stA (l := (cA .u8 8 t88)) ha rfl rfl rfl (by kernel_rfl) rfl rfl hBg3 rfl fun a w89 ha hb2 hc90 _ => ?_
    have o1 : Ok [g3] ([g3] ++ (M)) w88.heap.size := (fun _ h => .inl (ml h))
    have o2 : Ok ([g3] ++ (M)) ([g3] ++ (M)) w88.heap.size := (Ok.refl _ _)
    have hG := hG.chg hc90 o1 o2
    have hM : MS ([g3] ++ (M)) w89 := (hM.chg hc90)
    have hC := hC.trans hc90 (fun x h => .inr (e_i5 x h))
    have hBg3 : Box w89 g3 (cA .u8 8 t88) := hb2
    refine hK8 _ _ ?_; try clear hK8 K8
    refine wp_seq_k fun K91 hK91 => ?_
    refine wp_seq_k fun K92 hK92 => ?_
    refine wp_region_lit ?_
    obtain ⟨s93, H93, H⟩ := bind_some H
    have J93 : ∀ (a : Act) (w93 : World), Has a Tryz.f31.ntmps [(2, .pointer (some ⟨g3, 0, none⟩)), (83, .bool s93)] → (Box w93 g3 (cA .u8 8 t88)) → (GF w93 ([g3] ++ (M))) → (Chg [] w w93) → (MS ([g3] ++ (M)) w93) → K92 a w93 := by
     intro a w93 ha hBg3 hG hC hM
     refine hK92 _ _ ?_; try clear hK92 K92
     refine cnd ha rfl (fun hc94 => ?_) (fun hc94 => ?_)
     ·have H := ite_t hc94 H
      refine wp_seq_k fun K95 hK95 => ?_
      refine wp_region_lit ?_
      refine opk (v := .agg (cA .u8 8 ([(0 : Int), (0 : Int), (0 : Int), (0 : Int), (0 : Int), (0 : Int), (0 : Int), (0 : Int)] : List Int)).toArray) ha rfl rfl rfl rfl rfl (fun w => by kernel_rfl) fun a ha => ?_
      refine stA (l := (cA .u8 8 ([(0 : Int), (0 : Int), (0 : Int), (0 : Int), (0 : Int), (0 : Int), (0 : Int), (0 : Int)] : List Int))) ha rfl rfl rfl (by kernel_rfl) rfl rfl hBg3 rfl fun a w96 ha hb2 hc97 _ => ?_
      have o1 : Ok [g3] ([g3] ++ (M)) w93.heap.size := (fun _ h => .inl (ml h))
      have o2 : Ok ([g3] ++ (M)) ([g3] ++ (M)) w93.heap.size := (Ok.refl _ _)
      have hG := hG.chg hc97 o1 o2
      have hM : MS ([g3] ++ (M)) w96 := (hM.chg hc97)
      have hC := hC.trans hc97 (fun x h => .inr (e_i5 x h))
      have hBg3 : Box w96 g3 (cA .u8 8 ([(0 : Int), (0 : Int), (0 : Int), (0 : Int), (0 : Int), (0 : Int), (0 : Int), (0 : Int)] : List Int)) := hb2
      refine seg ha 1 [(2, .pointer (some ⟨g3, 0, none⟩)), (3, .int .i64 (4 : Int))] (by kernel_rfl) fun a ha => ?_
      refine hK95 _ _ ?_; try clear hK95 K95
      refine wp_ret ?_
      try simp only [Exit.then, Exit.inBlock]
      have o1 : Ok [] ([g3] ++ (M)) w96.heap.size := Ok.nil _ _
      have o2 : Ok (M) ([g3] ++ (M)) w96.heap.size := (fun _ h => .inl (mr (h)))
      have hG := hG.chg (Chg.refl [] _) o1 o2
      have hM : MS (M) w96 := (fun x h => hM.chg (Chg.refl [] _) x (mr (h)))
      obtain rfl := Option.some.inj H
      refine rtr ha (res2 rfl (roA ha rfl hBg3 (by kernel_rfl)) (roT ha rfl)) ?_
      exact ⟨rfl, hC, hM⟩
     ·have H := ite_f hc94 H
      refine wp_skip ?_
      refine hK91 _ _ ?_; try clear hK91 K91
      refine wp_seq_k fun K98 hK98 => ?_
      refine wp_region_lit ?_
      refine ldA (cs := (cA .u8 8 t88)) ha rfl (by kernel_rfl) rfl rfl rfl (cells_sub (Box.cells hBg3) (all := (cA .u8 8 t88)) [] [] (by kernel_rfl)) fun a ha => ?_
      refine stA (l := (cA .u8 8 t88)) ha rfl rfl rfl (by kernel_rfl) rfl rfl hBg3 rfl fun a w99 ha hb2 hc100 _ => ?_
      have o1 : Ok [g3] ([g3] ++ (M)) w93.heap.size := (fun _ h => .inl (ml h))
      have o2 : Ok ([g3] ++ (M)) ([g3] ++ (M)) w93.heap.size := (Ok.refl _ _)
      have hG := hG.chg hc100 o1 o2
      have hM : MS ([g3] ++ (M)) w99 := (hM.chg hc100)
      have hC := hC.trans hc100 (fun x h => .inr (e_i5 x h))
      have hBg3 : Box w99 g3 (cA .u8 8 t88) := hb2
      refine seg ha 1 [(2, .pointer (some ⟨g3, 0, none⟩)), (3, .int .i64 (0 : Int))] (by kernel_rfl) fun a ha => ?_
      refine hK98 _ _ ?_; try clear hK98 K98
      refine wp_ret ?_
      try simp only [Exit.then, Exit.inBlock]
      have o1 : Ok [] ([g3] ++ (M)) w99.heap.size := Ok.nil _ _
      have o2 : Ok (M) ([g3] ++ (M)) w99.heap.size := (fun _ h => .inl (mr (h)))
      have hG := hG.chg (Chg.refl [] _) o1 o2
      have hM : MS (M) w99 := (fun x h => hM.chg (Chg.refl [] _) x (mr (h)))
      obtain rfl := Option.some.inj H
      refine rtr ha (res2 rfl (roA ha rfl hBg3 (by kernel_rfl)) (roT ha rfl)) ?_
      exact ⟨rfl, hC, hM⟩
    have H := H93
    refine seg ha 3 [(78, .bool ((0 : Int) != (0 : Int))), (0, .string (bstr a0)), (2, .pointer (some ⟨g3, 0, none⟩))] (by kernel_rfl) fun a ha => ?_
    rcases Bool.eq_false_or_eq_true ((0 : Int) != (0 : Int)) with hb101 | hb101
    ·have ha := ha.lit hb101
     have H := ite_t hb101 H
     refine sgh ha 5 [1, 1, 1, 1, 3] [(2, .pointer (some ⟨g3, 0, none⟩)), (83, .bool true)] (by kernel_rfl) fun a ha => ?_
     obtain rfl := Option.some.inj H
     exact J93 _ _ (ha.sel (by kernel_rfl)) hBg3 hG hC hM
    ·have ha := ha.lit hb101
     have H := ite_f hb101 H
     refine ldA (cs := (cA .u8 8 t88)) ha rfl (by kernel_rfl) rfl rfl rfl (cells_sub (Box.cells hBg3) (all := (cA .u8 8 t88)) [] [] (by kernel_rfl)) fun a ha => ?_
     obtain ⟨t102, H102, H⟩ := bind_some H
     refine cl ha (by rfl) (by kernel_rfl) (by rfl) (by rfl) (by rfl) (community_Text.walk w89 _ hM hG t88 k _ H102) ?_
     rintro _ w102 ⟨rfl, hc102, hMn⟩ a ha
     have o1 : Ok [] ([g3] ++ (M)) w89.heap.size := Ok.nil _ _
     have o2 : Ok ([g3] ++ (M)) ([g3] ++ (M)) w89.heap.size := (Ok.refl _ _)
     have hG := hG.chg hc102 o1 o2
     have hBg3 := hBg3.chg hc102 (fun h => nomatch h)
     have hM : MS ([g3] ++ (M)) w102 := (hM.chg hc102)
     have hC := hC.trans hc102 (Ok.nil _ _)
     refine sgh ha 3 [2, 2, 4] [(2, .pointer (some ⟨g3, 0, none⟩)), (83, .bool (!((bstr t102).toList == (bstr a0).toList)))] (by kernel_rfl) fun a ha => ?_
     obtain rfl := Option.some.inj H
     exact J93 _ _ (ha.sel (by kernel_rfl)) hBg3 hG hC hM
def community_Bytes.l0 (a0 : List (List Int)) : Nat → (List Int) → Int → Option (List Int)
  | 0, _, _ => none
  | kk + 1, x8, x9 => (if (decide (x9 < (a0.length : Int))) = true then (if 0 ≤ x9 ∧ x9 < (a0.length : Int) then (if (x8.length + (arL 8 (rd a0 x9)).length) * 1 ≤ 140737488355328 then community_Bytes.l0 a0 kk (x8 ++ (arL 8 (rd a0 x9))) (IntKind.i64.wrap (x9 + (1 : Int))) else none) else none) else some (x8 : List Int))
def community_Bytes.f (k : Nat) (a0 : List (List Int)) : Option (List Int) := (community_Bytes.l0 a0 k ([] : List Int) (0 : Int)).bind fun s6 => some ((s6 : List Int))
set_option maxRecDepth 100000 in
theorem community_Bytes.walk (w : World) (M : List Nat) (hM : MS M w) (a0 : List (List Int)) (ao1 : Option Addr) (cap1 : Nat) (f1 : RSl (rArr .u8 8) 27 w M ao1 cap1 a0) (k : Nat) (r : List Int) (H : community_Bytes.f k a0 = some r) :
    To Tryz.prog 19 [.slice ao1 a0.length cap1] w fun v w' => ∃ (ao35 : Option Addr) (cap35 : Nat), v = .slice ao35 r.length cap35 ∧ (Own (rInt .u8) 5 w' (blkL ao35 ++ (M)) ao35 cap35 r) ∧ (∀ x ∈ blkL ao35, w.heap.size ≤ x) ∧ Chg [] w w' ∧ MS (blkL ao35 ++ (M)) w' := by
 unfold community_Bytes.f at H
 refine ent Tryz.func19 rfl [(0, .slice ao1 a0.length cap1)] rfl (by rfl) fun a ha => ?_
 have hC : Chg [] w w := Chg.refl _ _
 refine wp_seq_k fun K2 hK2 => ?_
 refine wp_region_lit ?_
 refine seg ha 1 [(0, .slice ao1 a0.length cap1)] (by kernel_rfl) fun a ha => ?_
 refine hK2 _ _ ?_; try clear hK2 K2
 refine wp_seq_k fun K3 hK3 => ?_
 refine wp_region_lit ?_
 refine seg ha 1 [(0, .slice ao1 a0.length cap1), (3, .slice none 0 0)] (by kernel_rfl) fun a ha => ?_
 refine hK3 _ _ ?_; try clear hK3 K3
 refine wp_seq_k fun K4 hK4 => ?_
 refine wp_seq_k fun K5 hK5 => ?_
 refine wp_region_lit ?_
 refine seg ha 3 [(3, .slice none 0 0), (6, .slice ao1 a0.length cap1), (7, .int .i64 (a0.length : Int)), (8, .int .i64 (0 : Int))] (by kernel_rfl) fun a ha => ?_
 refine hK5 _ _ ?_; try clear hK5 K5
 refine wp_block ?_
 obtain ⟨s6, H6, H⟩ := bind_some H
 have J6 : ∀ (a : Act) (wx6 : World) (ao10 : Option Addr) (cap10 : Nat), Has a Tryz.f19.ntmps [(3, .slice ao10 s6.length cap10)] → (Own (rInt .u8) 5 wx6 (blkL ao10 ++ (M)) ao10 cap10 s6) → (∀ x ∈ blkL ao10, w.heap.size ≤ x) → (∀ x ∈ blkL ao10, x ∉ M) → (Chg [] w wx6) → (MS (blkL ao10 ++ (M)) wx6) → K4 a wx6 := by
  intro a wx6 ao10 cap10 ha f10 e_i10 p_i10_M hC hM
  refine hK4 _ _ ?_; try clear hK4 K4
  refine wp_seq_k fun K11 hK11 => ?_
  refine wp_region_lit ?_
  refine seg ha 2 [(2, .slice ao10 s6.length cap10)] (by kernel_rfl) fun a ha => ?_
  refine hK11 _ _ ?_; try clear hK11 K11
  refine wp_ret ?_
  try simp only [Exit.then, Exit.inBlock]
  obtain rfl := Option.some.inj H
  refine rt1 ha rfl rfl ?_
  exact ⟨ao10, cap10, rfl, f10, e_i10, hC, hM⟩
 have Hc6 := H
 have H := H6
 refine wp_loop_ghost (fun kk a w6 => ∃ (x8 : List Int) (x9 : Int) (ao7 : Option Addr) (cap7 : Nat), community_Bytes.l0 a0 kk x8 x9 = some s6 ∧ Has a Tryz.f19.ntmps [(3, .slice ao7 x8.length cap7), (6, .slice ao1 a0.length cap1), (7, .int .i64 (a0.length : Int)), (8, .int .i64 x9)] ∧ (Own (rInt .u8) 5 w6 (blkL ao7 ++ (M)) ao7 cap7 x8) ∧ (RSl (rArr .u8 8) 27 w6 (blkL ao7 ++ (M)) ao1 cap1 a0) ∧ (∀ x ∈ blkL ao7, w.heap.size ≤ x) ∧ (∀ x ∈ blkL ao7, x ∉ M) ∧ (Chg [] w w6) ∧ (MS (blkL ao7 ++ (M)) w6)) k ?_ ?_
 ·skip
  have o1 : Ok [] (M) w.heap.size := Ok.nil _ _
  have o2 : Ok (blkL none ++ (M)) (M) w.heap.size := (Ok.app (fun _ h => nomatch h) (Ok.refl _ _))
  have f1 := f1.chg (Chg.refl [] _) o1 o2
  have p_z12_M : ∀ x ∈ blkL none, x ∉ M := fun x hx hy => absurd (hM x (hy)) (Nat.not_lt.2 ((fun _ h => nomatch h) x hx))
  have e_z12 : ∀ x ∈ blkL none, w.heap.size ≤ x := fun x hx => Nat.le_trans hC.size ((fun _ h => nomatch h) x hx)
  have hM : MS (blkL none ++ (M)) w := (MS.app (fun _ h => nomatch h) (hM.chg (Chg.refl [] _)))
  exact ⟨([] : List Int), (0 : Int), none, 0, H, (ha.sel (by kernel_rfl)), Own.nil, f1, e_z12, p_z12_M, hC, hM⟩
 ·rintro kk a w6 ⟨x8, x9, ao7, cap7, H, ha, f7, f1, e_i7, p_i7_M, hC, hM⟩
  obtain _ | kk := kk
  ·exact nomatch (show none = some _ from H)
  rw [community_Bytes.l0] at H
  refine wp_seq_k fun K13 hK13 => ?_
  refine wp_region_lit ?_
  refine seg ha 1 [(3, .slice ao7 x8.length cap7), (6, .slice ao1 a0.length cap1), (7, .int .i64 (a0.length : Int)), (8, .int .i64 x9), (9, .bool (decide (x9 < (a0.length : Int))))] (by kernel_rfl) fun a ha => ?_
  refine hK13 _ _ ?_; try clear hK13 K13
  refine wp_seq_k fun K14 hK14 => ?_
  refine cnd ha rfl (fun hc15 => ?_) (fun hc15 => ?_)
  ·have H := ite_t hc15 H
   refine wp_skip ?_
   refine hK14 _ _ ?_; try clear hK14 K14
   refine wp_seq_k fun K16 hK16 => ?_
   refine wp_block ?_
   refine wp_seq_k fun K17 hK17 => ?_
   refine wp_region_lit ?_
   obtain ⟨⟨hx18, hx18'⟩, H⟩ := ite_some H
   refine ix (r := (rArr .u8 8)) ha (by kernel_rfl) (by kernel_rfl) rfl rfl rfl rfl rfl f1 hx18 hx18' fun a ge19 oe20 cs21 hn24 hR22 hE23 ha => ?_
   rw [rd_get] at hR22
   obtain rfl := hR22
   have hE23 : ∀ j v, (cA .u8 8 (rd a0 x9))[j]? = some v → w6.cell? ⟨ge19, oe20 + j, none⟩ = some v := hE23
   refine ldA (cs := (cA .u8 8 (rd a0 x9))) ha rfl (by kernel_rfl) rfl rfl rfl (cells_sub hE23 (all := (cA .u8 8 (rd a0 x9))) [] [] (by kernel_rfl)) fun a ha => ?_
   refine al (cs := (cA .u8 8 (List.replicate 8 (0 : Int)))) (z := .agg (cA .u8 8 (List.replicate 8 (0 : Int))).toArray) ha (fun w => by kernel_rfl) rfl rfl rfl rfl fun a w25 g26 hN27 ha => ?_
   have o1 : Ok [] (blkL ao7 ++ (M)) w6.heap.size := Ok.nil _ _
   have o2 : Ok ([g26] ++ (blkL ao7 ++ (M))) (blkL ao7 ++ (M)) w6.heap.size := (Ok.app (hN27.ok _) (Ok.refl _ _))
   have f7 := f7.chg hN27.chg o1 o2 (fun _ _ h => nomatch h) (fun _ h => mr (ml h))
   have f1 := f1.chg hN27.chg o1 o2
   have p_i28_i7 : ∀ x ∈ [g26], x ∉ (blkL ao7) := fun x hx hy => absurd (hM x (ml hy)) (Nat.not_lt.2 ((hN27.ge1) x hx))
   have p_i28_M : ∀ x ∈ [g26], x ∉ M := fun x hx hy => absurd (hM x (mr (hy))) (Nat.not_lt.2 ((hN27.ge1) x hx))
   have e_i28 : ∀ x ∈ [g26], w.heap.size ≤ x := fun x hx => Nat.le_trans hC.size ((hN27.ge1) x hx)
   have hM : MS ([g26] ++ (blkL ao7 ++ (M))) w25 := (MS.app hN27.ms (hM.chg hN27.chg))
   have hC := hC.trans hN27.chg (Ok.nil _ _)
   have hBg26 : Box w25 g26 (cA .u8 8 (List.replicate 8 (0 : Int))) := hN27.box
   refine stA (l := (cA .u8 8 (rd a0 x9))) ha rfl rfl rfl (by kernel_rfl) rfl rfl hBg26 rfl fun a w29 ha hb2 hc30 _ => ?_
   have o1 : Ok [g26] ([g26] ++ (blkL ao7 ++ (M))) w25.heap.size := (fun _ h => .inl (ml h))
   have o2 : Ok ([g26] ++ (blkL ao7 ++ (M))) ([g26] ++ (blkL ao7 ++ (M))) w25.heap.size := (Ok.refl _ _)
   have f7 := f7.chg hc30 o1 o2 (fun x (hx : x ∈ blkL ao7) (hy : x ∈ [g26]) => p_i28_i7 x hy hx) (fun _ h => mr (ml h))
   have f1 := f1.chg hc30 o1 o2
   have hM : MS ([g26] ++ (blkL ao7 ++ (M))) w29 := (hM.chg hc30)
   have hC := hC.trans hc30 (fun x h => .inr (e_i28 x h))
   have hBg26 : Box w29 g26 (cA .u8 8 (rd a0 x9)) := hb2
   refine hK17 _ _ ?_; try clear hK17 K17
   refine wp_region_lit ?_
   refine seg ha 1 [(5, .pointer (some ⟨g26, 0, none⟩)), (6, .slice ao1 a0.length cap1), (7, .int .i64 (a0.length : Int)), (8, .int .i64 x9), (12, .slice ao7 x8.length cap7)] (by kernel_rfl) fun a ha => ?_
   refine opk (v := .slice (some ⟨g26, 0, none⟩) 8 8) ha rfl rfl rfl rfl rfl (fun w => by kernel_rfl) fun a ha => ?_
   have fw31 : RSl (rInt .u8) 5 w29 (butL g26 w29) (some ⟨g26, 0, none⟩) 8 (arL 8 (rd a0 x9)) := RSl.ofA ([] : List Value) ([] : List Value) (Box.cells hBg26) butL_self (by kernel_rfl) rfl
   obtain ⟨hx32, H⟩ := ite_some H
   refine app (r := (rInt .u8)) (xs := x8) (ys := (arL 8 (rd a0 x9))) ha (ElemT.mk' (bytes := 1) (by kernel_rfl)) rfl rfl rfl rfl rfl f7 fw31.src hx32 (by decide) fun a w33 ao34 cap34 hO34 hc34 hk34 hl34 ha => ?_
   have o1 : Ok (blkL ao7) ([g26] ++ (blkL ao7 ++ (M))) w29.heap.size := (fun _ h => .inl (mr (ml h)))
   have o2 : Ok (blkL ao34 ++ ([g26] ++ (M))) ([g26] ++ (blkL ao7 ++ (M))) w29.heap.size := (Ok.app (Ok.to hk34 (fun _ h => mr (ml h))) (Ok.app (fun _ h => .inl (ml h)) (fun _ h => .inl (mr (mr (h))))))
   have f1 := f1.chg hc34 o1 o2
   have fw31 := fw31.chg (M' := butL g26 w33) hc34 (butL_ok (fun x hx0 e0 => p_i28_i7 x (by rw [e0]; exact List.mem_singleton.2 rfl) hx0)) butL_chg
   have hBg26 := hBg26.chg hc34 (p_i28_i7 g26 (by simp))
   have p_i34_i28 : ∀ x ∈ blkL ao34, x ∉ ([g26]) := fun x hx hy => (hk34 x hx).elim (fun h => (fun x hx hy => p_i28_i7 x hy hx) x h hy) (fun h => absurd (hM x (ml hy)) (Nat.not_lt.2 h))
   have p_i34_M : ∀ x ∈ blkL ao34, x ∉ M := fun x hx hy => (hk34 x hx).elim (fun h => p_i7_M x h hy) (fun h => absurd (hM x (mr (mr (hy)))) (Nat.not_lt.2 h))
   have e_i34 : ∀ x ∈ blkL ao34, w.heap.size ≤ x := fun x hx => (hk34 x hx).elim (e_i7 x) (Nat.le_trans hC.size)
   have hM : MS (blkL ao34 ++ ([g26] ++ (M))) w33 := (MS.app hl34 (MS.app (fun x h => hM.chg hc34 x (ml h)) (fun x h => hM.chg hc34 x (mr (mr (h))))))
   have hC := hC.trans hc34 (fun x h => .inr (e_i7 x h))
   have f34 := hO34.chg (M' := blkL ao34 ++ ([g26] ++ (M))) (Chg.refl [] _) (Ok.nil _ _) (Ok.app (fun _ h => .inl (ml h)) (Ok.to (Ok.app (fun _ h => .inl (ml h)) (fun _ h => .inl (mr (mr (h))))) (fun _ h => mr h))) (fun _ _ h => nomatch h) (fun _ h => ml h)
   refine seg ha 1 [(3, .slice ao34 (x8 ++ (arL 8 (rd a0 x9))).length cap34), (6, .slice ao1 a0.length cap1), (7, .int .i64 (a0.length : Int)), (8, .int .i64 x9)] (by kernel_rfl) fun a ha => ?_
   refine hK16 _ _ ?_; try clear hK16 K16
   refine wp_region_lit ?_
   refine seg ha 2 [(3, .slice ao34 (x8 ++ (arL 8 (rd a0 x9))).length cap34), (6, .slice ao1 a0.length cap1), (7, .int .i64 (a0.length : Int)), (8, .int .i64 (IntKind.i64.wrap (x9 + (1 : Int))))] (by kernel_rfl) fun a ha => ?_
   have o1 : Ok [] (blkL ao34 ++ ([g26] ++ (M))) w33.heap.size := Ok.nil _ _
   have o2 : Ok (blkL ao34 ++ (M)) (blkL ao34 ++ ([g26] ++ (M))) w33.heap.size := (Ok.app (fun _ h => .inl (ml h)) (fun _ h => .inl (mr (mr (h)))))
   have f1 := f1.chg (Chg.refl [] _) o1 o2
   have f34 := f34.chg (Chg.refl [] _) o1 o2 (fun _ _ h => nomatch h) (fun _ h => ml h)
   have hM : MS (blkL ao34 ++ (M)) w33 := (MS.app (fun x h => hM.chg (Chg.refl [] _) x (ml h)) (fun x h => hM.chg (Chg.refl [] _) x (mr (mr (h)))))
   exact ⟨kk, Nat.lt_succ_self _, ⟨(x8 ++ (arL 8 (rd a0 x9))), IntKind.i64.wrap (x9 + (1 : Int)), ao34, cap34, H, (ha.sel (by kernel_rfl)), f34, f1, e_i34, p_i34_M, hC, hM⟩⟩
  ·have H := ite_f hc15 H
   refine wp_exit ?_
   simp only [Exit.then, Exit.inBlock, ↓reduceIte, Nat.reduceEqDiff]
   obtain rfl := Option.some.inj H
   exact J6 _ _ ao7 cap7 (ha.sel (by kernel_rfl)) f7 e_i7 p_i7_M hC hM
def community_Read.l0 : Nat → (List (List Int)) → (List Int) → Bool → Option (List (List Int) × List Int × Bool)
  | 0, _, _, _ => none
  | kk + 1, x18, x19, x20 => (cursor_rest_Left.f (⟨x19, x20⟩ : S_cursor_rest)).bind fun t27 => (if (decide (t27 > (0 : Int))) = true then (cursor_Reader_Take.f (⟨(⟨x19, x20⟩ : S_cursor_rest)⟩ : S_cursor_Reader) (8 : Int)).bind fun t38 => (if (x18.length + ([(arC 8 (List.replicate 8 (0 : Int)) t38.1)] : List (List Int)).length) * 8 ≤ 140737488355328 then community_Read.l0 kk (x18 ++ ([(arC 8 (List.replicate 8 (0 : Int)) t38.1)] : List (List Int))) t38.2.rest.left t38.2.rest.bad else none) else some ((x18 : List (List Int)), (x19 : List Int), (x20 : Bool)))
def community_Read.f (k : Nat) (a0 : List Int) : Option (List (List Int) × Int) := (if ((Int.tmod (a0.length : Int) (8 : Int)) != (0 : Int)) = true then some ((([] : List (List Int)) : List (List Int)), ((4 : Int) : Int)) else (cursor_Open.f a0).bind fun t11 => (community_Read.l0 k ([] : List (List Int)) t11.rest.left t11.rest.bad).bind fun s15 => some ((s15.1 : List (List Int)), ((0 : Int) : Int)))
set_option maxRecDepth 100000 in
theorem community_Read.walk (w : World) (M : List Nat) (hM : MS M w) (a0 : List Int) (ao1 : Option Addr) (cap1 : Nat) (f1 : RSl (rInt .u8) 5 w M ao1 cap1 a0) (k : Nat) (r : List (List Int) × Int) (H : community_Read.f k a0 = some r) :
    To Tryz.prog 20 [.slice ao1 a0.length cap1] w fun v w' => ∃ (ao52 : Option Addr) (cap52 : Nat), v = .tuple #[.slice ao52 r.1.length cap52, .int .i64 r.2] ∧ (Own (rArr .u8 8) 27 w' (blkL ao52 ++ (M)) ao52 cap52 r.1) ∧ (∀ x ∈ blkL ao52, w.heap.size ≤ x) ∧ Chg [] w w' ∧ MS (blkL ao52 ++ (M)) w' := by
 unfold community_Read.f at H
 refine ent Tryz.func20 rfl [(0, .slice ao1 a0.length cap1)] rfl (by rfl) fun a ha => ?_
 have hC : Chg [] w w := Chg.refl _ _
 refine wp_seq_k fun K2 hK2 => ?_
 refine wp_region_lit ?_
 refine seg ha 2 [(0, .slice ao1 a0.length cap1)] (by kernel_rfl) fun a ha => ?_
 refine hK2 _ _ ?_; try clear hK2 K2
 refine wp_seq_k fun K3 hK3 => ?_
 refine wp_seq_k fun K4 hK4 => ?_
 refine wp_region_lit ?_
 refine seg ha 4 [(0, .slice ao1 a0.length cap1), (10, .bool ((Int.tmod (a0.length : Int) (8 : Int)) != (0 : Int)))] (by kernel_rfl) fun a ha => ?_
 refine hK4 _ _ ?_; try clear hK4 K4
 refine cnd ha rfl (fun hc5 => ?_) (fun hc5 => ?_)
 ·have H := ite_t hc5 H
  refine wp_seq_k fun K6 hK6 => ?_
  refine wp_region_lit ?_
  refine seg ha 2 [(2, .slice none 0 0), (3, .int .i64 (4 : Int))] (by kernel_rfl) fun a ha => ?_
  refine hK6 _ _ ?_; try clear hK6 K6
  refine wp_ret ?_
  try simp only [Exit.then, Exit.inBlock]
  have p_z7_M : ∀ x ∈ blkL none, x ∉ M := fun x hx hy => absurd (hM x (hy)) (Nat.not_lt.2 ((fun _ h => nomatch h) x hx))
  have e_z7 : ∀ x ∈ blkL none, w.heap.size ≤ x := fun x hx => Nat.le_trans hC.size ((fun _ h => nomatch h) x hx)
  have hM : MS (blkL none ++ (M)) w := (MS.app (fun _ h => nomatch h) (hM.chg (Chg.refl [] _)))
  obtain rfl := Option.some.inj H
  refine rt2 ha rfl rfl rfl ?_
  exact ⟨none, 0, rfl, Own.nil, e_z7, hC, hM⟩
 ·have H := ite_f hc5 H
  refine wp_skip ?_
  refine hK3 _ _ ?_; try clear hK3 K3
  refine wp_seq_k fun K8 hK8 => ?_
  refine wp_region_lit ?_
  refine seg ha 1 [(0, .slice ao1 a0.length cap1), (4, .slice none 0 0)] (by kernel_rfl) fun a ha => ?_
  refine hK8 _ _ ?_; try clear hK8 K8
  refine wp_seq_k fun K9 hK9 => ?_
  refine wp_seq_k fun K10 hK10 => ?_
  refine wp_region_lit ?_
  refine seg ha 1 [(4, .slice none 0 0), (11, .slice ao1 a0.length cap1)] (by kernel_rfl) fun a ha => ?_
  obtain ⟨t11, H11, H⟩ := bind_some H
  refine cl ha (by rfl) (by kernel_rfl) (by rfl) (by rfl) (by rfl) (cursor_Open.walk w _ hM a0 ao1 cap1 f1 _ H11) ?_
  rintro _ w11 ⟨g12, ao14, cap14, rfl, f14, hBg12, ne_i13, hc11, hMn⟩ a ha
  have o1 : Ok [] (M) w.heap.size := Ok.nil _ _
  have o2 : Ok ([g12] ++ (M)) (M) w.heap.size := (Ok.app (fun x h => .inr (ne_i13 x h)) (Ok.refl _ _))
  have f1 := f1.chg hc11 o1 o2
  have p_i13_M : ∀ x ∈ [g12], x ∉ M := fun x hx hy => absurd (hM x (hy)) (Nat.not_lt.2 (ne_i13 x hx))
  have e_i13 : ∀ x ∈ [g12], w.heap.size ≤ x := fun x hx => Nat.le_trans hC.size (ne_i13 x hx)
  have hM : MS ([g12] ++ (M)) w11 := (MS.app (fun x h => hMn x (ml h)) (hM.chg hc11))
  have hC := hC.trans hc11 (Ok.nil _ _)
  refine seg ha 1 [(4, .slice none 0 0), (5, .pointer (some ⟨g12, 0, none⟩))] (by kernel_rfl) fun a ha => ?_
  refine hK10 _ _ ?_; try clear hK10 K10
  refine wp_block ?_
  obtain ⟨s15, H15, H⟩ := bind_some H
  have J15 : ∀ (a : Act) (wx15 : World) (ao21 : Option Addr) (cap21 : Nat) (ao22 : Option Addr) (cap22 : Nat), Has a Tryz.f20.ntmps [(4, .slice ao21 s15.1.length cap21)] → (Own (rArr .u8 8) 27 wx15 (blkL ao21 ++ ([g12] ++ (M))) ao21 cap21 s15.1) → (RSl (rInt .u8) 5 wx15 (blkL ao21 ++ ([g12] ++ (M))) ao22 cap22 s15.2.1) → (Box wx15 g12 (cS_cursor_Reader (⟨(⟨s15.2.1, s15.2.2⟩ : S_cursor_rest)⟩ : S_cursor_Reader) ao22 cap22)) → (∀ x ∈ blkL ao21, w.heap.size ≤ x) → (∀ x ∈ blkL ao21, x ∉ [g12]) → (∀ x ∈ blkL ao21, x ∉ M) → (Chg [] w wx15) → (MS (blkL ao21 ++ ([g12] ++ (M))) wx15) → K9 a wx15 := by
   intro a wx15 ao21 cap21 ao22 cap22 ha f21 f22 hBg12 e_i21 p_i21_i13 p_i21_M hC hM
   refine hK9 _ _ ?_; try clear hK9 K9
   refine wp_seq_k fun K23 hK23 => ?_
   refine wp_region_lit ?_
   refine seg ha 3 [(2, .slice ao21 s15.1.length cap21), (3, .int .i64 (0 : Int))] (by kernel_rfl) fun a ha => ?_
   refine hK23 _ _ ?_; try clear hK23 K23
   refine wp_ret ?_
   try simp only [Exit.then, Exit.inBlock]
   have o1 : Ok [] (blkL ao21 ++ ([g12] ++ (M))) wx15.heap.size := Ok.nil _ _
   have o2 : Ok (blkL ao21 ++ (M)) (blkL ao21 ++ ([g12] ++ (M))) wx15.heap.size := (Ok.app (fun _ h => .inl (ml h)) (fun _ h => .inl (mr (mr (h)))))
   have f21 := f21.chg (Chg.refl [] _) o1 o2 (fun _ _ h => nomatch h) (fun _ h => ml h)
   have f22 := f22.chg (Chg.refl [] _) o1 o2
   have hM : MS (blkL ao21 ++ (M)) wx15 := (MS.app (fun x h => hM.chg (Chg.refl [] _) x (ml h)) (fun x h => hM.chg (Chg.refl [] _) x (mr (mr (h)))))
   obtain rfl := Option.some.inj H
   refine rt2 ha rfl rfl rfl ?_
   exact ⟨ao21, cap21, rfl, f21, e_i21, hC, hM⟩
  have Hc15 := H
  have H := H15
  refine wp_loop_ghost (fun kk a w15 => ∃ (x18 : List (List Int)) (x19 : List Int) (x20 : Bool) (ao16 : Option Addr) (cap16 : Nat) (ao17 : Option Addr) (cap17 : Nat), community_Read.l0 kk x18 x19 x20 = some s15 ∧ Has a Tryz.f20.ntmps [(4, .slice ao16 x18.length cap16), (5, .pointer (some ⟨g12, 0, none⟩))] ∧ (Own (rArr .u8 8) 27 w15 (blkL ao16 ++ ([g12] ++ (M))) ao16 cap16 x18) ∧ (RSl (rInt .u8) 5 w15 (blkL ao16 ++ ([g12] ++ (M))) ao17 cap17 x19) ∧ (Box w15 g12 (cS_cursor_Reader (⟨(⟨x19, x20⟩ : S_cursor_rest)⟩ : S_cursor_Reader) ao17 cap17)) ∧ (∀ x ∈ blkL ao16, w.heap.size ≤ x) ∧ (∀ x ∈ blkL ao16, x ∉ [g12]) ∧ (∀ x ∈ blkL ao16, x ∉ M) ∧ (Chg [] w w15) ∧ (MS (blkL ao16 ++ ([g12] ++ (M))) w15)) k ?_ ?_
  ·skip
   have o1 : Ok [] ([g12] ++ (M)) w11.heap.size := Ok.nil _ _
   have o2 : Ok (blkL none ++ ([g12] ++ (M))) ([g12] ++ (M)) w11.heap.size := (Ok.app (fun _ h => nomatch h) (Ok.refl _ _))
   have f14 := f14.chg (Chg.refl [] _) o1 o2
   have p_z24_i13 : ∀ x ∈ blkL none, x ∉ ([g12]) := fun x hx hy => absurd (hM x (ml hy)) (Nat.not_lt.2 ((fun _ h => nomatch h) x hx))
   have p_z24_M : ∀ x ∈ blkL none, x ∉ M := fun x hx hy => absurd (hM x (mr (hy))) (Nat.not_lt.2 ((fun _ h => nomatch h) x hx))
   have e_z24 : ∀ x ∈ blkL none, w.heap.size ≤ x := fun x hx => Nat.le_trans hC.size ((fun _ h => nomatch h) x hx)
   have hM : MS (blkL none ++ ([g12] ++ (M))) w11 := (MS.app (fun _ h => nomatch h) (hM.chg (Chg.refl [] _)))
   exact ⟨([] : List (List Int)), t11.rest.left, t11.rest.bad, none, 0, ao14, cap14, H, (ha.sel (by kernel_rfl)), Own.nil, f14, hBg12, e_z24, p_z24_i13, p_z24_M, hC, hM⟩
  ·rintro kk a w15 ⟨x18, x19, x20, ao16, cap16, ao17, cap17, H, ha, f16, f17, hBg12, e_i16, p_i16_i13, p_i16_M, hC, hM⟩
   obtain _ | kk := kk
   ·exact nomatch (show none = some _ from H)
   rw [community_Read.l0] at H
   refine wp_seq_k fun K25 hK25 => ?_
   refine wp_seq_k fun K26 hK26 => ?_
   refine wp_region_lit ?_
   refine seg ha 3 [(4, .slice ao16 x18.length cap16), (5, .pointer (some ⟨g12, 0, none⟩)), (15, .pointer (some ⟨g12, 0, none⟩))] (by kernel_rfl) fun a ha => ?_
   obtain ⟨t27, H27, H⟩ := bind_some H
   refine cl ha (by rfl) (by kernel_rfl) (by rfl) (by rfl) (by rfl) (cursor_rest_Left.walk w15 _ hM g12 (⟨x19, x20⟩ : S_cursor_rest) ao17 cap17 f17 hBg12 (mr (ml (List.mem_singleton.2 rfl))) _ H27) ?_
   rintro _ w27 ⟨rfl, hc27, hMn⟩ a ha
   have o1 : Ok [] (blkL ao16 ++ ([g12] ++ (M))) w15.heap.size := Ok.nil _ _
   have o2 : Ok (blkL ao16 ++ ([g12] ++ (M))) (blkL ao16 ++ ([g12] ++ (M))) w15.heap.size := (Ok.refl _ _)
   have f16 := f16.chg hc27 o1 o2 (fun _ _ h => nomatch h) (fun _ h => ml h)
   have f17 := f17.chg hc27 o1 o2
   have hBg12 := hBg12.chg hc27 (fun h => nomatch h)
   have hM : MS (blkL ao16 ++ ([g12] ++ (M))) w27 := (hM.chg hc27)
   have hC := hC.trans hc27 (Ok.nil _ _)
   refine seg ha 1 [(4, .slice ao16 x18.length cap16), (5, .pointer (some ⟨g12, 0, none⟩)), (17, .bool (decide (t27 > (0 : Int))))] (by kernel_rfl) fun a ha => ?_
   refine hK26 _ _ ?_; try clear hK26 K26
   refine cnd ha rfl (fun hc28 => ?_) (fun hc28 => ?_)
   ·have H := ite_t hc28 H
    refine wp_skip ?_
    refine hK25 _ _ ?_; try clear hK25 K25
    refine wp_block ?_
    refine wp_seq_k fun K29 hK29 => ?_
    refine wp_region_lit ?_
    refine al (cs := (cA .u8 8 (List.replicate 8 (0 : Int)))) (z := .agg (cA .u8 8 (List.replicate 8 (0 : Int))).toArray) ha (fun w => by kernel_rfl) rfl rfl rfl rfl fun a w30 g31 hN32 ha => ?_
    have o1 : Ok [] (blkL ao16 ++ ([g12] ++ (M))) w27.heap.size := Ok.nil _ _
    have o2 : Ok ([g31] ++ (blkL ao16 ++ ([g12] ++ (M)))) (blkL ao16 ++ ([g12] ++ (M))) w27.heap.size := (Ok.app (hN32.ok _) (Ok.refl _ _))
    have f16 := f16.chg hN32.chg o1 o2 (fun _ _ h => nomatch h) (fun _ h => mr (ml h))
    have f17 := f17.chg hN32.chg o1 o2
    have hBg12 := hBg12.chg hN32.chg (fun h => nomatch h)
    have p_i33_i16 : ∀ x ∈ [g31], x ∉ (blkL ao16) := fun x hx hy => absurd (hM x (ml hy)) (Nat.not_lt.2 ((hN32.ge1) x hx))
    have p_i33_i13 : ∀ x ∈ [g31], x ∉ ([g12]) := fun x hx hy => absurd (hM x (mr (ml hy))) (Nat.not_lt.2 ((hN32.ge1) x hx))
    have p_i33_M : ∀ x ∈ [g31], x ∉ M := fun x hx hy => absurd (hM x (mr (mr (hy)))) (Nat.not_lt.2 ((hN32.ge1) x hx))
    have e_i33 : ∀ x ∈ [g31], w.heap.size ≤ x := fun x hx => Nat.le_trans hC.size ((hN32.ge1) x hx)
    have hM : MS ([g31] ++ (blkL ao16 ++ ([g12] ++ (M)))) w30 := (MS.app hN32.ms (hM.chg hN32.chg))
    have hC := hC.trans hN32.chg (Ok.nil _ _)
    have hBg31 : Box w30 g31 (cA .u8 8 (List.replicate 8 (0 : Int))) := hN32.box
    refine hK29 _ _ ?_; try clear hK29 K29
    refine wp_seq_k fun K34 hK34 => ?_
    have okS : Ok ([g12] ++ [g31]) ([g31] ++ (blkL ao16 ++ ([g12] ++ (M)))) w30.heap.size := (Ok.app (fun _ h => .inl (mr (mr (ml h)))) (fun _ h => .inl (ml h)))
    have z_f16 := Own.toRSl (M' := ([g12] ++ [g31])) f16 okS (fun x (hx : x ∈ blkL ao16) (hy : x ∈ [g12] ++ [g31]) => (List.mem_append.1 hy).elim (fun hy => p_i16_i13 x hx hy) (fun hy => (fun x (hx : x ∈ blkL ao16) (hy : x ∈ [g31]) => p_i33_i16 x hy hx) x hx hy))
    have z_f17 := f17
    refine drw (fun w' => Chg ([g12] ++ [g31]) w30 w') (by kernel_rfl) fun w35 hc36 _ => ?_
    have hS : Chg ([g12] ++ [g31]) w30 w35 := (Chg.refl ([g12] ++ [g31]) _).trans hc36 (Ok.nil _ _)
    have o1 : Ok [] ([g31] ++ (blkL ao16 ++ ([g12] ++ (M)))) w30.heap.size := Ok.nil _ _
    have o2 : Ok ([g31] ++ (blkL ao16 ++ ([g12] ++ (M)))) ([g31] ++ (blkL ao16 ++ ([g12] ++ (M)))) w30.heap.size := (Ok.refl _ _)
    have f16 := f16.chg hc36 o1 o2 (fun _ _ h => nomatch h) (fun _ h => mr (ml h))
    have f17 := f17.chg hc36 o1 o2
    have hBg12 := hBg12.chg hc36 (fun h => nomatch h)
    have hBg31 := hBg31.chg hc36 (fun h => nomatch h)
    have hM : MS ([g31] ++ (blkL ao16 ++ ([g12] ++ (M)))) w35 := (hM.chg hc36)
    have hC := hC.trans hc36 (Ok.nil _ _)
    refine tkz 0 ha (v := .slice (some ⟨g31, 0, none⟩) 8 8) (y := fun w' _ => opk_run ha rfl rfl (fun w => by kernel_rfl)) (s := hS) (q := fun a ha => ?_)
    refine tkpz 1 0 (.pointer (some ⟨g12, 0, none⟩)) ha (s := hS) (q := fun a ha => ?_)
    refine ac 2 (by kernel_rfl) (by rfl) fun K37 hK37 => ?_
    obtain ⟨t38, H38, H⟩ := bind_some H
    refine cl ha (by rfl) (by kernel_rfl) (by rfl) (by rfl) (by rfl) (cursor_Reader_Take.walk w35 _ hM g12 (⟨(⟨x19, x20⟩ : S_cursor_rest)⟩ : S_cursor_Reader) ao17 cap17 f17 hBg12 (mr (mr (ml (List.mem_singleton.2 rfl)))) (8 : Int) _ H38) ?_
    rintro _ w38 ⟨ao39, cap39, ao40, cap40, rfl, f39, f40, qhBg12, ne_iD000039, hc38, hMn⟩ a ha
    have o1 : Ok [g12] ([g31] ++ (blkL ao16 ++ ([g12] ++ (M)))) w35.heap.size := (fun _ h => .inl (mr (mr (ml h))))
    have o2 : Ok (blkL ao39 ++ ([g31] ++ (blkL ao16 ++ ([g12] ++ (M))))) ([g31] ++ (blkL ao16 ++ ([g12] ++ (M)))) w35.heap.size := (Ok.app (fun x h => .inr (ne_iD000039 x h)) (Ok.refl _ _))
    have f16 := f16.chg hc38 o1 o2 p_i16_i13 (fun _ h => mr (mr (ml h)))
    have f17 := f17.chg hc38 o1 o2
    have hBg31 := hBg31.chg hc38 (p_i33_i13 g31 (by simp))
    have p_iD000039_i33 : ∀ x ∈ blkL ao39, x ∉ ([g31]) := fun x hx hy => absurd (hM x (ml hy)) (Nat.not_lt.2 (ne_iD000039 x hx))
    have p_iD000039_i16 : ∀ x ∈ blkL ao39, x ∉ (blkL ao16) := fun x hx hy => absurd (hM x (mr (ml hy))) (Nat.not_lt.2 (ne_iD000039 x hx))
    have p_iD000039_i13 : ∀ x ∈ blkL ao39, x ∉ ([g12]) := fun x hx hy => absurd (hM x (mr (mr (ml hy)))) (Nat.not_lt.2 (ne_iD000039 x hx))
    have p_iD000039_M : ∀ x ∈ blkL ao39, x ∉ M := fun x hx hy => absurd (hM x (mr (mr (mr (hy))))) (Nat.not_lt.2 (ne_iD000039 x hx))
    have e_iD000039 : ∀ x ∈ blkL ao39, w.heap.size ≤ x := fun x hx => Nat.le_trans hC.size (ne_iD000039 x hx)
    have hM : MS (blkL ao39 ++ ([g31] ++ (blkL ao16 ++ ([g12] ++ (M))))) w38 := (MS.app (fun x h => hMn x (ml h)) (hM.chg hc38))
    have hC := hC.trans hc38 (fun x h => .inr (e_i13 x h))
    have d_iD000039 : Ok (blkL ao39) ([g12] ++ [g31]) w30.heap.size := fun x hx => .inr (Nat.le_trans hS.size (ne_iD000039 x hx))
    have hS := hS.trans hc38 (fun x h => .inl ((List.mem_append_left _ h)))
    have hBg12 := qhBg12
    refine ae hK37 hS ?_; clear hK37 K37
    refine ac 3 (by kernel_rfl) (by rfl) fun K41 hK41 => ?_
    refine cpyA (T := 5) (k := .u8) (x0 := (List.replicate 8 (0 : Int))) (N := 8) ([] : List Value) ([] : List Value) ha (by kernel_rfl) (by kernel_rfl) rfl rfl rfl rfl rfl hBg31 (by kernel_rfl) (Own.toRSl (M' := []) f39 (Ok.nil _ _) (fun _ _ h => nomatch h)) fun a w42 hb2 hc43 ha => ?_
    have o1 : Ok [g31] (blkL ao39 ++ ([g31] ++ (blkL ao16 ++ ([g12] ++ (M))))) w38.heap.size := (fun _ h => .inl (mr (ml h)))
    have o2 : Ok (blkL ao39 ++ ([g31] ++ (blkL ao16 ++ ([g12] ++ (M))))) (blkL ao39 ++ ([g31] ++ (blkL ao16 ++ ([g12] ++ (M))))) w38.heap.size := (Ok.refl _ _)
    have f16 := f16.chg hc43 o1 o2 (fun x (hx : x ∈ blkL ao16) (hy : x ∈ [g31]) => p_i33_i16 x hy hx) (fun _ h => mr (mr (ml h)))
    have f39 := f39.chg hc43 o1 o2 p_iD000039_i33 (fun _ h => ml h)
    have f40 := f40.chg hc43 o1 o2
    have hBg12 := hBg12.chg hc43 ((fun x (hx : x ∈ [g12]) (hy : x ∈ [g31]) => p_i33_i13 x hy hx) g12 (by simp))
    have hM : MS (blkL ao39 ++ ([g31] ++ (blkL ao16 ++ ([g12] ++ (M))))) w42 := (hM.chg hc43)
    have hC := hC.trans hc43 (fun x h => .inr (e_i33 x h))
    have hS := hS.trans hc43 (fun x h => .inl ((List.mem_append_right _ h)))
    have hBg31 : Box w42 g31 (cA .u8 8 (arC 8 (List.replicate 8 (0 : Int)) t38.1)) := hb2.cast (by kernel_rfl)
    refine ae hK41 hS ?_; clear hK41 K41
    refine dn (by kernel_rfl) ?_
    refine hK34 _ _ ?_; try clear hK34 K34
    refine wp_region_lit ?_
    refine seg ha 1 [(5, .pointer (some ⟨g12, 0, none⟩)), (6, .pointer (some ⟨g31, 0, none⟩)), (22, .slice ao16 x18.length cap16)] (by kernel_rfl) fun a ha => ?_
    refine ldA (cs := (cA .u8 8 (arC 8 (List.replicate 8 (0 : Int)) t38.1))) ha rfl (by kernel_rfl) rfl rfl rfl (cells_sub (Box.cells hBg31) (all := (cA .u8 8 (arC 8 (List.replicate 8 (0 : Int)) t38.1))) [] [] (by kernel_rfl)) fun a ha => ?_
    refine bslA (vals := ([.agg (cA .u8 8 (arC 8 (List.replicate 8 (0 : Int)) t38.1)).toArray] : List Value)) (T := 27) (z := .agg (cA .u8 8 (List.replicate 8 (0 : Int))).toArray) ha rfl (by kernel_rfl) rfl (by kernel_rfl) (s := 8) (by kernel_rfl) rfl rfl (fun w => by kernel_rfl) (by kernel_rfl) rfl rfl rfl fun a w44 g45 hN46 ha => ?_
    have hN46 := (show New _ _ _ (.cells (((cA .u8 8 (arC 8 (List.replicate 8 (0 : Int)) t38.1)) ++ ([] : List Value))).toArray 27 (0, 0)) from hN46)
    have o1 : Ok [] (blkL ao39 ++ ([g31] ++ (blkL ao16 ++ ([g12] ++ (M))))) w42.heap.size := Ok.nil _ _
    have o2 : Ok ([g45] ++ (blkL ao39 ++ ([g31] ++ (blkL ao16 ++ ([g12] ++ (M)))))) (blkL ao39 ++ ([g31] ++ (blkL ao16 ++ ([g12] ++ (M))))) w42.heap.size := (Ok.app (hN46.ok _) (Ok.refl _ _))
    have f16 := f16.chg hN46.chg o1 o2 (fun _ _ h => nomatch h) (fun _ h => mr (mr (mr (ml h))))
    have f40 := f40.chg hN46.chg o1 o2
    have hBg12 := hBg12.chg hN46.chg (fun h => nomatch h)
    have hBg31 := hBg31.chg hN46.chg (fun h => nomatch h)
    have p_i47_iD000039 : ∀ x ∈ [g45], x ∉ (blkL ao39) := fun x hx hy => absurd (hM x (ml hy)) (Nat.not_lt.2 ((hN46.ge1) x hx))
    have p_i47_i33 : ∀ x ∈ [g45], x ∉ ([g31]) := fun x hx hy => absurd (hM x (mr (ml hy))) (Nat.not_lt.2 ((hN46.ge1) x hx))
    have p_i47_i16 : ∀ x ∈ [g45], x ∉ (blkL ao16) := fun x hx hy => absurd (hM x (mr (mr (ml hy)))) (Nat.not_lt.2 ((hN46.ge1) x hx))
    have p_i47_i13 : ∀ x ∈ [g45], x ∉ ([g12]) := fun x hx hy => absurd (hM x (mr (mr (mr (ml hy))))) (Nat.not_lt.2 ((hN46.ge1) x hx))
    have p_i47_M : ∀ x ∈ [g45], x ∉ M := fun x hx hy => absurd (hM x (mr (mr (mr (mr (hy)))))) (Nat.not_lt.2 ((hN46.ge1) x hx))
    have e_i47 : ∀ x ∈ [g45], w.heap.size ≤ x := fun x hx => Nat.le_trans hC.size ((hN46.ge1) x hx)
    have hM : MS ([g45] ++ (blkL ao39 ++ ([g31] ++ (blkL ao16 ++ ([g12] ++ (M)))))) w44 := (MS.app hN46.ms (hM.chg hN46.chg))
    have hC := hC.trans hN46.chg (Ok.nil _ _)
    have f48 : Own (rArr .u8 8) 27 w44 ([g45] ++ (blkL ao39 ++ ([g31] ++ (blkL ao16 ++ ([g12] ++ (M)))))) (some ⟨g45, 0, none⟩) 1 ([(arC 8 (List.replicate 8 (0 : Int)) t38.1)] : List (List Int)) := hN46.own ⟨(cA .u8 8 (arC 8 (List.replicate 8 (0 : Int)) t38.1)), _, rfl, rfl, rfl⟩ (Nat.le_of_ble_eq_true rfl)
    obtain ⟨hx49, H⟩ := ite_some H
    refine app (r := (rArr .u8 8)) (xs := x18) (ys := ([(arC 8 (List.replicate 8 (0 : Int)) t38.1)] : List (List Int))) ha (ElemT.mk' (bytes := 8) (by kernel_rfl)) rfl rfl rfl rfl rfl f16 f48.src hx49 (by decide) fun a w50 ao51 cap51 hO51 hc51 hk51 hl51 ha => ?_
    have o1 : Ok (blkL ao16) ([g45] ++ (blkL ao39 ++ ([g31] ++ (blkL ao16 ++ ([g12] ++ (M)))))) w44.heap.size := (fun _ h => .inl (mr (mr (mr (ml h)))))
    have o2 : Ok (blkL ao51 ++ ([g45] ++ (blkL ao39 ++ ([g31] ++ ([g12] ++ (M)))))) ([g45] ++ (blkL ao39 ++ ([g31] ++ (blkL ao16 ++ ([g12] ++ (M)))))) w44.heap.size := (Ok.app (Ok.to hk51 (fun _ h => mr (mr (mr (ml h))))) (Ok.app (fun _ h => .inl (ml h)) (Ok.app (fun _ h => .inl (mr (ml h))) (Ok.app (fun _ h => .inl (mr (mr (ml h)))) (fun _ h => .inl (mr (mr (mr (mr (h))))))))))
    have f48 := f48.chg hc51 o1 o2 p_i47_i16 (fun _ h => mr (ml h))
    have f40 := f40.chg hc51 o1 o2
    have hBg12 := hBg12.chg hc51 ((fun x (hx : x ∈ [g12]) (hy : x ∈ blkL ao16) => p_i16_i13 x hy hx) g12 (by simp))
    have hBg31 := hBg31.chg hc51 (p_i33_i16 g31 (by simp))
    have p_i51_i47 : ∀ x ∈ blkL ao51, x ∉ ([g45]) := fun x hx hy => (hk51 x hx).elim (fun h => (fun x hx hy => p_i47_i16 x hy hx) x h hy) (fun h => absurd (hM x (ml hy)) (Nat.not_lt.2 h))
    have p_i51_iD000039 : ∀ x ∈ blkL ao51, x ∉ (blkL ao39) := fun x hx hy => (hk51 x hx).elim (fun h => (fun x hx hy => p_iD000039_i16 x hy hx) x h hy) (fun h => absurd (hM x (mr (ml hy))) (Nat.not_lt.2 h))
    have p_i51_i33 : ∀ x ∈ blkL ao51, x ∉ ([g31]) := fun x hx hy => (hk51 x hx).elim (fun h => (fun x hx hy => p_i33_i16 x hy hx) x h hy) (fun h => absurd (hM x (mr (mr (ml hy)))) (Nat.not_lt.2 h))
    have p_i51_i13 : ∀ x ∈ blkL ao51, x ∉ ([g12]) := fun x hx hy => (hk51 x hx).elim (fun h => p_i16_i13 x h hy) (fun h => absurd (hM x (mr (mr (mr (mr (ml hy)))))) (Nat.not_lt.2 h))
    have p_i51_M : ∀ x ∈ blkL ao51, x ∉ M := fun x hx hy => (hk51 x hx).elim (fun h => p_i16_M x h hy) (fun h => absurd (hM x (mr (mr (mr (mr (mr (hy))))))) (Nat.not_lt.2 h))
    have e_i51 : ∀ x ∈ blkL ao51, w.heap.size ≤ x := fun x hx => (hk51 x hx).elim (e_i16 x) (Nat.le_trans hC.size)
    have hM : MS (blkL ao51 ++ ([g45] ++ (blkL ao39 ++ ([g31] ++ ([g12] ++ (M)))))) w50 := (MS.app hl51 (MS.app (fun x h => hM.chg hc51 x (ml h)) (MS.app (fun x h => hM.chg hc51 x (mr (ml h))) (MS.app (fun x h => hM.chg hc51 x (mr (mr (ml h)))) (fun x h => hM.chg hc51 x (mr (mr (mr (mr (h))))))))))
    have hC := hC.trans hc51 (fun x h => .inr (e_i16 x h))
    have f51 := hO51.chg (M' := blkL ao51 ++ ([g45] ++ (blkL ao39 ++ ([g31] ++ ([g12] ++ (M)))))) (Chg.refl [] _) (Ok.nil _ _) (Ok.app (fun _ h => .inl (ml h)) (Ok.to (Ok.app (fun _ h => .inl (ml h)) (Ok.app (fun _ h => .inl (mr (ml h))) (Ok.app (fun _ h => .inl (mr (mr (ml h)))) (fun _ h => .inl (mr (mr (mr (mr (h))))))))) (fun _ h => mr h))) (fun _ _ h => nomatch h) (fun _ h => ml h)
    refine seg ha 1 [(4, .slice ao51 (x18 ++ ([(arC 8 (List.replicate 8 (0 : Int)) t38.1)] : List (List Int))).length cap51), (5, .pointer (some ⟨g12, 0, none⟩))] (by kernel_rfl) fun a ha => ?_
    have o1 : Ok [] (blkL ao51 ++ ([g45] ++ (blkL ao39 ++ ([g31] ++ ([g12] ++ (M)))))) w50.heap.size := Ok.nil _ _
    have o2 : Ok (blkL ao51 ++ ([g12] ++ (M))) (blkL ao51 ++ ([g45] ++ (blkL ao39 ++ ([g31] ++ ([g12] ++ (M)))))) w50.heap.size := (Ok.app (fun _ h => .inl (ml h)) (fun _ h => .inl (mr (mr (mr (mr (h)))))))
    have f51 := f51.chg (Chg.refl [] _) o1 o2 (fun _ _ h => nomatch h) (fun _ h => ml h)
    have f40 := f40.chg (Chg.refl [] _) o1 o2
    have hM : MS (blkL ao51 ++ ([g12] ++ (M))) w50 := (MS.app (fun x h => hM.chg (Chg.refl [] _) x (ml h)) (fun x h => hM.chg (Chg.refl [] _) x (mr (mr (mr (mr (h)))))))
    exact ⟨kk, Nat.lt_succ_self _, ⟨(x18 ++ ([(arC 8 (List.replicate 8 (0 : Int)) t38.1)] : List (List Int))), t38.2.rest.left, t38.2.rest.bad, ao51, cap51, ao40, cap40, H, (ha.sel (by kernel_rfl)), f51, f40, hBg12, e_i51, p_i51_i13, p_i51_M, hC, hM⟩⟩
   ·have H := ite_f hc28 H
    refine wp_exit ?_
    simp only [Exit.then, Exit.inBlock, ↓reduceIte, Nat.reduceEqDiff]
    obtain rfl := Option.some.inj H
    exact J15 _ _ ao16 cap16 ao17 cap17 (ha.sel (by kernel_rfl)) f16 f17 hBg12 e_i16 p_i16_i13 p_i16_M hC hM
def vineryref04_Same.l0 (a0 : List (List Int)) (a1 : List (List Int)) : Nat → Int → Option ((Bool) ⊕ (Unit))
  | 0, _ => none
  | kk + 1, x11 => (if (decide (x11 < (a0.length : Int))) = true then (if 0 ≤ x11 ∧ x11 < (a0.length : Int) then (if 0 ≤ x11 ∧ x11 < (a1.length : Int) then (if (!(eqA 8 (rd a0 x11) (rd a1 x11))) = true then some (.inl ((false : Bool))) else vineryref04_Same.l0 a0 a1 kk (IntKind.i64.wrap (x11 + (1 : Int)))) else none) else none) else some (.inr (() : Unit)))
def vineryref04_Same.f (k : Nat) (a0 : List (List Int)) (a1 : List (List Int)) : Option (Bool) := (if ((a0.length : Int) != (a1.length : Int)) = true then some ((false : Bool)) else (vineryref04_Same.l0 a0 a1 k (0 : Int)).bind fun s10 => match s10 with | .inl r => some r | .inr s10' => some ((true : Bool)))
set_option maxRecDepth 100000 in
theorem vineryref04_Same.walk (w : World) (M : List Nat) (hM : MS M w) (a0 : List (List Int)) (ao1 : Option Addr) (cap1 : Nat) (f1 : RSl (rArr .u8 8) 27 w M ao1 cap1 a0) (a1 : List (List Int)) (ao2 : Option Addr) (cap2 : Nat) (f2 : RSl (rArr .u8 8) 27 w M ao2 cap2 a1) (k : Nat) (r : Bool) (H : vineryref04_Same.f k a0 a1 = some r) :
    To Tryz.prog 17 [.slice ao1 a0.length cap1, .slice ao2 a1.length cap2] w fun v w' => v = .bool r ∧ Chg [] w w' ∧ MS (M) w' := by
 unfold vineryref04_Same.f at H
 refine ent Tryz.func17 rfl [(0, .slice ao1 a0.length cap1), (1, .slice ao2 a1.length cap2)] rfl (by rfl) fun a ha => ?_
 have hC : Chg [] w w := Chg.refl _ _
 refine wp_seq_k fun K3 hK3 => ?_
 refine wp_region_lit ?_
 refine seg ha 1 [(0, .slice ao1 a0.length cap1), (1, .slice ao2 a1.length cap2)] (by kernel_rfl) fun a ha => ?_
 refine hK3 _ _ ?_; try clear hK3 K3
 refine wp_seq_k fun K4 hK4 => ?_
 refine wp_seq_k fun K5 hK5 => ?_
 refine wp_region_lit ?_
 refine seg ha 5 [(0, .slice ao1 a0.length cap1), (1, .slice ao2 a1.length cap2), (10, .bool ((a0.length : Int) != (a1.length : Int)))] (by kernel_rfl) fun a ha => ?_
 refine hK5 _ _ ?_; try clear hK5 K5
 refine cnd ha rfl (fun hc6 => ?_) (fun hc6 => ?_)
 ·have H := ite_t hc6 H
  refine wp_seq_k fun K7 hK7 => ?_
  refine wp_region_lit ?_
  refine seg ha 1 [(4, .bool false)] (by kernel_rfl) fun a ha => ?_
  refine hK7 _ _ ?_; try clear hK7 K7
  refine wp_ret ?_
  try simp only [Exit.then, Exit.inBlock]
  obtain rfl := Option.some.inj H
  refine rt1 ha rfl rfl ?_
  exact ⟨rfl, hC, hM⟩
 ·have H := ite_f hc6 H
  refine wp_skip ?_
  refine hK4 _ _ ?_; try clear hK4 K4
  refine wp_seq_k fun K8 hK8 => ?_
  refine wp_seq_k fun K9 hK9 => ?_
  refine wp_region_lit ?_
  refine seg ha 1 [(0, .slice ao1 a0.length cap1), (1, .slice ao2 a1.length cap2), (5, .int .i64 (0 : Int))] (by kernel_rfl) fun a ha => ?_
  refine hK9 _ _ ?_; try clear hK9 K9
  refine wp_block ?_
  obtain ⟨s10, H10, H⟩ := bind_some H
  have J10 : ∀ s10' (a : Act) (wx10 : World), s10 = .inr s10' → Has a Tryz.f17.ntmps [] → (Chg [] w wx10) → (MS (M) wx10) → K8 a wx10 := by
   intro s10' a wx10 hs ha hC hM
   subst hs
   refine hK8 _ _ ?_; try clear hK8 K8
   refine wp_seq_k fun K12 hK12 => ?_
   refine wp_region_lit ?_
   refine seg ha 1 [(4, .bool true)] (by kernel_rfl) fun a ha => ?_
   refine hK12 _ _ ?_; try clear hK12 K12
   refine wp_ret ?_
   try simp only [Exit.then, Exit.inBlock]
   obtain rfl := Option.some.inj H
   refine rt1 ha rfl rfl ?_
   exact ⟨rfl, hC, hM⟩
  have Hc10 := H
  have H := H10
  refine wp_loop_ghost (fun kk a w10 => ∃ (x11 : Int), vineryref04_Same.l0 a0 a1 kk x11 = some s10 ∧ Has a Tryz.f17.ntmps [(0, .slice ao1 a0.length cap1), (1, .slice ao2 a1.length cap2), (5, .int .i64 x11)] ∧ (RSl (rArr .u8 8) 27 w10 (M) ao1 cap1 a0) ∧ (RSl (rArr .u8 8) 27 w10 (M) ao2 cap2 a1) ∧ (Chg [] w w10) ∧ (MS (M) w10)) k ?_ ?_
  ·skip
   exact ⟨(0 : Int), H, (ha.sel (by kernel_rfl)), f1, f2, hC, hM⟩
  ·rintro kk a w10 ⟨x11, H, ha, f1, f2, hC, hM⟩
   obtain _ | kk := kk
   ·exact nomatch (show none = some _ from H)
   rw [vineryref04_Same.l0] at H
   refine wp_seq_k fun K13 hK13 => ?_
   refine wp_seq_k fun K14 hK14 => ?_
   refine wp_region_lit ?_
   refine seg ha 4 [(0, .slice ao1 a0.length cap1), (1, .slice ao2 a1.length cap2), (5, .int .i64 x11), (14, .bool (decide (x11 < (a0.length : Int))))] (by kernel_rfl) fun a ha => ?_
   refine hK14 _ _ ?_; try clear hK14 K14
   refine cnd ha rfl (fun hc15 => ?_) (fun hc15 => ?_)
   ·have H := ite_t hc15 H
    refine wp_skip ?_
    refine hK13 _ _ ?_; try clear hK13 K13
    refine wp_seq_k fun K16 hK16 => ?_
    refine wp_block ?_
    refine wp_seq_k fun K17 hK17 => ?_
    refine drq0 (fun w' => Chg [] w10 w') (by kernel_rfl) (by kernel_rfl) (fun _ h => h) ?_
    refine qp 0 (.slice ao1 a0.length cap1) ha rfl rfl rfl (by kernel_rfl) fun a ha => ?_
    refine qp 0 (.int .i64 x11) ha rfl rfl rfl (by kernel_rfl) fun a ha => ?_
    obtain ⟨⟨hx18, hx18'⟩, H⟩ := ite_some H
    obtain ⟨ge19, oe200, cs21, hx18eq, hn24, hR22, hE23⟩ := RSl.elem f1 (Int.toNat x11) (by omega)
    rw [rd_get] at hR22
    obtain rfl := hR22
    have hE23 : ∀ j v, (cA .u8 8 (rd a0 x11))[j]? = some v → w10.cell? ⟨ge19, (oe200 + (Int.toNat x11) * (rArr .u8 8).sz) + j, none⟩ = some v := hE23
    refine qv (v := .pointer (some ⟨ge19, (oe200 + (Int.toNat x11) * (rArr .u8 8).sz), none⟩)) ha rfl rfl rfl (fun w' hs => ix_run (r := (rArr .u8 8)) (T := 27) ha (by kernel_rfl) (by kernel_rfl) (by rfl) (by rfl) hx18eq hx18 hx18') fun a ha => ?_
    refine qv (v := .agg (cA .u8 8 (rd a0 x11)).toArray) ha rfl rfl rfl (fun w' hs => ldA_run (cs := (cA .u8 8 (rd a0 x11))) ha rfl (by kernel_rfl) (cells_sub (fun j v hv => hs.keep (hE23 j v hv)) (all := (cA .u8 8 (rd a0 x11))) [] [] (by kernel_rfl))) fun a ha => ?_
    refine qp 0 (.slice ao2 a1.length cap2) ha rfl rfl rfl (by kernel_rfl) fun a ha => ?_
    refine qp 0 (.int .i64 x11) ha rfl rfl rfl (by kernel_rfl) fun a ha => ?_
    obtain ⟨⟨hx25, hx25'⟩, H⟩ := ite_some H
    obtain ⟨ge26, oe270, cs28, hx25eq, hn31, hR29, hE30⟩ := RSl.elem f2 (Int.toNat x11) (by omega)
    rw [rd_get] at hR29
    obtain rfl := hR29
    have hE30 : ∀ j v, (cA .u8 8 (rd a1 x11))[j]? = some v → w10.cell? ⟨ge26, (oe270 + (Int.toNat x11) * (rArr .u8 8).sz) + j, none⟩ = some v := hE30
    refine qv (v := .pointer (some ⟨ge26, (oe270 + (Int.toNat x11) * (rArr .u8 8).sz), none⟩)) ha rfl rfl rfl (fun w' hs => ix_run (r := (rArr .u8 8)) (T := 27) ha (by kernel_rfl) (by kernel_rfl) (by rfl) (by rfl) hx25eq hx25 hx25') fun a ha => ?_
    refine qv (v := .agg (cA .u8 8 (rd a1 x11)).toArray) ha rfl rfl rfl (fun w' hs => ldA_run (cs := (cA .u8 8 (rd a1 x11))) ha rfl (by kernel_rfl) (cells_sub (fun j v hv => hs.keep (hE30 j v hv)) (all := (cA .u8 8 (rd a1 x11))) [] [] (by kernel_rfl))) fun a ha => ?_
    refine qv (v := .bool (!(eqA 8 (rd a0 x11) (rd a1 x11)))) ha rfl rfl rfl (fun w' hs => nes_run (r := (eqA 8 (rd a0 x11) (rd a1 x11))) (m := 9) ha rfl rfl (by kernel_rfl) rfl (by kernel_rfl) w') fun a ha => ?_
    refine wpQuiet_nil ?_
    intro w32 hc33
    have o1 : Ok [] (M) w10.heap.size := Ok.nil _ _
    have o2 : Ok (M) (M) w10.heap.size := (Ok.refl _ _)
    have f1 := f1.chg hc33 o1 o2
    have f2 := f2.chg hc33 o1 o2
    have q_hn24 : ge19 ∉ M := fun h => (o2 ge19 h).elim hn24 (fun h => absurd (lt_cell (hE23 0 _ rfl)) (Nat.not_lt.2 h))
    have hE23 : ∀ j v, (cA .u8 8 (rd a0 x11))[j]? = some v → w32.cell? ⟨ge19, (oe200 + (Int.toNat x11) * (rArr .u8 8).sz) + j, none⟩ = some v := fun j v hv => (cell_keep hc33 o1 hn24 (hE23 j v hv))
    have hn24 := q_hn24
    have q_hn31 : ge26 ∉ M := fun h => (o2 ge26 h).elim hn31 (fun h => absurd (lt_cell (hE30 0 _ rfl)) (Nat.not_lt.2 h))
    have hE30 : ∀ j v, (cA .u8 8 (rd a1 x11))[j]? = some v → w32.cell? ⟨ge26, (oe270 + (Int.toNat x11) * (rArr .u8 8).sz) + j, none⟩ = some v := fun j v hv => (cell_keep hc33 o1 hn31 (hE30 j v hv))
    have hn31 := q_hn31
    have hM : MS (M) w32 := (hM.chg hc33)
    have hC := hC.trans hc33 (Ok.nil _ _)
    refine wpl_end ?_
    refine hK17 _ _ ?_; try clear hK17 K17
    refine cnd ha rfl (fun hc34 => ?_) (fun hc34 => ?_)
    ·have H := ite_t hc34 H
     refine wp_seq_k fun K35 hK35 => ?_
     refine wp_region_lit ?_
     refine seg ha 1 [(4, .bool false)] (by kernel_rfl) fun a ha => ?_
     refine hK35 _ _ ?_; try clear hK35 K35
     refine wp_ret ?_
     try simp only [Exit.then, Exit.inBlock]
     obtain rfl := Option.some.inj H
     have H := (show some _ = some _ from Hc10)
     obtain rfl := Option.some.inj H
     refine rt1 ha rfl rfl ?_
     exact ⟨rfl, hC, hM⟩
    ·have H := ite_f hc34 H
     refine wp_skip ?_
     refine hK16 _ _ ?_; try clear hK16 K16
     refine wp_region_lit ?_
     refine seg ha 3 [(0, .slice ao1 a0.length cap1), (1, .slice ao2 a1.length cap2), (5, .int .i64 (IntKind.i64.wrap (x11 + (1 : Int))))] (by kernel_rfl) fun a ha => ?_
     exact ⟨kk, Nat.lt_succ_self _, ⟨IntKind.i64.wrap (x11 + (1 : Int)), H, (ha.sel (by kernel_rfl)), f1, f2, hC, hM⟩⟩
   ·have H := ite_f hc15 H
    refine wp_exit ?_
    simp only [Exit.then, Exit.inBlock, ↓reduceIte, Nat.reduceEqDiff]
    obtain rfl := Option.some.inj H
    exact J10 _ _ _ rfl (ha.sel (by kernel_rfl)) hC hM
def vinerylaw04_CommunityBack.f (k : Nat) (a0 : List Int) (a1 : List UInt8) (a2 : S_api_Addr) (a3 : Int) (a4 : List (List Int)) : Option (Bool) := (vinerylaw04_small.f k ).bind fun t14 => (community_Text.f k a0).bind fun t16 => (community_Parse.f k t16).bind fun t17 => ((if (t17.2 != (0 : Int)) = true then some (true : Bool) else some (!(eqA 8 t17.1 a0) : Bool))).bind fun s26 => (if s26 = true then some ((false : Bool)) else (community_Parse.f k a1).bind fun t30 => ((if (t30.2 == (0 : Int)) = true then (community_Text.f k t30.1).bind fun t94 => some (!((bstr t94).toList == (bstr a1).toList) : Bool) else some (false : Bool))).bind fun s39 => (if s39 = true then some ((false : Bool)) else (community_Import.f k a2 a3).bind fun t43 => (community_Importer.f k t43.1).bind fun t51 => ((if (t43.2 == (0 : Int)) = true then (if (!t51.2.2) = true then some (true : Bool) else (if (!((t51.1.Size == a2.Size) && ((eqA 16 t51.1.B a2.B) && true))) = true then some (true : Bool) else (if (t51.2.1 != a3) = true then some (true : Bool) else (community_Kind.f t43.1).bind fun t92 => some (t92 != (2 : Int) : Bool)))) else some (false : Bool))).bind fun s60 => (if s60 = true then some ((false : Bool)) else (community_Source.f k a3).bind fun t64 => (community_AS.f k t64.1).bind fun t68 => ((if (t64.2 == (0 : Int)) = true then (if (!t68.2) = true then some (true : Bool) else (if (t68.1 != a3) = true then some (true : Bool) else (community_Kind.f t64.1).bind fun t87 => some (t87 != (3 : Int) : Bool))) else some (false : Bool))).bind fun s71 => (if s71 = true then some ((false : Bool)) else (community_Bytes.f k a4).bind fun t75 => (community_Read.f k t75).bind fun t77 => ((if t14 = true then (if (t77.2 == (0 : Int)) = true then (vineryref04_Same.f k t77.1 a4).bind fun t83 => some (t83 : Bool) else some (false : Bool)) else some (false : Bool))).bind fun s80 => some ((s80 : Bool))))))
set_option maxRecDepth 100000 in
theorem vinerylaw04_CommunityBack.walk (w : World) (M : List Nat) (hM : MS M w) (hG : GF w M) (a0 : List Int) (a1 : List UInt8) (a2 : S_api_Addr) (a3 : Int) (a4 : List (List Int)) (ao1 : Option Addr) (cap1 : Nat) (f1 : RSl (rArr .u8 8) 27 w M ao1 cap1 a4) (k : Nat) (r : Bool) (H : vinerylaw04_CommunityBack.f k a0 a1 a2 a3 a4 = some r) :
    To Tryz.prog 7 [.agg (cA .u8 8 a0).toArray, .string (bstr a1), .agg (cS_api_Addr a2).toArray, .int .i64 a3, .slice ao1 a4.length cap1] w fun v w' => v = .bool r ∧ Chg [] w w' ∧ MS (M) w' := by
 unfold vinerylaw04_CommunityBack.f at H
 refine ent Tryz.func7 rfl [(0, .agg (cA .u8 8 a0).toArray), (1, .string (bstr a1)), (2, .agg (cS_api_Addr a2).toArray), (3, .int .i64 a3), (4, .slice ao1 a4.length cap1)] rfl (by rfl) fun a ha => ?_
 have hC : Chg [] w w := Chg.refl _ _
 refine wp_seq_k fun K2 hK2 => ?_
 refine wp_region_lit ?_
 refine bx (cs := (cA .u8 8 a0)) ha rfl rfl rfl rfl rfl fun a w3 g4 hN5 ha => ?_
 have hn7 := hN5.notin hM
 have o1 : Ok [] (M) w.heap.size := Ok.nil _ _
 have o2 : Ok (M) (M) w.heap.size := (Ok.refl _ _)
 have hG := hG.chg hN5.chg o1 o2
 have f1 := f1.chg hN5.chg o1 o2
 have hM : MS (M) w3 := (hM.chg hN5.chg)
 have hC := hC.trans hN5.chg (Ok.nil _ _)
 have hE6 : ∀ j v, (cA .u8 8 a0)[j]? = some v → w3.cell? ⟨g4, 0 + j, none⟩ = some v := Box.cells (New.box hN5)
 refine bx (cs := (cS_api_Addr a2)) ha rfl rfl rfl rfl rfl fun a w8 g9 hN10 ha => ?_
 have hn12 := hN10.notin hM
 have o1 : Ok [] (M) w3.heap.size := Ok.nil _ _
 have o2 : Ok (M) (M) w3.heap.size := (Ok.refl _ _)
 have hG := hG.chg hN10.chg o1 o2
 have f1 := f1.chg hN10.chg o1 o2
 have q_hn7 : g4 ∉ M := fun h => (o2 g4 h).elim hn7 (fun h => absurd (lt_cell (hE6 0 _ rfl)) (Nat.not_lt.2 h))
 have hE6 : ∀ j v, (cA .u8 8 a0)[j]? = some v → w8.cell? ⟨g4, 0 + j, none⟩ = some v := fun j v hv => (cell_keep hN10.chg o1 hn7 (hE6 j v hv))
 have hn7 := q_hn7
 have hM : MS (M) w8 := (hM.chg hN10.chg)
 have hC := hC.trans hN10.chg (Ok.nil _ _)
 have hE11 : ∀ j v, (cS_api_Addr a2)[j]? = some v → w8.cell? ⟨g9, 0 + j, none⟩ = some v := Box.cells (New.box hN10)
 refine seg ha 1 [(1, .string (bstr a1)), (3, .int .i64 a3), (4, .slice ao1 a4.length cap1), (5, .pointer (some ⟨g4, 0, none⟩)), (7, .pointer (some ⟨g9, 0, none⟩))] (by kernel_rfl) fun a ha => ?_
 refine hK2 _ _ ?_; try clear hK2 K2
 refine wp_seq_k fun K13 hK13 => ?_
 refine wp_region_lit ?_
 obtain ⟨t14, H14, H⟩ := bind_some H
 refine cl ha (by rfl) (by kernel_rfl) (by rfl) (by rfl) (by rfl) (vinerylaw04_small.walk w8 _ hM hG  k _ H14) ?_
 rintro _ w14 ⟨rfl, hc14, hMn⟩ a ha
 have o1 : Ok [] (M) w8.heap.size := Ok.nil _ _
 have o2 : Ok (M) (M) w8.heap.size := (Ok.refl _ _)
 have hG := hG.chg hc14 o1 o2
 have f1 := f1.chg hc14 o1 o2
 have q_hn7 : g4 ∉ M := fun h => (o2 g4 h).elim hn7 (fun h => absurd (lt_cell (hE6 0 _ rfl)) (Nat.not_lt.2 h))
 have hE6 : ∀ j v, (cA .u8 8 a0)[j]? = some v → w14.cell? ⟨g4, 0 + j, none⟩ = some v := fun j v hv => (cell_keep hc14 o1 hn7 (hE6 j v hv))
 have hn7 := q_hn7
 have q_hn12 : g9 ∉ M := fun h => (o2 g9 h).elim hn12 (fun h => absurd (lt_cell (hE11 0 _ rfl)) (Nat.not_lt.2 h))
 have hE11 : ∀ j v, (cS_api_Addr a2)[j]? = some v → w14.cell? ⟨g9, 0 + j, none⟩ = some v := fun j v hv => (cell_keep hc14 o1 hn12 (hE11 j v hv))
 have hn12 := q_hn12
 have hM : MS (M) w14 := (hM.chg hc14)
 have hC := hC.trans hc14 (Ok.nil _ _)
 refine seg ha 1 [(1, .string (bstr a1)), (3, .int .i64 a3), (4, .slice ao1 a4.length cap1), (5, .pointer (some ⟨g4, 0, none⟩)), (7, .pointer (some ⟨g9, 0, none⟩)), (11, .bool t14)] (by kernel_rfl) fun a ha => ?_
 refine hK13 _ _ ?_; try clear hK13 K13
 refine wp_seq_k fun K15 hK15 => ?_
 refine wp_region_lit ?_
 refine ldA (cs := (cA .u8 8 a0)) ha rfl (by kernel_rfl) rfl rfl rfl (cells_sub hE6 (all := (cA .u8 8 a0)) [] [] (by kernel_rfl)) fun a ha => ?_
 obtain ⟨t16, H16, H⟩ := bind_some H
 refine cl ha (by rfl) (by kernel_rfl) (by rfl) (by rfl) (by rfl) (community_Text.walk w14 _ hM hG a0 k _ H16) ?_
 rintro _ w16 ⟨rfl, hc16, hMn⟩ a ha
 have o1 : Ok [] (M) w14.heap.size := Ok.nil _ _
 have o2 : Ok (M) (M) w14.heap.size := (Ok.refl _ _)
 have hG := hG.chg hc16 o1 o2
 have f1 := f1.chg hc16 o1 o2
 have q_hn7 : g4 ∉ M := fun h => (o2 g4 h).elim hn7 (fun h => absurd (lt_cell (hE6 0 _ rfl)) (Nat.not_lt.2 h))
 have hE6 : ∀ j v, (cA .u8 8 a0)[j]? = some v → w16.cell? ⟨g4, 0 + j, none⟩ = some v := fun j v hv => (cell_keep hc16 o1 hn7 (hE6 j v hv))
 have hn7 := q_hn7
 have q_hn12 : g9 ∉ M := fun h => (o2 g9 h).elim hn12 (fun h => absurd (lt_cell (hE11 0 _ rfl)) (Nat.not_lt.2 h))
 have hE11 : ∀ j v, (cS_api_Addr a2)[j]? = some v → w16.cell? ⟨g9, 0 + j, none⟩ = some v := fun j v hv => (cell_keep hc16 o1 hn12 (hE11 j v hv))
 have hn12 := q_hn12
 have hM : MS (M) w16 := (hM.chg hc16)
 have hC := hC.trans hc16 (Ok.nil _ _)
 obtain ⟨t17, H17, H⟩ := bind_some H
 refine cl ha (by rfl) (by kernel_rfl) (by rfl) (by rfl) (by rfl) (community_Parse.walk w16 _ hM hG t16 k _ H17) ?_
 rintro _ w17 ⟨rfl, hc17, hMn⟩ a ha
 have o1 : Ok [] (M) w16.heap.size := Ok.nil _ _
 have o2 : Ok (M) (M) w16.heap.size := (Ok.refl _ _)
 have hG := hG.chg hc17 o1 o2
 have f1 := f1.chg hc17 o1 o2
 have q_hn7 : g4 ∉ M := fun h => (o2 g4 h).elim hn7 (fun h => absurd (lt_cell (hE6 0 _ rfl)) (Nat.not_lt.2 h))
 have hE6 : ∀ j v, (cA .u8 8 a0)[j]? = some v → w17.cell? ⟨g4, 0 + j, none⟩ = some v := fun j v hv => (cell_keep hc17 o1 hn7 (hE6 j v hv))
 have hn7 := q_hn7
 have q_hn12 : g9 ∉ M := fun h => (o2 g9 h).elim hn12 (fun h => absurd (lt_cell (hE11 0 _ rfl)) (Nat.not_lt.2 h))
 have hE11 : ∀ j v, (cS_api_Addr a2)[j]? = some v → w17.cell? ⟨g9, 0 + j, none⟩ = some v := fun j v hv => (cell_keep hc17 o1 hn12 (hE11 j v hv))
 have hn12 := q_hn12
 have hM : MS (M) w17 := (hM.chg hc17)
 have hC := hC.trans hc17 (Ok.nil _ _)
 refine seg ha 3 [(1, .string (bstr a1)), (3, .int .i64 a3), (4, .slice ao1 a4.length cap1), (5, .pointer (some ⟨g4, 0, none⟩)), (7, .pointer (some ⟨g9, 0, none⟩)), (11, .bool t14), (25, .agg (cA .u8 8 t17.1).toArray), (26, .int .i64 t17.2)] (by kernel_rfl) fun a ha => ?_
 refine al (cs := (cA .u8 8 (List.replicate 8 (0 : Int)))) (z := .agg (cA .u8 8 (List.replicate 8 (0 : Int))).toArray) ha (fun w => by kernel_rfl) rfl rfl rfl rfl fun a w18 g19 hN20 ha => ?_
 have o1 : Ok [] (M) w17.heap.size := Ok.nil _ _
 have o2 : Ok ([g19] ++ (M)) (M) w17.heap.size := (Ok.app (hN20.ok _) (Ok.refl _ _))
 have hG := hG.chg hN20.chg o1 o2
 have f1 := f1.chg hN20.chg o1 o2
 have q_hn7 : g4 ∉ [g19] ++ (M) := fun h => (o2 g4 h).elim hn7 (fun h => absurd (lt_cell (hE6 0 _ rfl)) (Nat.not_lt.2 h))
 have hE6 : ∀ j v, (cA .u8 8 a0)[j]? = some v → w18.cell? ⟨g4, 0 + j, none⟩ = some v := fun j v hv => (cell_keep hN20.chg o1 hn7 (hE6 j v hv))
 have hn7 := q_hn7
 have q_hn12 : g9 ∉ [g19] ++ (M) := fun h => (o2 g9 h).elim hn12 (fun h => absurd (lt_cell (hE11 0 _ rfl)) (Nat.not_lt.2 h))
 have hE11 : ∀ j v, (cS_api_Addr a2)[j]? = some v → w18.cell? ⟨g9, 0 + j, none⟩ = some v := fun j v hv => (cell_keep hN20.chg o1 hn12 (hE11 j v hv))
 have hn12 := q_hn12
 have p_i21_M : ∀ x ∈ [g19], x ∉ M := fun x hx hy => absurd (hM x (hy)) (Nat.not_lt.2 ((hN20.ge1) x hx))
 have e_i21 : ∀ x ∈ [g19], w.heap.size ≤ x := fun x hx => Nat.le_trans hC.size ((hN20.ge1) x hx)
 have hM : MS ([g19] ++ (M)) w18 := (MS.app hN20.ms (hM.chg hN20.chg))
 have hC := hC.trans hN20.chg (Ok.nil _ _)
 have hBg19 : Box w18 g19 (cA .u8 8 (List.replicate 8 (0 : Int))) := hN20.box
 refine stA (l := (cA .u8 8 t17.1)) ha rfl rfl rfl (by kernel_rfl) rfl rfl hBg19 rfl fun a w22 ha hb2 hc23 _ => ?_
 have o1 : Ok [g19] ([g19] ++ (M)) w18.heap.size := (fun _ h => .inl (ml h))
 have o2 : Ok ([g19] ++ (M)) ([g19] ++ (M)) w18.heap.size := (Ok.refl _ _)
 have hG := hG.chg hc23 o1 o2
 have f1 := f1.chg hc23 o1 o2
 have q_hn7 : g4 ∉ [g19] ++ (M) := fun h => (o2 g4 h).elim hn7 (fun h => absurd (lt_cell (hE6 0 _ rfl)) (Nat.not_lt.2 h))
 have hE6 : ∀ j v, (cA .u8 8 a0)[j]? = some v → w22.cell? ⟨g4, 0 + j, none⟩ = some v := fun j v hv => (cell_keep hc23 o1 hn7 (hE6 j v hv))
 have hn7 := q_hn7
 have q_hn12 : g9 ∉ [g19] ++ (M) := fun h => (o2 g9 h).elim hn12 (fun h => absurd (lt_cell (hE11 0 _ rfl)) (Nat.not_lt.2 h))
 have hE11 : ∀ j v, (cS_api_Addr a2)[j]? = some v → w22.cell? ⟨g9, 0 + j, none⟩ = some v := fun j v hv => (cell_keep hc23 o1 hn12 (hE11 j v hv))
 have hn12 := q_hn12
 have hM : MS ([g19] ++ (M)) w22 := (hM.chg hc23)
 have hC := hC.trans hc23 (fun x h => .inr (e_i21 x h))
 have hBg19 : Box w22 g19 (cA .u8 8 t17.1) := hb2
 refine seg ha 1 [(1, .string (bstr a1)), (3, .int .i64 a3), (4, .slice ao1 a4.length cap1), (5, .pointer (some ⟨g4, 0, none⟩)), (7, .pointer (some ⟨g9, 0, none⟩)), (11, .bool t14), (12, .pointer (some ⟨g19, 0, none⟩)), (13, .int .i64 t17.2)] (by kernel_rfl) fun a ha => ?_
 refine hK15 _ _ ?_; try clear hK15 K15
 refine wp_seq_k fun K24 hK24 => ?_
 refine wp_seq_k fun K25 hK25 => ?_
 refine wp_region_lit ?_
 obtain ⟨s26, H26, H⟩ := bind_some H
 have J26 : ∀ (a : Act) (w26 : World), Has a Tryz.f7.ntmps [(1, .string (bstr a1)), (3, .int .i64 a3), (4, .slice ao1 a4.length cap1), (7, .pointer (some ⟨g9, 0, none⟩)), (11, .bool t14), (33, .bool s26)] → (RSl (rArr .u8 8) 27 w26 ([g19] ++ (M)) ao1 cap1 a4) → (Box w26 g19 (cA .u8 8 t17.1)) → (∀ j v, (cS_api_Addr a2)[j]? = some v → w26.cell? ⟨g9, 0 + j, none⟩ = some v) → (g9 ∉ ([g19] ++ (M))) → (GF w26 ([g19] ++ (M))) → (Chg [] w w26) → (MS ([g19] ++ (M)) w26) → K25 a w26 := by
  intro a w26 ha f1 hBg19 hE11 hn12 hG hC hM
  refine hK25 _ _ ?_; try clear hK25 K25
  refine cnd ha rfl (fun hc27 => ?_) (fun hc27 => ?_)
  ·have H := ite_t hc27 H
   refine wp_seq_k fun K28 hK28 => ?_
   refine wp_region_lit ?_
   refine seg ha 1 [(10, .bool false)] (by kernel_rfl) fun a ha => ?_
   refine hK28 _ _ ?_; try clear hK28 K28
   refine wp_ret ?_
   try simp only [Exit.then, Exit.inBlock]
   have o1 : Ok [] ([g19] ++ (M)) w26.heap.size := Ok.nil _ _
   have o2 : Ok (M) ([g19] ++ (M)) w26.heap.size := (fun _ h => .inl (mr (h)))
   have hG := hG.chg (Chg.refl [] _) o1 o2
   have hM : MS (M) w26 := (fun x h => hM.chg (Chg.refl [] _) x (mr (h)))
   obtain rfl := Option.some.inj H
   refine rt1 ha rfl rfl ?_
   exact ⟨rfl, hC, hM⟩
  ·have H := ite_f hc27 H
   refine wp_skip ?_
   refine hK24 _ _ ?_; try clear hK24 K24
   refine wp_seq_k fun K29 hK29 => ?_
   refine wp_region_lit ?_
   refine seg ha 1 [(1, .string (bstr a1)), (3, .int .i64 a3), (4, .slice ao1 a4.length cap1), (7, .pointer (some ⟨g9, 0, none⟩)), (11, .bool t14), (35, .string (bstr a1))] (by kernel_rfl) fun a ha => ?_
   obtain ⟨t30, H30, H⟩ := bind_some H
   refine cl ha (by rfl) (by kernel_rfl) (by rfl) (by rfl) (by rfl) (community_Parse.walk w26 _ hM hG a1 k _ H30) ?_
   rintro _ w30 ⟨rfl, hc30, hMn⟩ a ha
   have o1 : Ok [] ([g19] ++ (M)) w26.heap.size := Ok.nil _ _
   have o2 : Ok ([g19] ++ (M)) ([g19] ++ (M)) w26.heap.size := (Ok.refl _ _)
   have hG := hG.chg hc30 o1 o2
   have f1 := f1.chg hc30 o1 o2
   have hBg19 := hBg19.chg hc30 (fun h => nomatch h)
   have q_hn12 : g9 ∉ [g19] ++ (M) := fun h => (o2 g9 h).elim hn12 (fun h => absurd (lt_cell (hE11 0 _ rfl)) (Nat.not_lt.2 h))
   have hE11 : ∀ j v, (cS_api_Addr a2)[j]? = some v → w30.cell? ⟨g9, 0 + j, none⟩ = some v := fun j v hv => (cell_keep hc30 o1 hn12 (hE11 j v hv))
   have hn12 := q_hn12
   have hM : MS ([g19] ++ (M)) w30 := (hM.chg hc30)
   have hC := hC.trans hc30 (Ok.nil _ _)
   refine seg ha 3 [(1, .string (bstr a1)), (3, .int .i64 a3), (4, .slice ao1 a4.length cap1), (7, .pointer (some ⟨g9, 0, none⟩)), (11, .bool t14), (37, .agg (cA .u8 8 t30.1).toArray), (38, .int .i64 t30.2)] (by kernel_rfl) fun a ha => ?_
   refine al (cs := (cA .u8 8 (List.replicate 8 (0 : Int)))) (z := .agg (cA .u8 8 (List.replicate 8 (0 : Int))).toArray) ha (fun w => by kernel_rfl) rfl rfl rfl rfl fun a w31 g32 hN33 ha => ?_
   have o1 : Ok [] ([g19] ++ (M)) w30.heap.size := Ok.nil _ _
   have o2 : Ok ([g32] ++ ([g19] ++ (M))) ([g19] ++ (M)) w30.heap.size := (Ok.app (hN33.ok _) (Ok.refl _ _))
   have hG := hG.chg hN33.chg o1 o2
   have f1 := f1.chg hN33.chg o1 o2
   have hBg19 := hBg19.chg hN33.chg (fun h => nomatch h)
   have q_hn12 : g9 ∉ [g32] ++ ([g19] ++ (M)) := fun h => (o2 g9 h).elim hn12 (fun h => absurd (lt_cell (hE11 0 _ rfl)) (Nat.not_lt.2 h))
   have hE11 : ∀ j v, (cS_api_Addr a2)[j]? = some v → w31.cell? ⟨g9, 0 + j, none⟩ = some v := fun j v hv => (cell_keep hN33.chg o1 hn12 (hE11 j v hv))
   have hn12 := q_hn12
   have p_i34_i21 : ∀ x ∈ [g32], x ∉ ([g19]) := fun x hx hy => absurd (hM x (ml hy)) (Nat.not_lt.2 ((hN33.ge1) x hx))
   have p_i34_M : ∀ x ∈ [g32], x ∉ M := fun x hx hy => absurd (hM x (mr (hy))) (Nat.not_lt.2 ((hN33.ge1) x hx))
   have e_i34 : ∀ x ∈ [g32], w.heap.size ≤ x := fun x hx => Nat.le_trans hC.size ((hN33.ge1) x hx)
   have hM : MS ([g32] ++ ([g19] ++ (M))) w31 := (MS.app hN33.ms (hM.chg hN33.chg))
   have hC := hC.trans hN33.chg (Ok.nil _ _)
   have hBg32 : Box w31 g32 (cA .u8 8 (List.replicate 8 (0 : Int))) := hN33.box
   refine stA (l := (cA .u8 8 t30.1)) ha rfl rfl rfl (by kernel_rfl) rfl rfl hBg32 rfl fun a w35 ha hb2 hc36 _ => ?_
   have o1 : Ok [g32] ([g32] ++ ([g19] ++ (M))) w31.heap.size := (fun _ h => .inl (ml h))
   have o2 : Ok ([g32] ++ ([g19] ++ (M))) ([g32] ++ ([g19] ++ (M))) w31.heap.size := (Ok.refl _ _)
   have hG := hG.chg hc36 o1 o2
   have f1 := f1.chg hc36 o1 o2
   have hBg19 := hBg19.chg hc36 ((fun x (hx : x ∈ [g19]) (hy : x ∈ [g32]) => p_i34_i21 x hy hx) g19 (by simp))
   have q_hn12 : g9 ∉ [g32] ++ ([g19] ++ (M)) := fun h => (o2 g9 h).elim hn12 (fun h => absurd (lt_cell (hE11 0 _ rfl)) (Nat.not_lt.2 h))
   have hE11 : ∀ j v, (cS_api_Addr a2)[j]? = some v → w35.cell? ⟨g9, 0 + j, none⟩ = some v := fun j v hv => (cell_keep hc36 o1 hn12 (hE11 j v hv))
   have hn12 := q_hn12
   have hM : MS ([g32] ++ ([g19] ++ (M))) w35 := (hM.chg hc36)
   have hC := hC.trans hc36 (fun x h => .inr (e_i34 x h))
   have hBg32 : Box w35 g32 (cA .u8 8 t30.1) := hb2
   refine seg ha 1 [(1, .string (bstr a1)), (3, .int .i64 a3), (4, .slice ao1 a4.length cap1), (7, .pointer (some ⟨g9, 0, none⟩)), (11, .bool t14), (13, .int .i64 t30.2), (14, .pointer (some ⟨g32, 0, none⟩))] (by kernel_rfl) fun a ha => ?_
   refine hK29 _ _ ?_; try clear hK29 K29
   refine wp_seq_k fun K37 hK37 => ?_
   refine wp_seq_k fun K38 hK38 => ?_
   refine wp_region_lit ?_
   obtain ⟨s39, H39, H⟩ := bind_some H
   have J39 : ∀ (a : Act) (w39 : World), Has a Tryz.f7.ntmps [(3, .int .i64 a3), (4, .slice ao1 a4.length cap1), (7, .pointer (some ⟨g9, 0, none⟩)), (11, .bool t14), (46, .bool s39)] → (RSl (rArr .u8 8) 27 w39 ([g32] ++ ([g19] ++ (M))) ao1 cap1 a4) → (Box w39 g19 (cA .u8 8 t17.1)) → (Box w39 g32 (cA .u8 8 t30.1)) → (∀ j v, (cS_api_Addr a2)[j]? = some v → w39.cell? ⟨g9, 0 + j, none⟩ = some v) → (g9 ∉ ([g32] ++ ([g19] ++ (M)))) → (GF w39 ([g32] ++ ([g19] ++ (M)))) → (Chg [] w w39) → (MS ([g32] ++ ([g19] ++ (M))) w39) → K38 a w39 := by
    intro a w39 ha f1 hBg19 hBg32 hE11 hn12 hG hC hM
    refine hK38 _ _ ?_; try clear hK38 K38
    refine cnd ha rfl (fun hc40 => ?_) (fun hc40 => ?_)
    ·have H := ite_t hc40 H
     refine wp_seq_k fun K41 hK41 => ?_
     refine wp_region_lit ?_
     refine seg ha 1 [(10, .bool false)] (by kernel_rfl) fun a ha => ?_
     refine hK41 _ _ ?_; try clear hK41 K41
     refine wp_ret ?_
     try simp only [Exit.then, Exit.inBlock]
     have o1 : Ok [] ([g32] ++ ([g19] ++ (M))) w39.heap.size := Ok.nil _ _
     have o2 : Ok (M) ([g32] ++ ([g19] ++ (M))) w39.heap.size := (fun _ h => .inl (mr (mr (h))))
     have hG := hG.chg (Chg.refl [] _) o1 o2
     have hM : MS (M) w39 := (fun x h => hM.chg (Chg.refl [] _) x (mr (mr (h))))
     obtain rfl := Option.some.inj H
     refine rt1 ha rfl rfl ?_
     exact ⟨rfl, hC, hM⟩
    ·have H := ite_f hc40 H
     refine wp_skip ?_
     refine hK37 _ _ ?_; try clear hK37 K37
     refine wp_seq_k fun K42 hK42 => ?_
     refine wp_region_lit ?_
     refine ldA (cs := (cS_api_Addr a2)) ha rfl (by kernel_rfl) rfl rfl rfl (cells_sub hE11 (all := (cS_api_Addr a2)) [] [] (by kernel_rfl)) fun a ha => ?_
     refine seg ha 1 [(3, .int .i64 a3), (4, .slice ao1 a4.length cap1), (7, .pointer (some ⟨g9, 0, none⟩)), (11, .bool t14), (48, .agg (cS_api_Addr a2).toArray), (49, .int .i64 a3)] (by kernel_rfl) fun a ha => ?_
     obtain ⟨t43, H43, H⟩ := bind_some H
     refine cl ha (by rfl) (by kernel_rfl) (by rfl) (by rfl) (by rfl) (community_Import.walk w39 _ hM a2 a3 k _ H43) ?_
     rintro _ w43 ⟨rfl, hc43, hMn⟩ a ha
     have o1 : Ok [] ([g32] ++ ([g19] ++ (M))) w39.heap.size := Ok.nil _ _
     have o2 : Ok ([g32] ++ ([g19] ++ (M))) ([g32] ++ ([g19] ++ (M))) w39.heap.size := (Ok.refl _ _)
     have hG := hG.chg hc43 o1 o2
     have f1 := f1.chg hc43 o1 o2
     have hBg19 := hBg19.chg hc43 (fun h => nomatch h)
     have hBg32 := hBg32.chg hc43 (fun h => nomatch h)
     have q_hn12 : g9 ∉ [g32] ++ ([g19] ++ (M)) := fun h => (o2 g9 h).elim hn12 (fun h => absurd (lt_cell (hE11 0 _ rfl)) (Nat.not_lt.2 h))
     have hE11 : ∀ j v, (cS_api_Addr a2)[j]? = some v → w43.cell? ⟨g9, 0 + j, none⟩ = some v := fun j v hv => (cell_keep hc43 o1 hn12 (hE11 j v hv))
     have hn12 := q_hn12
     have hM : MS ([g32] ++ ([g19] ++ (M))) w43 := (hM.chg hc43)
     have hC := hC.trans hc43 (Ok.nil _ _)
     refine seg ha 3 [(3, .int .i64 a3), (4, .slice ao1 a4.length cap1), (7, .pointer (some ⟨g9, 0, none⟩)), (11, .bool t14), (51, .agg (cA .u8 8 t43.1).toArray), (52, .int .i64 t43.2)] (by kernel_rfl) fun a ha => ?_
     refine al (cs := (cA .u8 8 (List.replicate 8 (0 : Int)))) (z := .agg (cA .u8 8 (List.replicate 8 (0 : Int))).toArray) ha (fun w => by kernel_rfl) rfl rfl rfl rfl fun a w44 g45 hN46 ha => ?_
     have o1 : Ok [] ([g32] ++ ([g19] ++ (M))) w43.heap.size := Ok.nil _ _
     have o2 : Ok ([g45] ++ ([g32] ++ ([g19] ++ (M)))) ([g32] ++ ([g19] ++ (M))) w43.heap.size := (Ok.app (hN46.ok _) (Ok.refl _ _))
     have hG := hG.chg hN46.chg o1 o2
     have f1 := f1.chg hN46.chg o1 o2
     have hBg19 := hBg19.chg hN46.chg (fun h => nomatch h)
     have hBg32 := hBg32.chg hN46.chg (fun h => nomatch h)
     have q_hn12 : g9 ∉ [g45] ++ ([g32] ++ ([g19] ++ (M))) := fun h => (o2 g9 h).elim hn12 (fun h => absurd (lt_cell (hE11 0 _ rfl)) (Nat.not_lt.2 h))
     have hE11 : ∀ j v, (cS_api_Addr a2)[j]? = some v → w44.cell? ⟨g9, 0 + j, none⟩ = some v := fun j v hv => (cell_keep hN46.chg o1 hn12 (hE11 j v hv))
     have hn12 := q_hn12
     have p_i47_i34 : ∀ x ∈ [g45], x ∉ ([g32]) := fun x hx hy => absurd (hM x (ml hy)) (Nat.not_lt.2 ((hN46.ge1) x hx))
     have p_i47_i21 : ∀ x ∈ [g45], x ∉ ([g19]) := fun x hx hy => absurd (hM x (mr (ml hy))) (Nat.not_lt.2 ((hN46.ge1) x hx))
     have p_i47_M : ∀ x ∈ [g45], x ∉ M := fun x hx hy => absurd (hM x (mr (mr (hy)))) (Nat.not_lt.2 ((hN46.ge1) x hx))
     have e_i47 : ∀ x ∈ [g45], w.heap.size ≤ x := fun x hx => Nat.le_trans hC.size ((hN46.ge1) x hx)
     have hM : MS ([g45] ++ ([g32] ++ ([g19] ++ (M)))) w44 := (MS.app hN46.ms (hM.chg hN46.chg))
     have hC := hC.trans hN46.chg (Ok.nil _ _)
     have hBg45 : Box w44 g45 (cA .u8 8 (List.replicate 8 (0 : Int))) := hN46.box
     refine stA (l := (cA .u8 8 t43.1)) ha rfl rfl rfl (by kernel_rfl) rfl rfl hBg45 rfl fun a w48 ha hb2 hc49 _ => ?_
     have o1 : Ok [g45] ([g45] ++ ([g32] ++ ([g19] ++ (M)))) w44.heap.size := (fun _ h => .inl (ml h))
     have o2 : Ok ([g45] ++ ([g32] ++ ([g19] ++ (M)))) ([g45] ++ ([g32] ++ ([g19] ++ (M)))) w44.heap.size := (Ok.refl _ _)
     have hG := hG.chg hc49 o1 o2
     have f1 := f1.chg hc49 o1 o2
     have hBg19 := hBg19.chg hc49 ((fun x (hx : x ∈ [g19]) (hy : x ∈ [g45]) => p_i47_i21 x hy hx) g19 (by simp))
     have hBg32 := hBg32.chg hc49 ((fun x (hx : x ∈ [g32]) (hy : x ∈ [g45]) => p_i47_i34 x hy hx) g32 (by simp))
     have q_hn12 : g9 ∉ [g45] ++ ([g32] ++ ([g19] ++ (M))) := fun h => (o2 g9 h).elim hn12 (fun h => absurd (lt_cell (hE11 0 _ rfl)) (Nat.not_lt.2 h))
     have hE11 : ∀ j v, (cS_api_Addr a2)[j]? = some v → w48.cell? ⟨g9, 0 + j, none⟩ = some v := fun j v hv => (cell_keep hc49 o1 hn12 (hE11 j v hv))
     have hn12 := q_hn12
     have hM : MS ([g45] ++ ([g32] ++ ([g19] ++ (M)))) w48 := (hM.chg hc49)
     have hC := hC.trans hc49 (fun x h => .inr (e_i47 x h))
     have hBg45 : Box w48 g45 (cA .u8 8 t43.1) := hb2
     refine seg ha 1 [(3, .int .i64 a3), (4, .slice ao1 a4.length cap1), (7, .pointer (some ⟨g9, 0, none⟩)), (11, .bool t14), (13, .int .i64 t43.2), (15, .pointer (some ⟨g45, 0, none⟩))] (by kernel_rfl) fun a ha => ?_
     refine hK42 _ _ ?_; try clear hK42 K42
     refine wp_seq_k fun K50 hK50 => ?_
     refine wp_region_lit ?_
     refine ldA (cs := (cA .u8 8 t43.1)) ha rfl (by kernel_rfl) rfl rfl rfl (cells_sub (Box.cells hBg45) (all := (cA .u8 8 t43.1)) [] [] (by kernel_rfl)) fun a ha => ?_
     obtain ⟨t51, H51, H⟩ := bind_some H
     refine cl ha (by rfl) (by kernel_rfl) (by rfl) (by rfl) (by rfl) (community_Importer.walk w48 _ hM t43.1 k _ H51) ?_
     rintro _ w51 ⟨rfl, hc51, hMn⟩ a ha
     have o1 : Ok [] ([g45] ++ ([g32] ++ ([g19] ++ (M)))) w48.heap.size := Ok.nil _ _
     have o2 : Ok ([g45] ++ ([g32] ++ ([g19] ++ (M)))) ([g45] ++ ([g32] ++ ([g19] ++ (M)))) w48.heap.size := (Ok.refl _ _)
     have hG := hG.chg hc51 o1 o2
     have f1 := f1.chg hc51 o1 o2
     have hBg19 := hBg19.chg hc51 (fun h => nomatch h)
     have hBg32 := hBg32.chg hc51 (fun h => nomatch h)
     have hBg45 := hBg45.chg hc51 (fun h => nomatch h)
     have q_hn12 : g9 ∉ [g45] ++ ([g32] ++ ([g19] ++ (M))) := fun h => (o2 g9 h).elim hn12 (fun h => absurd (lt_cell (hE11 0 _ rfl)) (Nat.not_lt.2 h))
     have hE11 : ∀ j v, (cS_api_Addr a2)[j]? = some v → w51.cell? ⟨g9, 0 + j, none⟩ = some v := fun j v hv => (cell_keep hc51 o1 hn12 (hE11 j v hv))
     have hn12 := q_hn12
     have hM : MS ([g45] ++ ([g32] ++ ([g19] ++ (M)))) w51 := (hM.chg hc51)
     have hC := hC.trans hc51 (Ok.nil _ _)
     refine seg ha 4 [(3, .int .i64 a3), (4, .slice ao1 a4.length cap1), (7, .pointer (some ⟨g9, 0, none⟩)), (11, .bool t14), (13, .int .i64 t43.2), (15, .pointer (some ⟨g45, 0, none⟩)), (56, .agg (cS_api_Addr t51.1).toArray), (57, .int .i64 t51.2.1), (58, .bool t51.2.2)] (by kernel_rfl) fun a ha => ?_
     refine al (cs := (cS_api_Addr (⟨(0 : Int), (List.replicate 16 (0 : Int))⟩ : S_api_Addr))) (z := .agg (cS_api_Addr (⟨(0 : Int), (List.replicate 16 (0 : Int))⟩ : S_api_Addr)).toArray) ha (fun w => by kernel_rfl) rfl rfl rfl rfl fun a w52 g53 hN54 ha => ?_
     have o1 : Ok [] ([g45] ++ ([g32] ++ ([g19] ++ (M)))) w51.heap.size := Ok.nil _ _
     have o2 : Ok ([g53] ++ ([g45] ++ ([g32] ++ ([g19] ++ (M))))) ([g45] ++ ([g32] ++ ([g19] ++ (M)))) w51.heap.size := (Ok.app (hN54.ok _) (Ok.refl _ _))
     have hG := hG.chg hN54.chg o1 o2
     have f1 := f1.chg hN54.chg o1 o2
     have hBg19 := hBg19.chg hN54.chg (fun h => nomatch h)
     have hBg32 := hBg32.chg hN54.chg (fun h => nomatch h)
     have hBg45 := hBg45.chg hN54.chg (fun h => nomatch h)
     have q_hn12 : g9 ∉ [g53] ++ ([g45] ++ ([g32] ++ ([g19] ++ (M)))) := fun h => (o2 g9 h).elim hn12 (fun h => absurd (lt_cell (hE11 0 _ rfl)) (Nat.not_lt.2 h))
     have hE11 : ∀ j v, (cS_api_Addr a2)[j]? = some v → w52.cell? ⟨g9, 0 + j, none⟩ = some v := fun j v hv => (cell_keep hN54.chg o1 hn12 (hE11 j v hv))
     have hn12 := q_hn12
     have p_i55_i47 : ∀ x ∈ [g53], x ∉ ([g45]) := fun x hx hy => absurd (hM x (ml hy)) (Nat.not_lt.2 ((hN54.ge1) x hx))
     have p_i55_i34 : ∀ x ∈ [g53], x ∉ ([g32]) := fun x hx hy => absurd (hM x (mr (ml hy))) (Nat.not_lt.2 ((hN54.ge1) x hx))
     have p_i55_i21 : ∀ x ∈ [g53], x ∉ ([g19]) := fun x hx hy => absurd (hM x (mr (mr (ml hy)))) (Nat.not_lt.2 ((hN54.ge1) x hx))
     have p_i55_M : ∀ x ∈ [g53], x ∉ M := fun x hx hy => absurd (hM x (mr (mr (mr (hy))))) (Nat.not_lt.2 ((hN54.ge1) x hx))
     have e_i55 : ∀ x ∈ [g53], w.heap.size ≤ x := fun x hx => Nat.le_trans hC.size ((hN54.ge1) x hx)
     have hM : MS ([g53] ++ ([g45] ++ ([g32] ++ ([g19] ++ (M))))) w52 := (MS.app hN54.ms (hM.chg hN54.chg))
     have hC := hC.trans hN54.chg (Ok.nil _ _)
     have hBg53 : Box w52 g53 (cS_api_Addr (⟨(0 : Int), (List.replicate 16 (0 : Int))⟩ : S_api_Addr)) := hN54.box
     refine stA (l := (cS_api_Addr t51.1)) ha rfl rfl rfl (by kernel_rfl) rfl rfl hBg53 rfl fun a w56 ha hb2 hc57 _ => ?_
     have o1 : Ok [g53] ([g53] ++ ([g45] ++ ([g32] ++ ([g19] ++ (M))))) w52.heap.size := (fun _ h => .inl (ml h))
     have o2 : Ok ([g53] ++ ([g45] ++ ([g32] ++ ([g19] ++ (M))))) ([g53] ++ ([g45] ++ ([g32] ++ ([g19] ++ (M))))) w52.heap.size := (Ok.refl _ _)
     have hG := hG.chg hc57 o1 o2
     have f1 := f1.chg hc57 o1 o2
     have hBg19 := hBg19.chg hc57 ((fun x (hx : x ∈ [g19]) (hy : x ∈ [g53]) => p_i55_i21 x hy hx) g19 (by simp))
     have hBg32 := hBg32.chg hc57 ((fun x (hx : x ∈ [g32]) (hy : x ∈ [g53]) => p_i55_i34 x hy hx) g32 (by simp))
     have hBg45 := hBg45.chg hc57 ((fun x (hx : x ∈ [g45]) (hy : x ∈ [g53]) => p_i55_i47 x hy hx) g45 (by simp))
     have q_hn12 : g9 ∉ [g53] ++ ([g45] ++ ([g32] ++ ([g19] ++ (M)))) := fun h => (o2 g9 h).elim hn12 (fun h => absurd (lt_cell (hE11 0 _ rfl)) (Nat.not_lt.2 h))
     have hE11 : ∀ j v, (cS_api_Addr a2)[j]? = some v → w56.cell? ⟨g9, 0 + j, none⟩ = some v := fun j v hv => (cell_keep hc57 o1 hn12 (hE11 j v hv))
     have hn12 := q_hn12
     have hM : MS ([g53] ++ ([g45] ++ ([g32] ++ ([g19] ++ (M))))) w56 := (hM.chg hc57)
     have hC := hC.trans hc57 (fun x h => .inr (e_i55 x h))
     have hBg53 : Box w56 g53 (cS_api_Addr t51.1) := hb2
     refine seg ha 2 [(3, .int .i64 a3), (4, .slice ao1 a4.length cap1), (7, .pointer (some ⟨g9, 0, none⟩)), (11, .bool t14), (13, .int .i64 t43.2), (15, .pointer (some ⟨g45, 0, none⟩)), (16, .pointer (some ⟨g53, 0, none⟩)), (17, .int .i64 t51.2.1), (18, .bool t51.2.2)] (by kernel_rfl) fun a ha => ?_
     refine hK50 _ _ ?_; try clear hK50 K50
     refine wp_seq_k fun K58 hK58 => ?_
     refine wp_seq_k fun K59 hK59 => ?_
     refine wp_region_lit ?_
     obtain ⟨s60, H60, H⟩ := bind_some H
     have J60 : ∀ (a : Act) (w60 : World), Has a Tryz.f7.ntmps [(3, .int .i64 a3), (4, .slice ao1 a4.length cap1), (11, .bool t14), (15, .pointer (some ⟨g45, 0, none⟩)), (79, .bool s60)] → (RSl (rArr .u8 8) 27 w60 ([g53] ++ ([g45] ++ ([g32] ++ ([g19] ++ (M))))) ao1 cap1 a4) → (Box w60 g19 (cA .u8 8 t17.1)) → (Box w60 g32 (cA .u8 8 t30.1)) → (Box w60 g45 (cA .u8 8 t43.1)) → (Box w60 g53 (cS_api_Addr t51.1)) → (GF w60 ([g53] ++ ([g45] ++ ([g32] ++ ([g19] ++ (M)))))) → (Chg [] w w60) → (MS ([g53] ++ ([g45] ++ ([g32] ++ ([g19] ++ (M))))) w60) → K59 a w60 := by
      intro a w60 ha f1 hBg19 hBg32 hBg45 hBg53 hG hC hM
      refine hK59 _ _ ?_; try clear hK59 K59
      refine cnd ha rfl (fun hc61 => ?_) (fun hc61 => ?_)
      ·have H := ite_t hc61 H
       refine wp_seq_k fun K62 hK62 => ?_
       refine wp_region_lit ?_
       refine seg ha 1 [(10, .bool false)] (by kernel_rfl) fun a ha => ?_
       refine hK62 _ _ ?_; try clear hK62 K62
       refine wp_ret ?_
       try simp only [Exit.then, Exit.inBlock]
       have o1 : Ok [] ([g53] ++ ([g45] ++ ([g32] ++ ([g19] ++ (M))))) w60.heap.size := Ok.nil _ _
       have o2 : Ok (M) ([g53] ++ ([g45] ++ ([g32] ++ ([g19] ++ (M))))) w60.heap.size := (fun _ h => .inl (mr (mr (mr (mr (h))))))
       have hG := hG.chg (Chg.refl [] _) o1 o2
       have hM : MS (M) w60 := (fun x h => hM.chg (Chg.refl [] _) x (mr (mr (mr (mr (h))))))
       obtain rfl := Option.some.inj H
       refine rt1 ha rfl rfl ?_
       exact ⟨rfl, hC, hM⟩
      ·have H := ite_f hc61 H
       refine wp_skip ?_
       refine hK58 _ _ ?_; try clear hK58 K58
       refine wp_seq_k fun K63 hK63 => ?_
       refine wp_region_lit ?_
       refine seg ha 1 [(3, .int .i64 a3), (4, .slice ao1 a4.length cap1), (11, .bool t14), (15, .pointer (some ⟨g45, 0, none⟩)), (81, .int .i64 a3)] (by kernel_rfl) fun a ha => ?_
       obtain ⟨t64, H64, H⟩ := bind_some H
       refine cl ha (by rfl) (by kernel_rfl) (by rfl) (by rfl) (by rfl) (community_Source.walk w60 _ hM a3 k _ H64) ?_
       rintro _ w64 ⟨rfl, hc64, hMn⟩ a ha
       have o1 : Ok [] ([g53] ++ ([g45] ++ ([g32] ++ ([g19] ++ (M))))) w60.heap.size := Ok.nil _ _
       have o2 : Ok ([g53] ++ ([g45] ++ ([g32] ++ ([g19] ++ (M))))) ([g53] ++ ([g45] ++ ([g32] ++ ([g19] ++ (M))))) w60.heap.size := (Ok.refl _ _)
       have hG := hG.chg hc64 o1 o2
       have f1 := f1.chg hc64 o1 o2
       have hBg19 := hBg19.chg hc64 (fun h => nomatch h)
       have hBg32 := hBg32.chg hc64 (fun h => nomatch h)
       have hBg45 := hBg45.chg hc64 (fun h => nomatch h)
       have hBg53 := hBg53.chg hc64 (fun h => nomatch h)
       have hM : MS ([g53] ++ ([g45] ++ ([g32] ++ ([g19] ++ (M))))) w64 := (hM.chg hc64)
       have hC := hC.trans hc64 (Ok.nil _ _)
       refine seg ha 3 [(3, .int .i64 a3), (4, .slice ao1 a4.length cap1), (11, .bool t14), (15, .pointer (some ⟨g45, 0, none⟩)), (83, .agg (cA .u8 8 t64.1).toArray), (84, .int .i64 t64.2)] (by kernel_rfl) fun a ha => ?_
       refine stA (l := (cA .u8 8 t64.1)) ha rfl rfl rfl (by kernel_rfl) rfl rfl hBg45 rfl fun a w65 ha hb2 hc66 _ => ?_
       have o1 : Ok [g45] ([g53] ++ ([g45] ++ ([g32] ++ ([g19] ++ (M))))) w64.heap.size := (fun _ h => .inl (mr (ml h)))
       have o2 : Ok ([g53] ++ ([g45] ++ ([g32] ++ ([g19] ++ (M))))) ([g53] ++ ([g45] ++ ([g32] ++ ([g19] ++ (M))))) w64.heap.size := (Ok.refl _ _)
       have hG := hG.chg hc66 o1 o2
       have f1 := f1.chg hc66 o1 o2
       have hBg19 := hBg19.chg hc66 ((fun x (hx : x ∈ [g19]) (hy : x ∈ [g45]) => p_i47_i21 x hy hx) g19 (by simp))
       have hBg32 := hBg32.chg hc66 ((fun x (hx : x ∈ [g32]) (hy : x ∈ [g45]) => p_i47_i34 x hy hx) g32 (by simp))
       have hBg53 := hBg53.chg hc66 (p_i55_i47 g53 (by simp))
       have hM : MS ([g53] ++ ([g45] ++ ([g32] ++ ([g19] ++ (M))))) w65 := (hM.chg hc66)
       have hC := hC.trans hc66 (fun x h => .inr (e_i47 x h))
       have hBg45 : Box w65 g45 (cA .u8 8 t64.1) := hb2
       refine seg ha 1 [(3, .int .i64 a3), (4, .slice ao1 a4.length cap1), (11, .bool t14), (13, .int .i64 t64.2), (15, .pointer (some ⟨g45, 0, none⟩))] (by kernel_rfl) fun a ha => ?_
       refine hK63 _ _ ?_; try clear hK63 K63
       refine wp_seq_k fun K67 hK67 => ?_
       refine wp_region_lit ?_
       refine ldA (cs := (cA .u8 8 t64.1)) ha rfl (by kernel_rfl) rfl rfl rfl (cells_sub (Box.cells hBg45) (all := (cA .u8 8 t64.1)) [] [] (by kernel_rfl)) fun a ha => ?_
       obtain ⟨t68, H68, H⟩ := bind_some H
       refine cl ha (by rfl) (by kernel_rfl) (by rfl) (by rfl) (by rfl) (community_AS.walk w65 _ hM t64.1 k _ H68) ?_
       rintro _ w68 ⟨rfl, hc68, hMn⟩ a ha
       have o1 : Ok [] ([g53] ++ ([g45] ++ ([g32] ++ ([g19] ++ (M))))) w65.heap.size := Ok.nil _ _
       have o2 : Ok ([g53] ++ ([g45] ++ ([g32] ++ ([g19] ++ (M))))) ([g53] ++ ([g45] ++ ([g32] ++ ([g19] ++ (M))))) w65.heap.size := (Ok.refl _ _)
       have hG := hG.chg hc68 o1 o2
       have f1 := f1.chg hc68 o1 o2
       have hBg19 := hBg19.chg hc68 (fun h => nomatch h)
       have hBg32 := hBg32.chg hc68 (fun h => nomatch h)
       have hBg45 := hBg45.chg hc68 (fun h => nomatch h)
       have hBg53 := hBg53.chg hc68 (fun h => nomatch h)
       have hM : MS ([g53] ++ ([g45] ++ ([g32] ++ ([g19] ++ (M))))) w68 := (hM.chg hc68)
       have hC := hC.trans hc68 (Ok.nil _ _)
       refine seg ha 5 [(3, .int .i64 a3), (4, .slice ao1 a4.length cap1), (11, .bool t14), (13, .int .i64 t64.2), (15, .pointer (some ⟨g45, 0, none⟩)), (17, .int .i64 t68.1), (18, .bool t68.2)] (by kernel_rfl) fun a ha => ?_
       refine hK67 _ _ ?_; try clear hK67 K67
       refine wp_seq_k fun K69 hK69 => ?_
       refine wp_seq_k fun K70 hK70 => ?_
       refine wp_region_lit ?_
       obtain ⟨s71, H71, H⟩ := bind_some H
       have J71 : ∀ (a : Act) (w71 : World), Has a Tryz.f7.ntmps [(4, .slice ao1 a4.length cap1), (11, .bool t14), (105, .bool s71)] → (RSl (rArr .u8 8) 27 w71 ([g53] ++ ([g45] ++ ([g32] ++ ([g19] ++ (M))))) ao1 cap1 a4) → (Box w71 g19 (cA .u8 8 t17.1)) → (Box w71 g32 (cA .u8 8 t30.1)) → (Box w71 g45 (cA .u8 8 t64.1)) → (Box w71 g53 (cS_api_Addr t51.1)) → (GF w71 ([g53] ++ ([g45] ++ ([g32] ++ ([g19] ++ (M)))))) → (Chg [] w w71) → (MS ([g53] ++ ([g45] ++ ([g32] ++ ([g19] ++ (M))))) w71) → K70 a w71 := by
        intro a w71 ha f1 hBg19 hBg32 hBg45 hBg53 hG hC hM
        refine hK70 _ _ ?_; try clear hK70 K70
        refine cnd ha rfl (fun hc72 => ?_) (fun hc72 => ?_)
        ·have H := ite_t hc72 H
         refine wp_seq_k fun K73 hK73 => ?_
         refine wp_region_lit ?_
         refine seg ha 1 [(10, .bool false)] (by kernel_rfl) fun a ha => ?_
         refine hK73 _ _ ?_; try clear hK73 K73
         refine wp_ret ?_
         try simp only [Exit.then, Exit.inBlock]
         have o1 : Ok [] ([g53] ++ ([g45] ++ ([g32] ++ ([g19] ++ (M))))) w71.heap.size := Ok.nil _ _
         have o2 : Ok (M) ([g53] ++ ([g45] ++ ([g32] ++ ([g19] ++ (M))))) w71.heap.size := (fun _ h => .inl (mr (mr (mr (mr (h))))))
         have hG := hG.chg (Chg.refl [] _) o1 o2
         have hM : MS (M) w71 := (fun x h => hM.chg (Chg.refl [] _) x (mr (mr (mr (mr (h))))))
         obtain rfl := Option.some.inj H
         refine rt1 ha rfl rfl ?_
         exact ⟨rfl, hC, hM⟩
        ·have H := ite_f hc72 H
         refine wp_skip ?_
         refine hK69 _ _ ?_; try clear hK69 K69
         refine wp_seq_k fun K74 hK74 => ?_
         refine wp_region_lit ?_
         refine seg ha 1 [(4, .slice ao1 a4.length cap1), (11, .bool t14), (107, .slice ao1 a4.length cap1)] (by kernel_rfl) fun a ha => ?_
         obtain ⟨t75, H75, H⟩ := bind_some H
         refine cl ha (by rfl) (by kernel_rfl) (by rfl) (by rfl) (by rfl) (community_Bytes.walk w71 _ hM a4 ao1 cap1 f1 k _ H75) ?_
         rintro _ w75 ⟨ao76, cap76, rfl, f76, ne_i76, hc75, hMn⟩ a ha
         have o1 : Ok [] ([g53] ++ ([g45] ++ ([g32] ++ ([g19] ++ (M))))) w71.heap.size := Ok.nil _ _
         have o2 : Ok (blkL ao76 ++ ([g53] ++ ([g45] ++ ([g32] ++ ([g19] ++ (M)))))) ([g53] ++ ([g45] ++ ([g32] ++ ([g19] ++ (M))))) w71.heap.size := (Ok.app (fun x h => .inr (ne_i76 x h)) (Ok.refl _ _))
         have hG := hG.chg hc75 o1 o2
         have f1 := f1.chg hc75 o1 o2
         have hBg19 := hBg19.chg hc75 (fun h => nomatch h)
         have hBg32 := hBg32.chg hc75 (fun h => nomatch h)
         have hBg45 := hBg45.chg hc75 (fun h => nomatch h)
         have hBg53 := hBg53.chg hc75 (fun h => nomatch h)
         have p_i76_i55 : ∀ x ∈ blkL ao76, x ∉ ([g53]) := fun x hx hy => absurd (hM x (ml hy)) (Nat.not_lt.2 (ne_i76 x hx))
         have p_i76_i47 : ∀ x ∈ blkL ao76, x ∉ ([g45]) := fun x hx hy => absurd (hM x (mr (ml hy))) (Nat.not_lt.2 (ne_i76 x hx))
         have p_i76_i34 : ∀ x ∈ blkL ao76, x ∉ ([g32]) := fun x hx hy => absurd (hM x (mr (mr (ml hy)))) (Nat.not_lt.2 (ne_i76 x hx))
         have p_i76_i21 : ∀ x ∈ blkL ao76, x ∉ ([g19]) := fun x hx hy => absurd (hM x (mr (mr (mr (ml hy))))) (Nat.not_lt.2 (ne_i76 x hx))
         have p_i76_M : ∀ x ∈ blkL ao76, x ∉ M := fun x hx hy => absurd (hM x (mr (mr (mr (mr (hy)))))) (Nat.not_lt.2 (ne_i76 x hx))
         have e_i76 : ∀ x ∈ blkL ao76, w.heap.size ≤ x := fun x hx => Nat.le_trans hC.size (ne_i76 x hx)
         have hM : MS (blkL ao76 ++ ([g53] ++ ([g45] ++ ([g32] ++ ([g19] ++ (M)))))) w75 := (MS.app (fun x h => hMn x (ml h)) (hM.chg hc75))
         have hC := hC.trans hc75 (Ok.nil _ _)
         have hML : MS ([g53] ++ ([g45] ++ ([g32] ++ ([g19] ++ (M))))) w75 := MS.rest hM (fun _ h => (List.mem_append.1 h).elim (fun h => mr (ml h)) (fun h => (List.mem_append.1 h).elim (fun h => mr (mr (ml h))) (fun h => (List.mem_append.1 h).elim (fun h => mr (mr (mr (ml h)))) (fun h => (List.mem_append.1 h).elim (fun h => mr (mr (mr (mr (ml h))))) (fun h => mr (mr (mr (mr (mr (h))))))))))
         have oL : Ok ([g53] ++ ([g45] ++ ([g32] ++ ([g19] ++ (M))))) (blkL ao76 ++ ([g53] ++ ([g45] ++ ([g32] ++ ([g19] ++ (M)))))) w75.heap.size := (fun _ h => .inl (mr (h)))
         obtain ⟨t77, H77, H⟩ := bind_some H
         refine cl ha (by rfl) (by kernel_rfl) (by rfl) (by rfl) (by rfl) (community_Read.walk w75 _ hML t75 ao76 cap76 (Own.toRSl (M' := [g53] ++ ([g45] ++ ([g32] ++ ([g19] ++ (M))))) f76 oL (fun x hx hm => (List.mem_append.1 hm).elim (fun h => p_i76_i55 x hx h) (fun h => (List.mem_append.1 h).elim (fun h => p_i76_i47 x hx h) (fun h => (List.mem_append.1 h).elim (fun h => p_i76_i34 x hx h) (fun h => (List.mem_append.1 h).elim (fun h => p_i76_i21 x hx h) (fun h => p_i76_M x hx h)))))) k _ H77) ?_
         rintro _ w77 ⟨ao78, cap78, rfl, f78, ne_i78, hc77, hMn⟩ a ha
         have o1 : Ok [] (blkL ao76 ++ ([g53] ++ ([g45] ++ ([g32] ++ ([g19] ++ (M)))))) w75.heap.size := Ok.nil _ _
         have o2 : Ok (blkL ao78 ++ (blkL ao76 ++ ([g53] ++ ([g45] ++ ([g32] ++ ([g19] ++ (M))))))) (blkL ao76 ++ ([g53] ++ ([g45] ++ ([g32] ++ ([g19] ++ (M)))))) w75.heap.size := (Ok.app (fun x h => .inr (ne_i78 x h)) (Ok.refl _ _))
         have hG := hG.chg hc77 o1 o2
         have f1 := f1.chg hc77 o1 o2
         have f76 := f76.chg hc77 o1 o2 (fun _ _ h => nomatch h) (fun _ h => mr (ml h))
         have hBg19 := hBg19.chg hc77 (fun h => nomatch h)
         have hBg32 := hBg32.chg hc77 (fun h => nomatch h)
         have hBg45 := hBg45.chg hc77 (fun h => nomatch h)
         have hBg53 := hBg53.chg hc77 (fun h => nomatch h)
         have p_i78_i76 : ∀ x ∈ blkL ao78, x ∉ (blkL ao76) := fun x hx hy => absurd (hM x (ml hy)) (Nat.not_lt.2 (ne_i78 x hx))
         have p_i78_i55 : ∀ x ∈ blkL ao78, x ∉ ([g53]) := fun x hx hy => absurd (hM x (mr (ml hy))) (Nat.not_lt.2 (ne_i78 x hx))
         have p_i78_i47 : ∀ x ∈ blkL ao78, x ∉ ([g45]) := fun x hx hy => absurd (hM x (mr (mr (ml hy)))) (Nat.not_lt.2 (ne_i78 x hx))
         have p_i78_i34 : ∀ x ∈ blkL ao78, x ∉ ([g32]) := fun x hx hy => absurd (hM x (mr (mr (mr (ml hy))))) (Nat.not_lt.2 (ne_i78 x hx))
         have p_i78_i21 : ∀ x ∈ blkL ao78, x ∉ ([g19]) := fun x hx hy => absurd (hM x (mr (mr (mr (mr (ml hy)))))) (Nat.not_lt.2 (ne_i78 x hx))
         have p_i78_M : ∀ x ∈ blkL ao78, x ∉ M := fun x hx hy => absurd (hM x (mr (mr (mr (mr (mr (hy))))))) (Nat.not_lt.2 (ne_i78 x hx))
         have e_i78 : ∀ x ∈ blkL ao78, w.heap.size ≤ x := fun x hx => Nat.le_trans hC.size (ne_i78 x hx)
         have hM : MS (blkL ao78 ++ (blkL ao76 ++ ([g53] ++ ([g45] ++ ([g32] ++ ([g19] ++ (M))))))) w77 := (MS.app (fun x h => hMn x (ml h)) (hM.chg hc77))
         have hC := hC.trans hc77 (Ok.nil _ _)
         have f78 := Own.re (M' := blkL ao78 ++ (blkL ao76 ++ ([g53] ++ ([g45] ++ ([g32] ++ ([g19] ++ (M))))))) (fun _ _ _ _ _ h => h) f78 (fun _ h => ml h)
         refine seg ha 5 [(4, .slice ao1 a4.length cap1), (11, .bool t14), (13, .int .i64 t77.2), (19, .slice ao78 t77.1.length cap78)] (by kernel_rfl) fun a ha => ?_
         refine hK74 _ _ ?_; try clear hK74 K74
         refine wp_seq_k fun K79 hK79 => ?_
         refine wp_region_lit ?_
         obtain ⟨s80, H80, H⟩ := bind_some H
         have J80 : ∀ (a : Act) (w80 : World), Has a Tryz.f7.ntmps [(10, .bool s80)] → (Box w80 g19 (cA .u8 8 t17.1)) → (Box w80 g32 (cA .u8 8 t30.1)) → (Box w80 g45 (cA .u8 8 t64.1)) → (Box w80 g53 (cS_api_Addr t51.1)) → (GF w80 ([g53] ++ ([g45] ++ ([g32] ++ ([g19] ++ (M)))))) → (Chg [] w w80) → (MS ([g53] ++ ([g45] ++ ([g32] ++ ([g19] ++ (M))))) w80) → K79 a w80 := by
          intro a w80 ha hBg19 hBg32 hBg45 hBg53 hG hC hM
          refine hK79 _ _ ?_; try clear hK79 K79
          refine wp_ret ?_
          try simp only [Exit.then, Exit.inBlock]
          have o1 : Ok [] ([g53] ++ ([g45] ++ ([g32] ++ ([g19] ++ (M))))) w80.heap.size := Ok.nil _ _
          have o2 : Ok (M) ([g53] ++ ([g45] ++ ([g32] ++ ([g19] ++ (M))))) w80.heap.size := (fun _ h => .inl (mr (mr (mr (mr (h))))))
          have hG := hG.chg (Chg.refl [] _) o1 o2
          have hM : MS (M) w80 := (fun x h => hM.chg (Chg.refl [] _) x (mr (mr (mr (mr (h))))))
          obtain rfl := Option.some.inj H
          refine rt1 ha rfl rfl ?_
          exact ⟨rfl, hC, hM⟩
         have H := H80
         refine seg ha 2 [(113, .bool t14), (4, .slice ao1 a4.length cap1), (13, .int .i64 t77.2), (19, .slice ao78 t77.1.length cap78)] (by kernel_rfl) fun a ha => ?_
         rcases Bool.eq_false_or_eq_true (t14) with hb81 | hb81
         ·have ha := ha.lit hb81
          have H := ite_t hb81 H
          refine sgh ha 4 [2, 2, 3, 0] [(117, .bool (t77.2 == (0 : Int))), (4, .slice ao1 a4.length cap1), (19, .slice ao78 t77.1.length cap78)] (by kernel_rfl) fun a ha => ?_
          rcases Bool.eq_false_or_eq_true (t77.2 == (0 : Int)) with hb82 | hb82
          ·have ha := ha.lit hb82
           have H := ite_t hb82 H
           refine sgh ha 2 [2, 2] [(117, .bool true), (118, .slice ao78 t77.1.length cap78), (119, .slice ao1 a4.length cap1)] (by kernel_rfl) fun a ha => ?_
           have hML : MS (blkL ao76 ++ ([g53] ++ ([g45] ++ ([g32] ++ ([g19] ++ (M)))))) w77 := MS.rest hM (fun _ h => (List.mem_append.1 h).elim (fun h => mr (ml h)) (fun h => (List.mem_append.1 h).elim (fun h => mr (mr (ml h))) (fun h => (List.mem_append.1 h).elim (fun h => mr (mr (mr (ml h)))) (fun h => (List.mem_append.1 h).elim (fun h => mr (mr (mr (mr (ml h))))) (fun h => (List.mem_append.1 h).elim (fun h => mr (mr (mr (mr (mr (ml h)))))) (fun h => mr (mr (mr (mr (mr (mr (h))))))))))))
           have oL : Ok (blkL ao76 ++ ([g53] ++ ([g45] ++ ([g32] ++ ([g19] ++ (M)))))) (blkL ao78 ++ (blkL ao76 ++ ([g53] ++ ([g45] ++ ([g32] ++ ([g19] ++ (M))))))) w77.heap.size := (fun _ h => .inl (mr (h)))
           obtain ⟨t83, H83, H⟩ := bind_some H
           refine cl ha (by rfl) (by kernel_rfl) (by rfl) (by rfl) (by rfl) (vineryref04_Same.walk w77 _ hML t77.1 ao78 cap78 (Own.toRSl (M' := blkL ao76 ++ ([g53] ++ ([g45] ++ ([g32] ++ ([g19] ++ (M)))))) f78 oL (fun x hx hm => (List.mem_append.1 hm).elim (fun h => p_i78_i76 x hx h) (fun h => (List.mem_append.1 h).elim (fun h => p_i78_i55 x hx h) (fun h => (List.mem_append.1 h).elim (fun h => p_i78_i47 x hx h) (fun h => (List.mem_append.1 h).elim (fun h => p_i78_i34 x hx h) (fun h => (List.mem_append.1 h).elim (fun h => p_i78_i21 x hx h) (fun h => p_i78_M x hx h))))))) a4 ao1 cap1 (RSl.chg f1 (Chg.refl [] _) (Ok.nil _ _) oL) k _ H83) ?_
           rintro _ w83 ⟨rfl, hc83, hMn⟩ a ha
           have o1 : Ok [] (blkL ao78 ++ (blkL ao76 ++ ([g53] ++ ([g45] ++ ([g32] ++ ([g19] ++ (M))))))) w77.heap.size := Ok.nil _ _
           have o2 : Ok (blkL ao78 ++ (blkL ao76 ++ ([g53] ++ ([g45] ++ ([g32] ++ ([g19] ++ (M))))))) (blkL ao78 ++ (blkL ao76 ++ ([g53] ++ ([g45] ++ ([g32] ++ ([g19] ++ (M))))))) w77.heap.size := (Ok.refl _ _)
           have hG := hG.chg hc83 o1 o2
           have f78 := f78.chg hc83 o1 o2 (fun _ _ h => nomatch h) (fun _ h => ml h)
           have f1 := f1.chg hc83 o1 o2
           have hBg19 := hBg19.chg hc83 (fun h => nomatch h)
           have hBg32 := hBg32.chg hc83 (fun h => nomatch h)
           have hBg45 := hBg45.chg hc83 (fun h => nomatch h)
           have hBg53 := hBg53.chg hc83 (fun h => nomatch h)
           have hM : MS (blkL ao78 ++ (blkL ao76 ++ ([g53] ++ ([g45] ++ ([g32] ++ ([g19] ++ (M))))))) w83 := (hM.chg hc83)
           have hC := hC.trans hc83 (Ok.nil _ _)
           refine sgh ha 2 [3, 0] [(10, .bool t83)] (by kernel_rfl) fun a ha => ?_
           obtain rfl := Option.some.inj H
           have o1 : Ok [] (blkL ao78 ++ (blkL ao76 ++ ([g53] ++ ([g45] ++ ([g32] ++ ([g19] ++ (M))))))) w83.heap.size := Ok.nil _ _
           have o2 : Ok ([g53] ++ ([g45] ++ ([g32] ++ ([g19] ++ (M))))) (blkL ao78 ++ (blkL ao76 ++ ([g53] ++ ([g45] ++ ([g32] ++ ([g19] ++ (M))))))) w83.heap.size := (fun _ h => .inl (mr (mr (h))))
           have hG := hG.chg (Chg.refl [] _) o1 o2
           have hM : MS ([g53] ++ ([g45] ++ ([g32] ++ ([g19] ++ (M))))) w83 := (fun x h => hM.chg (Chg.refl [] _) x (mr (mr (h))))
           exact J80 _ _ (ha.sel (by kernel_rfl)) hBg19 hBg32 hBg45 hBg53 hG hC hM
          ·have ha := ha.lit hb82
           have H := ite_f hb82 H
           refine sgh ha 5 [1, 1, 1, 4, 0] [(10, .bool false)] (by kernel_rfl) fun a ha => ?_
           obtain rfl := Option.some.inj H
           have o1 : Ok [] (blkL ao78 ++ (blkL ao76 ++ ([g53] ++ ([g45] ++ ([g32] ++ ([g19] ++ (M))))))) w77.heap.size := Ok.nil _ _
           have o2 : Ok ([g53] ++ ([g45] ++ ([g32] ++ ([g19] ++ (M))))) (blkL ao78 ++ (blkL ao76 ++ ([g53] ++ ([g45] ++ ([g32] ++ ([g19] ++ (M))))))) w77.heap.size := (fun _ h => .inl (mr (mr (h))))
           have hG := hG.chg (Chg.refl [] _) o1 o2
           have hM : MS ([g53] ++ ([g45] ++ ([g32] ++ ([g19] ++ (M))))) w77 := (fun x h => hM.chg (Chg.refl [] _) x (mr (mr (h))))
           exact J80 _ _ (ha.sel (by kernel_rfl)) hBg19 hBg32 hBg45 hBg53 hG hC hM
         ·have ha := ha.lit hb81
          have H := ite_f hb81 H
          refine sgh ha 9 [1, 1, 4, 0, 1, 1, 1, 4, 0] [(10, .bool false)] (by kernel_rfl) fun a ha => ?_
          obtain rfl := Option.some.inj H
          have o1 : Ok [] (blkL ao78 ++ (blkL ao76 ++ ([g53] ++ ([g45] ++ ([g32] ++ ([g19] ++ (M))))))) w77.heap.size := Ok.nil _ _
          have o2 : Ok ([g53] ++ ([g45] ++ ([g32] ++ ([g19] ++ (M))))) (blkL ao78 ++ (blkL ao76 ++ ([g53] ++ ([g45] ++ ([g32] ++ ([g19] ++ (M))))))) w77.heap.size := (fun _ h => .inl (mr (mr (h))))
          have hG := hG.chg (Chg.refl [] _) o1 o2
          have hM : MS ([g53] ++ ([g45] ++ ([g32] ++ ([g19] ++ (M))))) w77 := (fun x h => hM.chg (Chg.refl [] _) x (mr (mr (h))))
          exact J80 _ _ (ha.sel (by kernel_rfl)) hBg19 hBg32 hBg45 hBg53 hG hC hM
       have H := H71
       refine seg ha 3 [(92, .bool (t64.2 == (0 : Int))), (3, .int .i64 a3), (4, .slice ao1 a4.length cap1), (11, .bool t14), (15, .pointer (some ⟨g45, 0, none⟩)), (17, .int .i64 t68.1), (18, .bool t68.2)] (by kernel_rfl) fun a ha => ?_
       rcases Bool.eq_false_or_eq_true (t64.2 == (0 : Int)) with hb84 | hb84
       ·have ha := ha.lit hb84
        have H := ite_t hb84 H
        refine sgh ha 3 [2, 2, 2] [(95, .bool (!t68.2)), (3, .int .i64 a3), (4, .slice ao1 a4.length cap1), (11, .bool t14), (15, .pointer (some ⟨g45, 0, none⟩)), (17, .int .i64 t68.1), (92, .bool true)] (by kernel_rfl) fun a ha => ?_
        rcases Bool.eq_false_or_eq_true (!t68.2) with hb85 | hb85
        ·have ha := ha.lit hb85
         have H := ite_t hb85 H
         refine sgh ha 10 [1, 1, 1, 5, 2, 1, 1, 1, 5, 3] [(4, .slice ao1 a4.length cap1), (11, .bool t14), (105, .bool true)] (by kernel_rfl) fun a ha => ?_
         obtain rfl := Option.some.inj H
         exact J71 _ _ (ha.sel (by kernel_rfl)) f1 hBg19 hBg32 hBg45 hBg53 hG hC hM
        ·have ha := ha.lit hb85
         have H := ite_f hb85 H
         refine sgh ha 5 [2, 2, 2, 6, 2] [(100, .bool (t68.1 != a3)), (4, .slice ao1 a4.length cap1), (11, .bool t14), (15, .pointer (some ⟨g45, 0, none⟩)), (92, .bool true)] (by kernel_rfl) fun a ha => ?_
         rcases Bool.eq_false_or_eq_true (t68.1 != a3) with hb86 | hb86
         ·have ha := ha.lit hb86
          have H := ite_t hb86 H
          refine sgh ha 5 [1, 1, 1, 5, 3] [(4, .slice ao1 a4.length cap1), (11, .bool t14), (105, .bool true)] (by kernel_rfl) fun a ha => ?_
          obtain rfl := Option.some.inj H
          exact J71 _ _ (ha.sel (by kernel_rfl)) f1 hBg19 hBg32 hBg45 hBg53 hG hC hM
         ·have ha := ha.lit hb86
          have H := ite_f hb86 H
          refine ldA (cs := (cA .u8 8 t64.1)) ha rfl (by kernel_rfl) rfl rfl rfl (cells_sub (Box.cells hBg45) (all := (cA .u8 8 t64.1)) [] [] (by kernel_rfl)) fun a ha => ?_
          obtain ⟨t87, H87, H⟩ := bind_some H
          refine cl ha (by rfl) (by kernel_rfl) (by rfl) (by rfl) (by rfl) (community_Kind.walk w68 _ hM t64.1 _ H87) ?_
          rintro _ w87 ⟨rfl, hc87, hMn⟩ a ha
          have o1 : Ok [] ([g53] ++ ([g45] ++ ([g32] ++ ([g19] ++ (M))))) w68.heap.size := Ok.nil _ _
          have o2 : Ok ([g53] ++ ([g45] ++ ([g32] ++ ([g19] ++ (M))))) ([g53] ++ ([g45] ++ ([g32] ++ ([g19] ++ (M))))) w68.heap.size := (Ok.refl _ _)
          have hG := hG.chg hc87 o1 o2
          have f1 := f1.chg hc87 o1 o2
          have hBg19 := hBg19.chg hc87 (fun h => nomatch h)
          have hBg32 := hBg32.chg hc87 (fun h => nomatch h)
          have hBg45 := hBg45.chg hc87 (fun h => nomatch h)
          have hBg53 := hBg53.chg hc87 (fun h => nomatch h)
          have hM : MS ([g53] ++ ([g45] ++ ([g32] ++ ([g19] ++ (M))))) w87 := (hM.chg hc87)
          have hC := hC.trans hc87 (Ok.nil _ _)
          refine sgh ha 3 [2, 6, 3] [(4, .slice ao1 a4.length cap1), (11, .bool t14), (105, .bool (t87 != (3 : Int)))] (by kernel_rfl) fun a ha => ?_
          obtain rfl := Option.some.inj H
          exact J71 _ _ (ha.sel (by kernel_rfl)) f1 hBg19 hBg32 hBg45 hBg53 hG hC hM
       ·have ha := ha.lit hb84
        have H := ite_f hb84 H
        refine sgh ha 13 [1, 1, 1, 1, 1, 1, 1, 1, 1, 1, 1, 1, 4] [(4, .slice ao1 a4.length cap1), (11, .bool t14), (105, .bool false)] (by kernel_rfl) fun a ha => ?_
        obtain rfl := Option.some.inj H
        exact J71 _ _ (ha.sel (by kernel_rfl)) f1 hBg19 hBg32 hBg45 hBg53 hG hC hM
     have H := H60
     refine seg ha 3 [(61, .bool (t43.2 == (0 : Int))), (3, .int .i64 a3), (4, .slice ao1 a4.length cap1), (7, .pointer (some ⟨g9, 0, none⟩)), (11, .bool t14), (15, .pointer (some ⟨g45, 0, none⟩)), (16, .pointer (some ⟨g53, 0, none⟩)), (17, .int .i64 t51.2.1), (18, .bool t51.2.2)] (by kernel_rfl) fun a ha => ?_
     rcases Bool.eq_false_or_eq_true (t43.2 == (0 : Int)) with hb88 | hb88
     ·have ha := ha.lit hb88
      have H := ite_t hb88 H
      refine sgh ha 3 [2, 2, 2] [(64, .bool (!t51.2.2)), (3, .int .i64 a3), (4, .slice ao1 a4.length cap1), (7, .pointer (some ⟨g9, 0, none⟩)), (11, .bool t14), (15, .pointer (some ⟨g45, 0, none⟩)), (16, .pointer (some ⟨g53, 0, none⟩)), (17, .int .i64 t51.2.1), (61, .bool true)] (by kernel_rfl) fun a ha => ?_
      rcases Bool.eq_false_or_eq_true (!t51.2.2) with hb89 | hb89
      ·have ha := ha.lit hb89
       have H := ite_t hb89 H
       refine sgh ha 15 [1, 1, 1, 5, 2, 1, 1, 1, 5, 2, 1, 1, 1, 5, 3] [(3, .int .i64 a3), (4, .slice ao1 a4.length cap1), (11, .bool t14), (15, .pointer (some ⟨g45, 0, none⟩)), (79, .bool true)] (by kernel_rfl) fun a ha => ?_
       obtain rfl := Option.some.inj H
       exact J60 _ _ (ha.sel (by kernel_rfl)) f1 hBg19 hBg32 hBg45 hBg53 hG hC hM
      ·have ha := ha.lit hb89
       have H := ite_f hb89 H
       refine ldA (cs := (cS_api_Addr t51.1)) ha rfl (by kernel_rfl) rfl rfl rfl (cells_sub (Box.cells hBg53) (all := (cS_api_Addr t51.1)) [] [] (by kernel_rfl)) fun a ha => ?_
       refine ldA (cs := (cS_api_Addr a2)) ha rfl (by kernel_rfl) rfl rfl rfl (cells_sub hE11 (all := (cS_api_Addr a2)) [] [] (by kernel_rfl)) fun a ha => ?_
       refine hop (v := .bool (!((t51.1.Size == a2.Size) && ((eqA 16 t51.1.B a2.B) && true)))) (w' := w56) ha rfl rfl rfl (nes_run (r := ((t51.1.Size == a2.Size) && ((eqA 16 t51.1.B a2.B) && true))) (m := 9) ha rfl rfl (by kernel_rfl) rfl (by kernel_rfl) _) fun a ha => ?_
       refine sgh ha 2 [6, 2] [(69, .bool (!((t51.1.Size == a2.Size) && ((eqA 16 t51.1.B a2.B) && true)))), (3, .int .i64 a3), (4, .slice ao1 a4.length cap1), (11, .bool t14), (15, .pointer (some ⟨g45, 0, none⟩)), (17, .int .i64 t51.2.1), (61, .bool true)] (by kernel_rfl) fun a ha => ?_
       rcases Bool.eq_false_or_eq_true (!((t51.1.Size == a2.Size) && ((eqA 16 t51.1.B a2.B) && true))) with hb90 | hb90
       ·have ha := ha.lit hb90
        have H := ite_t hb90 H
        refine sgh ha 10 [1, 1, 1, 5, 2, 1, 1, 1, 5, 3] [(3, .int .i64 a3), (4, .slice ao1 a4.length cap1), (11, .bool t14), (15, .pointer (some ⟨g45, 0, none⟩)), (79, .bool true)] (by kernel_rfl) fun a ha => ?_
        obtain rfl := Option.some.inj H
        exact J60 _ _ (ha.sel (by kernel_rfl)) f1 hBg19 hBg32 hBg45 hBg53 hG hC hM
       ·have ha := ha.lit hb90
        have H := ite_f hb90 H
        refine sgh ha 5 [2, 2, 2, 6, 2] [(74, .bool (t51.2.1 != a3)), (3, .int .i64 a3), (4, .slice ao1 a4.length cap1), (11, .bool t14), (15, .pointer (some ⟨g45, 0, none⟩)), (61, .bool true)] (by kernel_rfl) fun a ha => ?_
        rcases Bool.eq_false_or_eq_true (t51.2.1 != a3) with hb91 | hb91
        ·have ha := ha.lit hb91
         have H := ite_t hb91 H
         refine sgh ha 5 [1, 1, 1, 5, 3] [(3, .int .i64 a3), (4, .slice ao1 a4.length cap1), (11, .bool t14), (15, .pointer (some ⟨g45, 0, none⟩)), (79, .bool true)] (by kernel_rfl) fun a ha => ?_
         obtain rfl := Option.some.inj H
         exact J60 _ _ (ha.sel (by kernel_rfl)) f1 hBg19 hBg32 hBg45 hBg53 hG hC hM
        ·have ha := ha.lit hb91
         have H := ite_f hb91 H
         refine ldA (cs := (cA .u8 8 t43.1)) ha rfl (by kernel_rfl) rfl rfl rfl (cells_sub (Box.cells hBg45) (all := (cA .u8 8 t43.1)) [] [] (by kernel_rfl)) fun a ha => ?_
         obtain ⟨t92, H92, H⟩ := bind_some H
         refine cl ha (by rfl) (by kernel_rfl) (by rfl) (by rfl) (by rfl) (community_Kind.walk w56 _ hM t43.1 _ H92) ?_
         rintro _ w92 ⟨rfl, hc92, hMn⟩ a ha
         have o1 : Ok [] ([g53] ++ ([g45] ++ ([g32] ++ ([g19] ++ (M))))) w56.heap.size := Ok.nil _ _
         have o2 : Ok ([g53] ++ ([g45] ++ ([g32] ++ ([g19] ++ (M))))) ([g53] ++ ([g45] ++ ([g32] ++ ([g19] ++ (M))))) w56.heap.size := (Ok.refl _ _)
         have hG := hG.chg hc92 o1 o2
         have f1 := f1.chg hc92 o1 o2
         have hBg19 := hBg19.chg hc92 (fun h => nomatch h)
         have hBg32 := hBg32.chg hc92 (fun h => nomatch h)
         have hBg45 := hBg45.chg hc92 (fun h => nomatch h)
         have hBg53 := hBg53.chg hc92 (fun h => nomatch h)
         have hM : MS ([g53] ++ ([g45] ++ ([g32] ++ ([g19] ++ (M))))) w92 := (hM.chg hc92)
         have hC := hC.trans hc92 (Ok.nil _ _)
         refine sgh ha 3 [2, 6, 3] [(3, .int .i64 a3), (4, .slice ao1 a4.length cap1), (11, .bool t14), (15, .pointer (some ⟨g45, 0, none⟩)), (79, .bool (t92 != (2 : Int)))] (by kernel_rfl) fun a ha => ?_
         obtain rfl := Option.some.inj H
         exact J60 _ _ (ha.sel (by kernel_rfl)) f1 hBg19 hBg32 hBg45 hBg53 hG hC hM
     ·have ha := ha.lit hb88
      have H := ite_f hb88 H
      refine sgh ha 18 [1, 1, 1, 1, 1, 1, 1, 1, 1, 1, 1, 1, 1, 1, 1, 1, 1, 4] [(3, .int .i64 a3), (4, .slice ao1 a4.length cap1), (11, .bool t14), (15, .pointer (some ⟨g45, 0, none⟩)), (79, .bool false)] (by kernel_rfl) fun a ha => ?_
      obtain rfl := Option.some.inj H
      exact J60 _ _ (ha.sel (by kernel_rfl)) f1 hBg19 hBg32 hBg45 hBg53 hG hC hM
   have H := H39
   refine seg ha 3 [(41, .bool (t30.2 == (0 : Int))), (1, .string (bstr a1)), (3, .int .i64 a3), (4, .slice ao1 a4.length cap1), (7, .pointer (some ⟨g9, 0, none⟩)), (11, .bool t14), (14, .pointer (some ⟨g32, 0, none⟩))] (by kernel_rfl) fun a ha => ?_
   rcases Bool.eq_false_or_eq_true (t30.2 == (0 : Int)) with hb93 | hb93
   ·have ha := ha.lit hb93
    have H := ite_t hb93 H
    refine ldA (cs := (cA .u8 8 t30.1)) ha rfl (by kernel_rfl) rfl rfl rfl (cells_sub (Box.cells hBg32) (all := (cA .u8 8 t30.1)) [] [] (by kernel_rfl)) fun a ha => ?_
    obtain ⟨t94, H94, H⟩ := bind_some H
    refine cl ha (by rfl) (by kernel_rfl) (by rfl) (by rfl) (by rfl) (community_Text.walk w35 _ hM hG t30.1 k _ H94) ?_
    rintro _ w94 ⟨rfl, hc94, hMn⟩ a ha
    have o1 : Ok [] ([g32] ++ ([g19] ++ (M))) w35.heap.size := Ok.nil _ _
    have o2 : Ok ([g32] ++ ([g19] ++ (M))) ([g32] ++ ([g19] ++ (M))) w35.heap.size := (Ok.refl _ _)
    have hG := hG.chg hc94 o1 o2
    have f1 := f1.chg hc94 o1 o2
    have hBg19 := hBg19.chg hc94 (fun h => nomatch h)
    have hBg32 := hBg32.chg hc94 (fun h => nomatch h)
    have q_hn12 : g9 ∉ [g32] ++ ([g19] ++ (M)) := fun h => (o2 g9 h).elim hn12 (fun h => absurd (lt_cell (hE11 0 _ rfl)) (Nat.not_lt.2 h))
    have hE11 : ∀ j v, (cS_api_Addr a2)[j]? = some v → w94.cell? ⟨g9, 0 + j, none⟩ = some v := fun j v hv => (cell_keep hc94 o1 hn12 (hE11 j v hv))
    have hn12 := q_hn12
    have hM : MS ([g32] ++ ([g19] ++ (M))) w94 := (hM.chg hc94)
    have hC := hC.trans hc94 (Ok.nil _ _)
    refine sgh ha 3 [2, 2, 3] [(3, .int .i64 a3), (4, .slice ao1 a4.length cap1), (7, .pointer (some ⟨g9, 0, none⟩)), (11, .bool t14), (46, .bool (!((bstr t94).toList == (bstr a1).toList)))] (by kernel_rfl) fun a ha => ?_
    obtain rfl := Option.some.inj H
    exact J39 _ _ (ha.sel (by kernel_rfl)) f1 hBg19 hBg32 hE11 hn12 hG hC hM
   ·have ha := ha.lit hb93
    have H := ite_f hb93 H
    refine sgh ha 5 [1, 1, 1, 1, 4] [(3, .int .i64 a3), (4, .slice ao1 a4.length cap1), (7, .pointer (some ⟨g9, 0, none⟩)), (11, .bool t14), (46, .bool false)] (by kernel_rfl) fun a ha => ?_
    obtain rfl := Option.some.inj H
    exact J39 _ _ (ha.sel (by kernel_rfl)) f1 hBg19 hBg32 hE11 hn12 hG hC hM
 have H := H26
 refine seg ha 3 [(29, .bool (t17.2 != (0 : Int))), (1, .string (bstr a1)), (3, .int .i64 a3), (4, .slice ao1 a4.length cap1), (5, .pointer (some ⟨g4, 0, none⟩)), (7, .pointer (some ⟨g9, 0, none⟩)), (11, .bool t14), (12, .pointer (some ⟨g19, 0, none⟩))] (by kernel_rfl) fun a ha => ?_
 rcases Bool.eq_false_or_eq_true (t17.2 != (0 : Int)) with hb95 | hb95
 ·have ha := ha.lit hb95
  have H := ite_t hb95 H
  refine sgh ha 4 [1, 1, 1, 3] [(1, .string (bstr a1)), (3, .int .i64 a3), (4, .slice ao1 a4.length cap1), (7, .pointer (some ⟨g9, 0, none⟩)), (11, .bool t14), (33, .bool true)] (by kernel_rfl) fun a ha => ?_
  obtain rfl := Option.some.inj H
  exact J26 _ _ (ha.sel (by kernel_rfl)) f1 hBg19 hE11 hn12 hG hC hM
 ·have ha := ha.lit hb95
  have H := ite_f hb95 H
  refine ldA (cs := (cA .u8 8 t17.1)) ha rfl (by kernel_rfl) rfl rfl rfl (cells_sub (Box.cells hBg19) (all := (cA .u8 8 t17.1)) [] [] (by kernel_rfl)) fun a ha => ?_
  refine ldA (cs := (cA .u8 8 a0)) ha rfl (by kernel_rfl) rfl rfl rfl (cells_sub hE6 (all := (cA .u8 8 a0)) [] [] (by kernel_rfl)) fun a ha => ?_
  refine hop (v := .bool (!(eqA 8 t17.1 a0))) (w' := w22) ha rfl rfl rfl (nes_run (r := (eqA 8 t17.1 a0)) (m := 9) ha rfl rfl (by kernel_rfl) rfl (by kernel_rfl) _) fun a ha => ?_
  refine sgh ha 1 [4] [(1, .string (bstr a1)), (3, .int .i64 a3), (4, .slice ao1 a4.length cap1), (7, .pointer (some ⟨g9, 0, none⟩)), (11, .bool t14), (33, .bool (!(eqA 8 t17.1 a0)))] (by kernel_rfl) fun a ha => ?_
  obtain rfl := Option.some.inj H
  exact J26 _ _ (ha.sel (by kernel_rfl)) f1 hBg19 hE11 hn12 hG hC hM
end Go.E
