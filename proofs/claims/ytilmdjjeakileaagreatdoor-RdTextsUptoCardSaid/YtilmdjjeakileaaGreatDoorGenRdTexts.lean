/- What the functions that the law reaches compute, and the walks that show it. -/
import Derived.Test.YtilmdjjeakileaaGreatDoorEngU
import Derived.Test.YtilmdjjeakileaaGreatDoorShelf
import Derived.Test.YtilmdjjeakileaaGreatDoorProg
import Derived.Test.YtilmdjjeakileaaGreatDoorGenRdTextsP2
set_option linter.unusedVariables false
set_option linter.unusedSimpArgs false
namespace Go.E
open Go.RowKit Go.Proofs
def vineryref02_Parse.f (k : Nat) (a0 : List UInt8) : Option (S_api_Addr × Int) := (if ((bstr a0).toList == (bstr ([] : List UInt8)).toList) = true then some (((⟨(0 : Int), (List.replicate 16 (0 : Int))⟩ : S_api_Addr) : S_api_Addr), ((0 : Int) : Int)) else (if (decide (((bstr a0).size : Int) > (39 : Int))) = true then some (((⟨(0 : Int), (List.replicate 16 (0 : Int))⟩ : S_api_Addr) : S_api_Addr), ((4 : Int) : Int)) else (vineryref02_rough.f k a0).bind fun t19 => (vineryref02_Text.f k t19).bind fun t28 => (if (!((bstr t28).toList == (bstr a0).toList)) = true then some (((⟨(0 : Int), (List.replicate 16 (0 : Int))⟩ : S_api_Addr) : S_api_Addr), ((4 : Int) : Int)) else some ((t19 : S_api_Addr), ((0 : Int) : Int)))))
set_option maxRecDepth 100000 in
theorem vineryref02_Parse.walk (w : World) (M : List Nat) (hM : MS M w) (a0 : List UInt8) (k : Nat) (r : S_api_Addr × Int) (H : vineryref02_Parse.f k a0 = some r) :
    To Tryz.prog 76 [.string (bstr a0)] w fun v w' => v = .tuple #[.agg (cS_api_Addr r.1).toArray, .int .i64 r.2] ∧ Chg [] w w' ∧ MS (M) w' := by
 unfold vineryref02_Parse.f at H
 refine ent Tryz.func76 rfl [(0, .string (bstr a0))] rfl (by rfl) fun a ha => ?_
 have hC : Chg [] w w := Chg.refl _ _
 refine wp_seq_k fun K1 hK1 => ?_
 refine wp_region_lit ?_
 refine al (cs := (cS_api_Addr (⟨(0 : Int), (List.replicate 16 (0 : Int))⟩ : S_api_Addr))) (z := .agg (cS_api_Addr (⟨(0 : Int), (List.replicate 16 (0 : Int))⟩ : S_api_Addr)).toArray) ha (fun w => by kernel_rfl) rfl rfl rfl rfl fun a w2 g3 hN4 ha => ?_
 have p_i5_M : ∀ x ∈ [g3], x ∉ M := fun x hx hy => absurd (hM x (hy)) (Nat.not_lt.2 ((hN4.ge1) x hx))
 have e_i5 : ∀ x ∈ [g3], w.heap.size ≤ x := fun x hx => Nat.le_trans hC.size ((hN4.ge1) x hx)
 have hM : MS ([g3] ++ (M)) w2 := (MS.app hN4.ms (hM.chg hN4.chg))
 have hC := hC.trans hN4.chg (Ok.nil _ _)
 have hBg3 : Box w2 g3 (cS_api_Addr (⟨(0 : Int), (List.replicate 16 (0 : Int))⟩ : S_api_Addr)) := hN4.box
 refine seg ha 1 [(0, .string (bstr a0)), (2, .pointer (some ⟨g3, 0, none⟩))] (by kernel_rfl) fun a ha => ?_
 refine hK1 _ _ ?_; try clear hK1 K1
 refine wp_seq_k fun K6 hK6 => ?_
 refine wp_seq_k fun K7 hK7 => ?_
 refine wp_region_lit ?_
 refine seg ha 2 [(0, .string (bstr a0)), (2, .pointer (some ⟨g3, 0, none⟩)), (6, .bool ((bstr a0).toList == (bstr ([] : List UInt8)).toList))] (by kernel_rfl) fun a ha => ?_
 refine hK7 _ _ ?_; try clear hK7 K7
 refine cnd ha rfl (fun hc8 => ?_) (fun hc8 => ?_)
 ·have H := ite_t hc8 H
  refine wp_seq_k fun K9 hK9 => ?_
  refine wp_region_lit ?_
  refine opk (v := .agg (cS_api_Addr (⟨(0 : Int), (List.replicate 16 (0 : Int))⟩ : S_api_Addr)).toArray) ha rfl rfl rfl rfl rfl (fun w => by kernel_rfl) fun a ha => ?_
  refine stA (l := (cS_api_Addr (⟨(0 : Int), (List.replicate 16 (0 : Int))⟩ : S_api_Addr))) ha rfl rfl rfl (by kernel_rfl) rfl rfl hBg3 rfl fun a w10 ha hb2 hc11 _ => ?_
  have hM : MS ([g3] ++ (M)) w10 := (hM.chg hc11)
  have hC := hC.trans hc11 (fun x h => .inr (e_i5 x h))
  have hBg3 : Box w10 g3 (cS_api_Addr (⟨(0 : Int), (List.replicate 16 (0 : Int))⟩ : S_api_Addr)) := hb2
  refine seg ha 1 [(2, .pointer (some ⟨g3, 0, none⟩)), (3, .int .i64 (0 : Int))] (by kernel_rfl) fun a ha => ?_
  refine hK9 _ _ ?_; try clear hK9 K9
  refine wp_ret ?_
  try simp only [Exit.then, Exit.inBlock]
  have hBg3 := hBg3.chg (Chg.refl [] _) (fun h => nomatch h)
  have hM : MS (M) w10 := (fun x h => hM.chg (Chg.refl [] _) x (mr (h)))
  have hC := hC.trans (Chg.refl [] _) (Ok.nil _ _)
  obtain rfl := Option.some.inj H
  refine rtr ha (res2 rfl (roA ha rfl hBg3 (by kernel_rfl)) (roT ha rfl)) ?_
  exact ⟨rfl, hC, hM⟩
 ·have H := ite_f hc8 H
  refine wp_skip ?_
  refine hK6 _ _ ?_; try clear hK6 K6
  refine wp_seq_k fun K12 hK12 => ?_
  refine wp_seq_k fun K13 hK13 => ?_
  refine wp_region_lit ?_
  refine seg ha 3 [(0, .string (bstr a0)), (2, .pointer (some ⟨g3, 0, none⟩)), (10, .bool (decide (((bstr a0).size : Int) > (39 : Int))))] (by kernel_rfl) fun a ha => ?_
  refine hK13 _ _ ?_; try clear hK13 K13
  refine cnd ha rfl (fun hc14 => ?_) (fun hc14 => ?_)
  ·have H := ite_t hc14 H
   refine wp_seq_k fun K15 hK15 => ?_
   refine wp_region_lit ?_
   refine opk (v := .agg (cS_api_Addr (⟨(0 : Int), (List.replicate 16 (0 : Int))⟩ : S_api_Addr)).toArray) ha rfl rfl rfl rfl rfl (fun w => by kernel_rfl) fun a ha => ?_
   refine stA (l := (cS_api_Addr (⟨(0 : Int), (List.replicate 16 (0 : Int))⟩ : S_api_Addr))) ha rfl rfl rfl (by kernel_rfl) rfl rfl hBg3 rfl fun a w16 ha hb2 hc17 _ => ?_
   have hM : MS ([g3] ++ (M)) w16 := (hM.chg hc17)
   have hC := hC.trans hc17 (fun x h => .inr (e_i5 x h))
   have hBg3 : Box w16 g3 (cS_api_Addr (⟨(0 : Int), (List.replicate 16 (0 : Int))⟩ : S_api_Addr)) := hb2
   refine seg ha 1 [(2, .pointer (some ⟨g3, 0, none⟩)), (3, .int .i64 (4 : Int))] (by kernel_rfl) fun a ha => ?_
   refine hK15 _ _ ?_; try clear hK15 K15
   refine wp_ret ?_
   try simp only [Exit.then, Exit.inBlock]
   have hBg3 := hBg3.chg (Chg.refl [] _) (fun h => nomatch h)
   have hM : MS (M) w16 := (fun x h => hM.chg (Chg.refl [] _) x (mr (h)))
   have hC := hC.trans (Chg.refl [] _) (Ok.nil _ _)
   obtain rfl := Option.some.inj H
   refine rtr ha (res2 rfl (roA ha rfl hBg3 (by kernel_rfl)) (roT ha rfl)) ?_
   exact ⟨rfl, hC, hM⟩
  ·have H := ite_f hc14 H
   refine wp_skip ?_
   refine hK12 _ _ ?_; try clear hK12 K12
   refine wp_seq_k fun K18 hK18 => ?_
   refine wp_region_lit ?_
   refine seg ha 1 [(0, .string (bstr a0)), (2, .pointer (some ⟨g3, 0, none⟩)), (12, .string (bstr a0))] (by kernel_rfl) fun a ha => ?_
   obtain ⟨t19, H19, H⟩ := bind_some H
   refine cl ha (by rfl) (by kernel_rfl) (by rfl) (by rfl) (by rfl) (vineryref02_rough.walk w2 _ hM a0 k _ H19) ?_
   rintro _ w19 ⟨rfl, hc19, hMn⟩ a ha
   have hBg3 := hBg3.chg hc19 (fun h => nomatch h)
   have hM : MS ([g3] ++ (M)) w19 := (hM.chg hc19)
   have hC := hC.trans hc19 (Ok.nil _ _)
   refine al (cs := (cS_api_Addr (⟨(0 : Int), (List.replicate 16 (0 : Int))⟩ : S_api_Addr))) (z := .agg (cS_api_Addr (⟨(0 : Int), (List.replicate 16 (0 : Int))⟩ : S_api_Addr)).toArray) ha (fun w => by kernel_rfl) rfl rfl rfl rfl fun a w20 g21 hN22 ha => ?_
   have hBg3 := hBg3.chg hN22.chg (fun h => nomatch h)
   have p_i23_i5 : ∀ x ∈ [g21], x ∉ ([g3]) := fun x hx hy => absurd (hM x (ml hy)) (Nat.not_lt.2 ((hN22.ge1) x hx))
   have p_i23_M : ∀ x ∈ [g21], x ∉ M := fun x hx hy => absurd (hM x (mr (hy))) (Nat.not_lt.2 ((hN22.ge1) x hx))
   have e_i23 : ∀ x ∈ [g21], w.heap.size ≤ x := fun x hx => Nat.le_trans hC.size ((hN22.ge1) x hx)
   have hM : MS ([g21] ++ ([g3] ++ (M))) w20 := (MS.app hN22.ms (hM.chg hN22.chg))
   have hC := hC.trans hN22.chg (Ok.nil _ _)
   have hBg21 : Box w20 g21 (cS_api_Addr (⟨(0 : Int), (List.replicate 16 (0 : Int))⟩ : S_api_Addr)) := hN22.box
   refine stA (l := (cS_api_Addr t19)) ha rfl rfl rfl (by kernel_rfl) rfl rfl hBg21 rfl fun a w24 ha hb2 hc25 _ => ?_
   have hBg3 := hBg3.chg hc25 ((fun x (hx : x ∈ [g3]) (hy : x ∈ [g21]) => p_i23_i5 x hy hx) g3 (by simp))
   have hM : MS ([g21] ++ ([g3] ++ (M))) w24 := (hM.chg hc25)
   have hC := hC.trans hc25 (fun x h => .inr (e_i23 x h))
   have hBg21 : Box w24 g21 (cS_api_Addr t19) := hb2
   refine hK18 _ _ ?_; try clear hK18 K18
   refine wp_seq_k fun K26 hK26 => ?_
   refine wp_seq_k fun K27 hK27 => ?_
   refine wp_region_lit ?_
   refine ldA (cs := (cS_api_Addr t19)) ha rfl (by kernel_rfl) rfl rfl rfl (cells_sub (Box.cells hBg21) (all := (cS_api_Addr t19)) [] [] (by kernel_rfl)) fun a ha => ?_
   obtain ⟨t28, H28, H⟩ := bind_some H
   refine cl ha (by rfl) (by kernel_rfl) (by rfl) (by rfl) (by rfl) (vineryref02_Text.walk w24 _ hM t19 k _ H28) ?_
   rintro _ w28 ⟨rfl, hc28, hMn⟩ a ha
   have hBg3 := hBg3.chg hc28 (fun h => nomatch h)
   have hBg21 := hBg21.chg hc28 (fun h => nomatch h)
   have hM : MS ([g21] ++ ([g3] ++ (M))) w28 := (hM.chg hc28)
   have hC := hC.trans hc28 (Ok.nil _ _)
   refine seg ha 2 [(2, .pointer (some ⟨g3, 0, none⟩)), (4, .pointer (some ⟨g21, 0, none⟩)), (17, .bool (!((bstr t28).toList == (bstr a0).toList)))] (by kernel_rfl) fun a ha => ?_
   refine hK27 _ _ ?_; try clear hK27 K27
   refine cnd ha rfl (fun hc29 => ?_) (fun hc29 => ?_)
   ·have H := ite_t hc29 H
    refine wp_seq_k fun K30 hK30 => ?_
    refine wp_region_lit ?_
    refine opk (v := .agg (cS_api_Addr (⟨(0 : Int), (List.replicate 16 (0 : Int))⟩ : S_api_Addr)).toArray) ha rfl rfl rfl rfl rfl (fun w => by kernel_rfl) fun a ha => ?_
    refine stA (l := (cS_api_Addr (⟨(0 : Int), (List.replicate 16 (0 : Int))⟩ : S_api_Addr))) ha rfl rfl rfl (by kernel_rfl) rfl rfl hBg3 rfl fun a w31 ha hb2 hc32 _ => ?_
    have hBg21 := hBg21.chg hc32 (p_i23_i5 g21 (by simp))
    have hM : MS ([g21] ++ ([g3] ++ (M))) w31 := (hM.chg hc32)
    have hC := hC.trans hc32 (fun x h => .inr (e_i5 x h))
    have hBg3 : Box w31 g3 (cS_api_Addr (⟨(0 : Int), (List.replicate 16 (0 : Int))⟩ : S_api_Addr)) := hb2
    refine seg ha 1 [(2, .pointer (some ⟨g3, 0, none⟩)), (3, .int .i64 (4 : Int))] (by kernel_rfl) fun a ha => ?_
    refine hK30 _ _ ?_; try clear hK30 K30
    refine wp_ret ?_
    try simp only [Exit.then, Exit.inBlock]
    have hBg3 := hBg3.chg (Chg.refl [] _) (fun h => nomatch h)
    have hBg21 := hBg21.chg (Chg.refl [] _) (fun h => nomatch h)
    have hM : MS (M) w31 := (fun x h => hM.chg (Chg.refl [] _) x (mr (mr (h))))
    have hC := hC.trans (Chg.refl [] _) (Ok.nil _ _)
    obtain rfl := Option.some.inj H
    refine rtr ha (res2 rfl (roA ha rfl hBg3 (by kernel_rfl)) (roT ha rfl)) ?_
    exact ⟨rfl, hC, hM⟩
   ·have H := ite_f hc29 H
    refine wp_skip ?_
    refine hK26 _ _ ?_; try clear hK26 K26
    refine wp_seq_k fun K33 hK33 => ?_
    refine wp_region_lit ?_
    refine ldA (cs := (cS_api_Addr t19)) ha rfl (by kernel_rfl) rfl rfl rfl (cells_sub (Box.cells hBg21) (all := (cS_api_Addr t19)) [] [] (by kernel_rfl)) fun a ha => ?_
    refine stA (l := (cS_api_Addr t19)) ha rfl rfl rfl (by kernel_rfl) rfl rfl hBg3 rfl fun a w34 ha hb2 hc35 _ => ?_
    have hBg21 := hBg21.chg hc35 (p_i23_i5 g21 (by simp))
    have hM : MS ([g21] ++ ([g3] ++ (M))) w34 := (hM.chg hc35)
    have hC := hC.trans hc35 (fun x h => .inr (e_i5 x h))
    have hBg3 : Box w34 g3 (cS_api_Addr t19) := hb2
    refine seg ha 1 [(2, .pointer (some ⟨g3, 0, none⟩)), (3, .int .i64 (0 : Int))] (by kernel_rfl) fun a ha => ?_
    refine hK33 _ _ ?_; try clear hK33 K33
    refine wp_ret ?_
    try simp only [Exit.then, Exit.inBlock]
    have hBg3 := hBg3.chg (Chg.refl [] _) (fun h => nomatch h)
    have hBg21 := hBg21.chg (Chg.refl [] _) (fun h => nomatch h)
    have hM : MS (M) w34 := (fun x h => hM.chg (Chg.refl [] _) x (mr (mr (h))))
    have hC := hC.trans (Chg.refl [] _) (Ok.nil _ _)
    obtain rfl := Option.some.inj H
    refine rtr ha (res2 rfl (roA ha rfl hBg3 (by kernel_rfl)) (roT ha rfl)) ?_
    exact ⟨rfl, hC, hM⟩
def vineryref02_Bytes.f (k : Nat) (a0 : S_api_Addr) : Option (List Int) := (vineryref02_Right.f k a0).bind fun t8 => (if (!t8) = true then some ((([] : List Int) : List Int)) else (if 0 ≤ (0 : Int) ∧ (0 : Int) ≤ a0.Size ∧ a0.Size ≤ (16 : Int) then (if (([] : List Int).length + (((arL 16 a0.B).take (Int.toNat a0.Size)).drop (Int.toNat (0 : Int))).length) * 1 ≤ 140737488355328 then some (((([] : List Int) ++ (((arL 16 a0.B).take (Int.toNat a0.Size)).drop (Int.toNat (0 : Int)))) : List Int)) else none) else none))
set_option maxRecDepth 100000 in
theorem vineryref02_Bytes.walk (w : World) (M : List Nat) (hM : MS M w) (a0 : S_api_Addr) (k : Nat) (r : List Int) (H : vineryref02_Bytes.f k a0 = some r) :
    To Tryz.prog 78 [.agg (cS_api_Addr a0).toArray] w fun v w' => ∃ (ao25 : Option Addr) (cap25 : Nat), v = .slice ao25 r.length cap25 ∧ (Own (rInt .u8) 5 w' (blkL ao25 ++ (M)) ao25 cap25 r) ∧ (∀ x ∈ blkL ao25, w.heap.size ≤ x) ∧ Chg [] w w' ∧ MS (blkL ao25 ++ (M)) w' := by
 unfold vineryref02_Bytes.f at H
 refine ent Tryz.func78 rfl [(0, .agg (cS_api_Addr a0).toArray)] rfl (by rfl) fun a ha => ?_
 have hC : Chg [] w w := Chg.refl _ _
 refine wp_seq_k fun K1 hK1 => ?_
 refine wp_region_lit ?_
 refine bx (cs := (cS_api_Addr a0)) ha rfl rfl rfl rfl rfl fun a w2 g3 hN4 ha => ?_
 have hn6 := hN4.notin hM
 have hM : MS (M) w2 := (hM.chg hN4.chg)
 have hC := hC.trans hN4.chg (Ok.nil _ _)
 have hE5 : ∀ j v, (cS_api_Addr a0)[j]? = some v → w2.cell? ⟨g3, 0 + j, none⟩ = some v := Box.cells (New.box hN4)
 refine seg ha 1 [(1, .pointer (some ⟨g3, 0, none⟩))] (by kernel_rfl) fun a ha => ?_
 refine hK1 _ _ ?_; try clear hK1 K1
 refine wp_seq_k fun K7 hK7 => ?_
 refine wp_region_lit ?_
 refine ldA (cs := (cS_api_Addr a0)) ha rfl (by kernel_rfl) rfl rfl rfl (cells_sub hE5 (all := (cS_api_Addr a0)) [] [] (by kernel_rfl)) fun a ha => ?_
 obtain ⟨t8, H8, H⟩ := bind_some H
 refine cl ha (by rfl) (by kernel_rfl) (by rfl) (by rfl) (by rfl) (vineryref02_Right.walk w2 _ hM a0 k _ H8) ?_
 rintro _ w8 ⟨rfl, hc8, hMn⟩ a ha
 have o1 : Ok [] (M) w2.heap.size := Ok.nil _ _
 have o2 : Ok (M) (M) w2.heap.size := (Ok.refl _ _)
 have q_hn6 : g3 ∉ M := fun h => (o2 g3 h).elim hn6 (fun h => absurd (lt_cell (hE5 0 _ rfl)) (Nat.not_lt.2 h))
 have hE5 : ∀ j v, (cS_api_Addr a0)[j]? = some v → w8.cell? ⟨g3, 0 + j, none⟩ = some v := fun j v hv => (cell_keep hc8 o1 hn6 (hE5 j v hv))
 have hn6 := q_hn6
 have hM : MS (M) w8 := (hM.chg hc8)
 have hC := hC.trans hc8 (Ok.nil _ _)
 refine seg ha 1 [(1, .pointer (some ⟨g3, 0, none⟩)), (3, .bool t8)] (by kernel_rfl) fun a ha => ?_
 refine hK7 _ _ ?_; try clear hK7 K7
 refine wp_seq_k fun K9 hK9 => ?_
 refine wp_seq_k fun K10 hK10 => ?_
 refine wp_region_lit ?_
 refine seg ha 2 [(1, .pointer (some ⟨g3, 0, none⟩)), (7, .bool (!t8))] (by kernel_rfl) fun a ha => ?_
 refine hK10 _ _ ?_; try clear hK10 K10
 refine cnd ha rfl (fun hc11 => ?_) (fun hc11 => ?_)
 ·have H := ite_t hc11 H
  refine wp_seq_k fun K12 hK12 => ?_
  refine wp_region_lit ?_
  refine seg ha 1 [(2, .slice none 0 0)] (by kernel_rfl) fun a ha => ?_
  refine hK12 _ _ ?_; try clear hK12 K12
  refine wp_ret ?_
  try simp only [Exit.then, Exit.inBlock]
  have p_z13_M : ∀ x ∈ blkL none, x ∉ M := fun x hx hy => absurd (hM x (hy)) (Nat.not_lt.2 ((fun _ h => nomatch h) x hx))
  have e_z13 : ∀ x ∈ blkL none, w.heap.size ≤ x := fun x hx => Nat.le_trans hC.size ((fun _ h => nomatch h) x hx)
  have hM : MS (blkL none ++ (M)) w8 := (MS.app (fun _ h => nomatch h) (hM.chg (Chg.refl [] _)))
  have hC := hC.trans (Chg.refl [] _) (Ok.nil _ _)
  obtain rfl := Option.some.inj H
  refine rt1 ha rfl rfl ?_
  exact ⟨none, 0, rfl, Own.nil, e_z13, hC, hM⟩
 ·have H := ite_f hc11 H
  refine wp_skip ?_
  refine hK9 _ _ ?_; try clear hK9 K9
  refine wp_seq_k fun K14 hK14 => ?_
  refine wp_region_lit ?_
  refine bsl (vals := ([] : List Value)) (T := 5) ha rfl ([] : List Value) (fun w => by kernel_rfl) rfl rfl rfl fun a w15 g16 hN17 ha => ?_
  have o1 : Ok [] (M) w8.heap.size := Ok.nil _ _
  have o2 : Ok ([g16] ++ (M)) (M) w8.heap.size := (Ok.app (hN17.ok _) (Ok.refl _ _))
  have q_hn6 : g3 ∉ [g16] ++ (M) := fun h => (o2 g3 h).elim hn6 (fun h => absurd (lt_cell (hE5 0 _ rfl)) (Nat.not_lt.2 h))
  have hE5 : ∀ j v, (cS_api_Addr a0)[j]? = some v → w15.cell? ⟨g3, 0 + j, none⟩ = some v := fun j v hv => (cell_keep hN17.chg o1 hn6 (hE5 j v hv))
  have hn6 := q_hn6
  have p_i18_M : ∀ x ∈ [g16], x ∉ M := fun x hx hy => absurd (hM x (hy)) (Nat.not_lt.2 ((hN17.ge1) x hx))
  have e_i18 : ∀ x ∈ [g16], w.heap.size ≤ x := fun x hx => Nat.le_trans hC.size ((hN17.ge1) x hx)
  have hM : MS ([g16] ++ (M)) w15 := (MS.app hN17.ms (hM.chg hN17.chg))
  have hC := hC.trans hN17.chg (Ok.nil _ _)
  have f19 : Own (rInt .u8) 5 w15 ([g16] ++ (M)) (some ⟨g16, 0, none⟩) 0 ([] : List Int) := hN17.own rfl (Nat.le_of_ble_eq_true rfl)
  refine seg ha 2 [(8, .slice (some ⟨g16, 0, none⟩) ([] : List Int).length 0), (9, .pointer (some ⟨g3, 0 + 1, none⟩)), (10, .pointer (some ⟨g3, 0, none⟩))] (by kernel_rfl) fun a ha => ?_
  refine ld ha rfl (by kernel_rfl) rfl rfl rfl (hE5 0 (.int .i64 a0.Size) (by kernel_rfl)) fun a ha => ?_
  have f20 : RSl (rInt .u8) 5 w15 ([g16] ++ (M)) (some ⟨g3, 0 + 1, none⟩) 16 (arL 16 a0.B) := RSl.ofA [.int .i64 a0.Size] [] hE5 hn6 (by kernel_rfl) rfl
  obtain ⟨⟨hx21, hx21', hx21''⟩, H⟩ := ite_some H
  obtain ⟨ao21, cap21, f21, hr21⟩ := slA_run (kk := .u8) (T := 5) (N := 16) (g := g3) (o' := 0 + 1) (xs := (arL 16 a0.B)) (t := 31) (lo := Option.none) (hi := (Option.some (Operand.tmp 11))) (l := (0 : Int)) (h := a0.Size) (dd := some 12) (ty := 67) (pos := "ref.go:41") (af := #[{ on := 1, ground := Ground.data }, { on := 3, ground := Ground.data }]) (gd := Option.none) ha (by kernel_rfl) (by kernel_rfl) (x := (Operand.tmp 9)) rfl (arL_length _ _) rfl rfl f20 hx21 hx21' (by rw [arL_length]; exact hx21'')
  refine hop (v := .slice ao21 (((arL 16 a0.B).take (Int.toNat a0.Size)).drop (Int.toNat (0 : Int))).length cap21) (w' := w15) ha rfl rfl rfl (hr21 _) fun a ha => ?_
  obtain ⟨hx22, H⟩ := ite_some H
  refine app (r := (rInt .u8)) (xs := ([] : List Int)) (ys := (((arL 16 a0.B).take (Int.toNat a0.Size)).drop (Int.toNat (0 : Int)))) ha (ElemT.mk' (bytes := 1) (by kernel_rfl)) rfl rfl rfl rfl rfl f19 f21.src hx22 (by decide) fun a w23 ao24 cap24 hO24 hc24 hk24 hl24 ha => ?_
  have o1 : Ok [g16] ([g16] ++ (M)) w15.heap.size := (fun _ h => .inl (ml h))
  have o2 : Ok (blkL ao24 ++ (M)) ([g16] ++ (M)) w15.heap.size := (Ok.app (Ok.to hk24 (fun _ h => ml h)) (fun _ h => .inl (mr (h))))
  have f21 := f21.chg hc24 o1 o2
  have p_i24_M : ∀ x ∈ blkL ao24, x ∉ M := fun x hx hy => (hk24 x hx).elim (fun h => p_i18_M x h hy) (fun h => absurd (hM x (mr (hy))) (Nat.not_lt.2 h))
  have e_i24 : ∀ x ∈ blkL ao24, w.heap.size ≤ x := fun x hx => (hk24 x hx).elim (e_i18 x) (Nat.le_trans hC.size)
  have hM : MS (blkL ao24 ++ (M)) w23 := (MS.app hl24 (fun x h => hM.chg hc24 x (mr (h))))
  have hC := hC.trans hc24 (fun x h => .inr (e_i18 x h))
  have f24 := hO24.chg (M' := blkL ao24 ++ (M)) (Chg.refl [] _) (Ok.nil _ _) (Ok.app (fun _ h => .inl (ml h)) (Ok.to (fun _ h => .inl (mr (h))) (fun _ h => mr h))) (fun _ _ h => nomatch h) (fun _ h => ml h)
  refine seg ha 1 [(2, .slice ao24 (([] : List Int) ++ (((arL 16 a0.B).take (Int.toNat a0.Size)).drop (Int.toNat (0 : Int)))).length cap24)] (by kernel_rfl) fun a ha => ?_
  refine hK14 _ _ ?_; try clear hK14 K14
  refine wp_ret ?_
  try simp only [Exit.then, Exit.inBlock]
  obtain rfl := Option.some.inj H
  refine rt1 ha rfl rfl ?_
  exact ⟨ao24, cap24, rfl, f24, e_i24, hC, hM⟩
def vineryref01_Big.l0 (a0 : List Int) : Nat → Int → Int → Option (Int)
  | 0, _, _ => none
  | kk + 1, x7, x8 => (if (decide (x8 < (a0.length : Int))) = true then (if 0 ≤ x8 ∧ x8 < (a0.length : Int) then vineryref01_Big.l0 a0 kk (IntKind.i64.wrap ((IntKind.i64.wrap (x7 * (256 : Int))) + (IntKind.i64.wrap (rd a0 x8)))) (IntKind.i64.wrap (x8 + (1 : Int))) else none) else some (x7 : Int))
def vineryref01_Big.f (k : Nat) (a0 : List Int) : Option (Int) := (vineryref01_Big.l0 a0 k (0 : Int) (0 : Int)).bind fun s6 => some ((s6 : Int))
set_option maxRecDepth 100000 in
theorem vineryref01_Big.walk (w : World) (M : List Nat) (hM : MS M w) (a0 : List Int) (ao1 : Option Addr) (cap1 : Nat) (f1 : RSl (rInt .u8) 5 w M ao1 cap1 a0) (k : Nat) (r : Int) (H : vineryref01_Big.f k a0 = some r) :
    To Tryz.prog 77 [.slice ao1 a0.length cap1] w fun v w' => v = .int .i64 r ∧ Chg [] w w' ∧ MS (M) w' := by
 unfold vineryref01_Big.f at H
 refine ent Tryz.func77 rfl [(0, .slice ao1 a0.length cap1)] rfl (by rfl) fun a ha => ?_
 have hC : Chg [] w w := Chg.refl _ _
 refine wp_seq_k fun K2 hK2 => ?_
 refine wp_region_lit ?_
 refine seg ha 1 [(0, .slice ao1 a0.length cap1)] (by kernel_rfl) fun a ha => ?_
 refine hK2 _ _ ?_; try clear hK2 K2
 refine wp_seq_k fun K3 hK3 => ?_
 refine wp_region_lit ?_
 refine seg ha 1 [(0, .slice ao1 a0.length cap1), (3, .int .i64 (0 : Int))] (by kernel_rfl) fun a ha => ?_
 refine hK3 _ _ ?_; try clear hK3 K3
 refine wp_seq_k fun K4 hK4 => ?_
 refine wp_seq_k fun K5 hK5 => ?_
 refine wp_region_lit ?_
 refine seg ha 1 [(0, .slice ao1 a0.length cap1), (3, .int .i64 (0 : Int)), (4, .int .i64 (0 : Int))] (by kernel_rfl) fun a ha => ?_
 refine hK5 _ _ ?_; try clear hK5 K5
 refine wp_block ?_
 obtain ⟨s6, H6, H⟩ := bind_some H
 have J6 : ∀ (a : Act) (wx6 : World), Has a Tryz.f77.ntmps [(3, .int .i64 s6)] → (Chg [] w wx6) → (MS (M) wx6) → K4 a wx6 := by
  intro a wx6 ha hC hM
  refine hK4 _ _ ?_; try clear hK4 K4
  refine wp_seq_k fun K9 hK9 => ?_
  refine wp_region_lit ?_
  refine seg ha 2 [(2, .int .i64 s6)] (by kernel_rfl) fun a ha => ?_
  refine hK9 _ _ ?_; try clear hK9 K9
  refine wp_ret ?_
  try simp only [Exit.then, Exit.inBlock]
  obtain rfl := Option.some.inj H
  refine rt1 ha rfl rfl ?_
  exact ⟨rfl, hC, hM⟩
 have Hc6 := H
 have H := H6
 refine wp_loop_ghost (fun kk a w6 => ∃ (x7 : Int) (x8 : Int), vineryref01_Big.l0 a0 kk x7 x8 = some s6 ∧ Has a Tryz.f77.ntmps [(0, .slice ao1 a0.length cap1), (3, .int .i64 x7), (4, .int .i64 x8)] ∧ (RSl (rInt .u8) 5 w6 (M) ao1 cap1 a0) ∧ (Chg [] w w6) ∧ (MS (M) w6)) k ?_ ?_
 ·skip
  exact ⟨(0 : Int), (0 : Int), H, (ha.sel (by kernel_rfl)), f1, hC, hM⟩
 ·rintro kk a w6 ⟨x7, x8, H, ha, f1, hC, hM⟩
  obtain _ | kk := kk
  ·exact nomatch (show none = some _ from H)
  rw [vineryref01_Big.l0] at H
  refine wp_seq_k fun K10 hK10 => ?_
  refine wp_seq_k fun K11 hK11 => ?_
  refine wp_region_lit ?_
  refine seg ha 4 [(0, .slice ao1 a0.length cap1), (3, .int .i64 x7), (4, .int .i64 x8), (8, .bool (decide (x8 < (a0.length : Int))))] (by kernel_rfl) fun a ha => ?_
  refine hK11 _ _ ?_; try clear hK11 K11
  refine cnd ha rfl (fun hc12 => ?_) (fun hc12 => ?_)
  ·have H := ite_t hc12 H
   refine wp_skip ?_
   refine hK10 _ _ ?_; try clear hK10 K10
   refine wp_seq_k fun K13 hK13 => ?_
   refine wp_block ?_
   refine wp_region_lit ?_
   refine seg ha 4 [(0, .slice ao1 a0.length cap1), (4, .int .i64 x8), (12, .int .i64 (IntKind.i64.wrap (x7 * (256 : Int)))), (13, .slice ao1 a0.length cap1), (14, .int .i64 x8)] (by kernel_rfl) fun a ha => ?_
   obtain ⟨⟨hx14, hx14'⟩, H⟩ := ite_some H
   refine ix (r := (rInt .u8)) ha (by kernel_rfl) (by kernel_rfl) rfl rfl rfl rfl rfl f1 hx14 hx14' fun a ge15 oe16 cs17 hn20 hR18 hE19 ha => ?_
   rw [rd_get] at hR18
   obtain rfl := hR18
   have hE19 : ∀ j v, ([.int .u8 (rd a0 x8)] : List Value)[j]? = some v → w6.cell? ⟨ge15, oe16 + j, none⟩ = some v := hE19
   refine ld ha rfl (by kernel_rfl) rfl rfl rfl (hE19 0 (.int .u8 (rd a0 x8)) (by kernel_rfl)) fun a ha => ?_
   refine seg ha 3 [(0, .slice ao1 a0.length cap1), (3, .int .i64 (IntKind.i64.wrap ((IntKind.i64.wrap (x7 * (256 : Int))) + (IntKind.i64.wrap (rd a0 x8))))), (4, .int .i64 x8)] (by kernel_rfl) fun a ha => ?_
   refine hK13 _ _ ?_; try clear hK13 K13
   refine wp_region_lit ?_
   refine seg ha 3 [(0, .slice ao1 a0.length cap1), (3, .int .i64 (IntKind.i64.wrap ((IntKind.i64.wrap (x7 * (256 : Int))) + (IntKind.i64.wrap (rd a0 x8))))), (4, .int .i64 (IntKind.i64.wrap (x8 + (1 : Int))))] (by kernel_rfl) fun a ha => ?_
   exact ⟨kk, Nat.lt_succ_self _, ⟨IntKind.i64.wrap ((IntKind.i64.wrap (x7 * (256 : Int))) + (IntKind.i64.wrap (rd a0 x8))), IntKind.i64.wrap (x8 + (1 : Int)), H, (ha.sel (by kernel_rfl)), f1, hC, hM⟩⟩
  ·have H := ite_f hc12 H
   refine wp_exit ?_
   simp only [Exit.then, Exit.inBlock, ↓reduceIte, Nat.reduceEqDiff]
   obtain rfl := Option.some.inj H
   exact J6 _ _ (ha.sel (by kernel_rfl)) hC hM
def vineryref03_Numbers.f (k : Nat) (a0 : List UInt8) (a1 : List UInt8) (a2 : Bool) : Option (Int × Int × Bool) := (vineryref02_Digits.f k a1 (10 : Int) (10 : Int)).bind fun t3 => (if (!a2) = true then (vineryref02_Digits.f k a0 (10 : Int) (10 : Int)).bind fun t8 => some ((t8 : Int), (t3 : Int), (if (decide (t8 ≥ (0 : Int))) = true then (decide (t3 ≥ (0 : Int))) else false : Bool)) else (vineryref02_Parse.f k a0).bind fun t11 => ((vineryref02_Bytes.f k t11.1).bind fun t20 => (vineryref01_Big.f k t20).bind fun t22 => (if (t11.2 == (0 : Int)) = true then (if (t11.1.Size == (4 : Int)) = true then some ((decide (t3 ≥ (0 : Int)) : Bool), (t22 : Int)) else some ((false : Bool), (t22 : Int))) else some ((false : Bool), (t22 : Int)))).bind fun s19 => some ((s19.2 : Int), (t3 : Int), (s19.1 : Bool)))
set_option maxRecDepth 100000 in
theorem vineryref03_Numbers.walk (w : World) (M : List Nat) (hM : MS M w) (a0 : List UInt8) (a1 : List UInt8) (a2 : Bool) (k : Nat) (r : Int × Int × Bool) (H : vineryref03_Numbers.f k a0 a1 a2 = some r) :
    To Tryz.prog 37 [.string (bstr a0), .string (bstr a1), .bool a2] w fun v w' => v = .tuple #[.int .i64 r.1, .int .i64 r.2.1, .bool r.2.2] ∧ Chg [] w w' ∧ MS (M) w' := by
 unfold vineryref03_Numbers.f at H
 refine ent Tryz.func37 rfl [(0, .string (bstr a0)), (1, .string (bstr a1)), (2, .bool a2)] rfl (by rfl) fun a ha => ?_
 have hC : Chg [] w w := Chg.refl _ _
 refine wp_seq_k fun K1 hK1 => ?_
 refine wp_region_lit ?_
 refine seg ha 3 [(0, .string (bstr a0)), (1, .string (bstr a1)), (2, .bool a2)] (by kernel_rfl) fun a ha => ?_
 refine hK1 _ _ ?_; try clear hK1 K1
 refine wp_seq_k fun K2 hK2 => ?_
 refine wp_region_lit ?_
 refine seg ha 1 [(0, .string (bstr a0)), (2, .bool a2), (13, .string (bstr a1))] (by kernel_rfl) fun a ha => ?_
 obtain ⟨t3, H3, H⟩ := bind_some H
 refine cl ha (by rfl) (by kernel_rfl) (by rfl) (by rfl) (by rfl) (vineryref02_Digits.walk w _ hM a1 (10 : Int) (10 : Int) k _ H3) ?_
 rintro _ w3 ⟨rfl, hc3, hMn⟩ a ha
 have hM : MS (M) w3 := (hM.chg hc3)
 have hC := hC.trans hc3 (Ok.nil _ _)
 refine seg ha 1 [(0, .string (bstr a0)), (2, .bool a2), (9, .int .i64 t3)] (by kernel_rfl) fun a ha => ?_
 refine hK2 _ _ ?_; try clear hK2 K2
 refine wp_seq_k fun K4 hK4 => ?_
 refine wp_seq_k fun K5 hK5 => ?_
 refine wp_region_lit ?_
 refine seg ha 2 [(0, .string (bstr a0)), (9, .int .i64 t3), (16, .bool (!a2))] (by kernel_rfl) fun a ha => ?_
 refine hK5 _ _ ?_; try clear hK5 K5
 refine cnd ha rfl (fun hc6 => ?_) (fun hc6 => ?_)
 ·have H := ite_t hc6 H
  refine wp_seq_k fun K7 hK7 => ?_
  refine wp_region_lit ?_
  refine seg ha 1 [(9, .int .i64 t3), (17, .string (bstr a0))] (by kernel_rfl) fun a ha => ?_
  obtain ⟨t8, H8, H⟩ := bind_some H
  refine cl ha (by rfl) (by kernel_rfl) (by rfl) (by rfl) (by rfl) (vineryref02_Digits.walk w3 _ hM a0 (10 : Int) (10 : Int) k _ H8) ?_
  rintro _ w8 ⟨rfl, hc8, hMn⟩ a ha
  have hM : MS (M) w8 := (hM.chg hc8)
  have hC := hC.trans hc8 (Ok.nil _ _)
  refine seg ha 1 [(9, .int .i64 t3), (10, .int .i64 t8)] (by kernel_rfl) fun a ha => ?_
  refine hK7 _ _ ?_; try clear hK7 K7
  refine wp_seq_k fun K9 hK9 => ?_
  refine wp_region_lit ?_
  refine seg ha 11 [(6, .int .i64 t8), (7, .int .i64 t3), (8, .bool (if (decide (t8 ≥ (0 : Int))) = true then (decide (t3 ≥ (0 : Int))) else false))] (by kernel_rfl) fun a ha => ?_
  refine hK9 _ _ ?_; try clear hK9 K9
  refine wp_ret ?_
  try simp only [Exit.then, Exit.inBlock]
  obtain rfl := Option.some.inj H
  refine rt3 ha rfl rfl rfl rfl ?_
  exact ⟨rfl, hC, hM⟩
 ·have H := ite_f hc6 H
  refine wp_skip ?_
  refine hK4 _ _ ?_; try clear hK4 K4
  refine wp_seq_k fun K10 hK10 => ?_
  refine wp_region_lit ?_
  refine seg ha 1 [(9, .int .i64 t3), (28, .string (bstr a0))] (by kernel_rfl) fun a ha => ?_
  obtain ⟨t11, H11, H⟩ := bind_some H
  refine cl ha (by rfl) (by kernel_rfl) (by rfl) (by rfl) (by rfl) (vineryref02_Parse.walk w3 _ hM a0 k _ H11) ?_
  rintro _ w11 ⟨rfl, hc11, hMn⟩ a ha
  have hM : MS (M) w11 := (hM.chg hc11)
  have hC := hC.trans hc11 (Ok.nil _ _)
  refine seg ha 3 [(9, .int .i64 t3), (30, .agg (cS_api_Addr t11.1).toArray), (31, .int .i64 t11.2)] (by kernel_rfl) fun a ha => ?_
  refine al (cs := (cS_api_Addr (⟨(0 : Int), (List.replicate 16 (0 : Int))⟩ : S_api_Addr))) (z := .agg (cS_api_Addr (⟨(0 : Int), (List.replicate 16 (0 : Int))⟩ : S_api_Addr)).toArray) ha (fun w => by kernel_rfl) rfl rfl rfl rfl fun a w12 g13 hN14 ha => ?_
  have p_i15_M : ∀ x ∈ [g13], x ∉ M := fun x hx hy => absurd (hM x (hy)) (Nat.not_lt.2 ((hN14.ge1) x hx))
  have e_i15 : ∀ x ∈ [g13], w.heap.size ≤ x := fun x hx => Nat.le_trans hC.size ((hN14.ge1) x hx)
  have hM : MS ([g13] ++ (M)) w12 := (MS.app hN14.ms (hM.chg hN14.chg))
  have hC := hC.trans hN14.chg (Ok.nil _ _)
  have hBg13 : Box w12 g13 (cS_api_Addr (⟨(0 : Int), (List.replicate 16 (0 : Int))⟩ : S_api_Addr)) := hN14.box
  refine stA (l := (cS_api_Addr t11.1)) ha rfl rfl rfl (by kernel_rfl) rfl rfl hBg13 rfl fun a w16 ha hb2 hc17 _ => ?_
  have hM : MS ([g13] ++ (M)) w16 := (hM.chg hc17)
  have hC := hC.trans hc17 (fun x h => .inr (e_i15 x h))
  have hBg13 : Box w16 g13 (cS_api_Addr t11.1) := hb2
  refine seg ha 1 [(9, .int .i64 t3), (11, .pointer (some ⟨g13, 0, none⟩)), (12, .int .i64 t11.2)] (by kernel_rfl) fun a ha => ?_
  refine hK10 _ _ ?_; try clear hK10 K10
  refine wp_seq_k fun K18 hK18 => ?_
  refine wp_region_lit ?_
  obtain ⟨s19, H19, H⟩ := bind_some H
  have J19 : ∀ (a : Act) (w19 : World), Has a Tryz.f37.ntmps [(6, .int .i64 s19.2), (7, .int .i64 t3), (8, .bool s19.1)] → (Box w19 g13 (cS_api_Addr t11.1)) → (Chg [] w w19) → (MS ([g13] ++ (M)) w19) → K18 a w19 := by
   intro a w19 ha hBg13 hC hM
   refine hK18 _ _ ?_; try clear hK18 K18
   refine wp_ret ?_
   try simp only [Exit.then, Exit.inBlock]
   have hBg13 := hBg13.chg (Chg.refl [] _) (fun h => nomatch h)
   have hM : MS (M) w19 := (fun x h => hM.chg (Chg.refl [] _) x (mr (h)))
   have hC := hC.trans (Chg.refl [] _) (Ok.nil _ _)
   obtain rfl := Option.some.inj H
   refine rt3 ha rfl rfl rfl rfl ?_
   exact ⟨rfl, hC, hM⟩
  have H := H19
  refine ldA (cs := (cS_api_Addr t11.1)) ha rfl (by kernel_rfl) rfl rfl rfl (cells_sub (Box.cells hBg13) (all := (cS_api_Addr t11.1)) [] [] (by kernel_rfl)) fun a ha => ?_
  obtain ⟨t20, H20, H⟩ := bind_some H
  refine cl ha (by rfl) (by kernel_rfl) (by rfl) (by rfl) (by rfl) (vineryref02_Bytes.walk w16 _ hM t11.1 k _ H20) ?_
  rintro _ w20 ⟨ao21, cap21, rfl, f21, ne_i21, hc20, hMn⟩ a ha
  have hBg13 := hBg13.chg hc20 (fun h => nomatch h)
  have p_i21_i15 : ∀ x ∈ blkL ao21, x ∉ ([g13]) := fun x hx hy => absurd (hM x (ml hy)) (Nat.not_lt.2 (ne_i21 x hx))
  have p_i21_M : ∀ x ∈ blkL ao21, x ∉ M := fun x hx hy => absurd (hM x (mr (hy))) (Nat.not_lt.2 (ne_i21 x hx))
  have e_i21 : ∀ x ∈ blkL ao21, w.heap.size ≤ x := fun x hx => Nat.le_trans hC.size (ne_i21 x hx)
  have hM : MS (blkL ao21 ++ ([g13] ++ (M))) w20 := (MS.app (fun x h => hMn x (ml h)) (hM.chg hc20))
  have hC := hC.trans hc20 (Ok.nil _ _)
  have hML : MS ([g13] ++ (M)) w20 := MS.rest hM (fun _ h => (List.mem_append.1 h).elim (fun h => mr (ml h)) (fun h => mr (mr (h))))
  have oL : Ok ([g13] ++ (M)) (blkL ao21 ++ ([g13] ++ (M))) w20.heap.size := (fun _ h => .inl (mr (h)))
  obtain ⟨t22, H22, H⟩ := bind_some H
  refine cl ha (by rfl) (by kernel_rfl) (by rfl) (by rfl) (by rfl) (vineryref01_Big.walk w20 _ hML t20 ao21 cap21 (Own.toRSl (M' := [g13] ++ (M)) f21 oL (fun x hx hm => (List.mem_append.1 hm).elim (fun h => p_i21_i15 x hx h) (fun h => p_i21_M x hx h))) k _ H22) ?_
  rintro _ w22 ⟨rfl, hc22, hMn⟩ a ha
  have o1 : Ok [] (blkL ao21 ++ ([g13] ++ (M))) w20.heap.size := Ok.nil _ _
  have o2 : Ok (blkL ao21 ++ ([g13] ++ (M))) (blkL ao21 ++ ([g13] ++ (M))) w20.heap.size := (Ok.refl _ _)
  have f21 := f21.chg hc22 o1 o2 (fun _ _ h => nomatch h) (fun _ h => ml h)
  have hBg13 := hBg13.chg hc22 (fun h => nomatch h)
  have hM : MS (blkL ao21 ++ ([g13] ++ (M))) w22 := (hM.chg hc22)
  have hC := hC.trans hc22 (Ok.nil _ _)
  refine seg ha 4 [(38, .bool (t11.2 == (0 : Int))), (9, .int .i64 t3), (11, .pointer (some ⟨g13, 0, none⟩)), (34, .int .i64 t22), (35, .int .i64 t3)] (by kernel_rfl) fun a ha => ?_
  rcases Bool.eq_false_or_eq_true (t11.2 == (0 : Int)) with hb23 | hb23
  ·have ha := ha.lit hb23
   have H := ite_t hb23 H
   refine sgh ha 1 [2] [(9, .int .i64 t3), (34, .int .i64 t22), (35, .int .i64 t3), (38, .bool true), (39, .pointer (some ⟨g13, 0, none⟩))] (by kernel_rfl) fun a ha => ?_
   refine ld (v := .int .i64 t11.1.Size) ha rfl (by kernel_rfl) rfl rfl rfl (hBg13.cell' (o := 0) rfl (by kernel_rfl)) fun a ha => ?_
   refine sgh ha 3 [2, 3, 0] [(43, .bool (t11.1.Size == (4 : Int))), (9, .int .i64 t3), (34, .int .i64 t22), (35, .int .i64 t3)] (by kernel_rfl) fun a ha => ?_
   rcases Bool.eq_false_or_eq_true (t11.1.Size == (4 : Int)) with hb24 | hb24
   ·have ha := ha.lit hb24
    have H := ite_t hb24 H
    refine sgh ha 6 [2, 2, 3, 0, 0, 0] [(6, .int .i64 t22), (7, .int .i64 t3), (8, .bool (decide (t3 ≥ (0 : Int))))] (by kernel_rfl) fun a ha => ?_
    obtain rfl := Option.some.inj H
    have hBg13 := hBg13.chg (Chg.refl [] _) (fun h => nomatch h)
    have hM : MS ([g13] ++ (M)) w22 := (fun x h => hM.chg (Chg.refl [] _) x (mr (h)))
    have hC := hC.trans (Chg.refl [] _) (Ok.nil _ _)
    exact J19 _ _ (ha.sel (by kernel_rfl)) hBg13 hC hM
   ·have ha := ha.lit hb24
    have H := ite_f hb24 H
    refine sgh ha 6 [1, 1, 4, 0, 0, 0] [(6, .int .i64 t22), (7, .int .i64 t3), (8, .bool false)] (by kernel_rfl) fun a ha => ?_
    obtain rfl := Option.some.inj H
    have hBg13 := hBg13.chg (Chg.refl [] _) (fun h => nomatch h)
    have hM : MS ([g13] ++ (M)) w22 := (fun x h => hM.chg (Chg.refl [] _) x (mr (h)))
    have hC := hC.trans (Chg.refl [] _) (Ok.nil _ _)
    exact J19 _ _ (ha.sel (by kernel_rfl)) hBg13 hC hM
  ·have ha := ha.lit hb23
   have H := ite_f hb23 H
   refine sgh ha 11 [1, 1, 1, 4, 0, 1, 1, 4, 0, 0, 0] [(6, .int .i64 t22), (7, .int .i64 t3), (8, .bool false)] (by kernel_rfl) fun a ha => ?_
   obtain rfl := Option.some.inj H
   have hBg13 := hBg13.chg (Chg.refl [] _) (fun h => nomatch h)
   have hM : MS ([g13] ++ (M)) w22 := (fun x h => hM.chg (Chg.refl [] _) x (mr (h)))
   have hC := hC.trans (Chg.refl [] _) (Ok.nil _ _)
   exact J19 _ _ (ha.sel (by kernel_rfl)) hBg13 hC hM
def vineryref03_widths.f (a0 : Int) : Option (Int × Int) := (if (a0 == (0 : Int)) = true then some (((2 : Int) : Int), ((4 : Int) : Int)) else (if (if (a0 == (1 : Int)) = true then true else (a0 == (2 : Int))) = true then some (((4 : Int) : Int), ((2 : Int) : Int)) else some (((0 : Int) : Int), ((0 : Int) : Int))))
set_option maxRecDepth 100000 in
theorem vineryref03_widths.walk (w : World) (M : List Nat) (hM : MS M w) (a0 : Int) (r : Int × Int) (H : vineryref03_widths.f a0 = some r) :
    To Tryz.prog 79 [.int .i64 a0] w fun v w' => v = .tuple #[.int .i64 r.1, .int .i64 r.2] ∧ Chg [] w w' ∧ MS (M) w' := by
 unfold vineryref03_widths.f at H
 refine ent Tryz.func79 rfl [(0, .int .i64 a0)] rfl (by rfl) fun a ha => ?_
 have hC : Chg [] w w := Chg.refl _ _
 refine wp_seq_k fun K1 hK1 => ?_
 refine wp_region_lit ?_
 refine seg ha 2 [(0, .int .i64 a0)] (by kernel_rfl) fun a ha => ?_
 refine hK1 _ _ ?_; try clear hK1 K1
 refine wp_seq_k fun K2 hK2 => ?_
 refine wp_seq_k fun K3 hK3 => ?_
 refine wp_region_lit ?_
 refine seg ha 2 [(0, .int .i64 a0), (5, .bool (a0 == (0 : Int)))] (by kernel_rfl) fun a ha => ?_
 refine hK3 _ _ ?_; try clear hK3 K3
 refine cnd ha rfl (fun hc4 => ?_) (fun hc4 => ?_)
 ·have H := ite_t hc4 H
  refine wp_seq_k fun K5 hK5 => ?_
  refine wp_region_lit ?_
  refine seg ha 2 [(2, .int .i64 (2 : Int)), (3, .int .i64 (4 : Int))] (by kernel_rfl) fun a ha => ?_
  refine hK5 _ _ ?_; try clear hK5 K5
  refine wp_ret ?_
  try simp only [Exit.then, Exit.inBlock]
  obtain rfl := Option.some.inj H
  refine rt2 ha rfl rfl rfl ?_
  exact ⟨rfl, hC, hM⟩
 ·have H := ite_f hc4 H
  refine wp_skip ?_
  refine hK2 _ _ ?_; try clear hK2 K2
  refine wp_seq_k fun K6 hK6 => ?_
  refine wp_seq_k fun K7 hK7 => ?_
  refine wp_region_lit ?_
  refine seg ha 6 [(11, .bool (if (a0 == (1 : Int)) = true then true else (a0 == (2 : Int))))] (by kernel_rfl) fun a ha => ?_
  refine hK7 _ _ ?_; try clear hK7 K7
  refine cnd ha rfl (fun hc8 => ?_) (fun hc8 => ?_)
  ·have H := ite_t hc8 H
   refine wp_seq_k fun K9 hK9 => ?_
   refine wp_region_lit ?_
   refine seg ha 2 [(2, .int .i64 (4 : Int)), (3, .int .i64 (2 : Int))] (by kernel_rfl) fun a ha => ?_
   refine hK9 _ _ ?_; try clear hK9 K9
   refine wp_ret ?_
   try simp only [Exit.then, Exit.inBlock]
   obtain rfl := Option.some.inj H
   refine rt2 ha rfl rfl rfl ?_
   exact ⟨rfl, hC, hM⟩
  ·have H := ite_f hc8 H
   refine wp_skip ?_
   refine hK6 _ _ ?_; try clear hK6 K6
   refine wp_seq_k fun K10 hK10 => ?_
   refine wp_region_lit ?_
   refine seg ha 2 [(2, .int .i64 (0 : Int)), (3, .int .i64 (0 : Int))] (by kernel_rfl) fun a ha => ?_
   refine hK10 _ _ ?_; try clear hK10 K10
   refine wp_ret ?_
   try simp only [Exit.then, Exit.inBlock]
   obtain rfl := Option.some.inj H
   refine rt2 ha rfl rfl rfl ?_
   exact ⟨rfl, hC, hM⟩
def vineryref01_Bytes.l0 (a0 : Int) : Nat → (List Int) → Int → Option (List Int)
  | 0, _, _ => none
  | kk + 1, x7, x8 => (if (decide (x8 ≥ (0 : Int))) = true then (if 0 ≤ (IntKind.i64.wrap ((8 : Int) * x8)) then (if (x7.length + ([IntKind.u8.wrap (Int.fdiv a0 (2 ^ (min (Int.toNat (IntKind.i64.wrap ((8 : Int) * x8))) IntKind.i64.bits)))] : List Int).length) * 1 ≤ 140737488355328 then vineryref01_Bytes.l0 a0 kk (x7 ++ ([IntKind.u8.wrap (Int.fdiv a0 (2 ^ (min (Int.toNat (IntKind.i64.wrap ((8 : Int) * x8))) IntKind.i64.bits)))] : List Int)) (IntKind.i64.wrap (x8 - (1 : Int))) else none) else none) else some (x7 : List Int))
def vineryref01_Bytes.f (k : Nat) (a0 : Int) (a1 : Int) : Option (List Int) := (vineryref01_Bytes.l0 a0 k ([] : List Int) (IntKind.i64.wrap (a1 - (1 : Int)))).bind fun s5 => some ((s5 : List Int))
set_option maxRecDepth 100000 in
theorem vineryref01_Bytes.walk (w : World) (M : List Nat) (hM : MS M w) (a0 : Int) (a1 : Int) (k : Nat) (r : List Int) (H : vineryref01_Bytes.f k a0 a1 = some r) :
    To Tryz.prog 80 [.int .i64 a0, .int .i64 a1] w fun v w' => ∃ (ao25 : Option Addr) (cap25 : Nat), v = .slice ao25 r.length cap25 ∧ (Own (rInt .u8) 5 w' (blkL ao25 ++ (M)) ao25 cap25 r) ∧ (∀ x ∈ blkL ao25, w.heap.size ≤ x) ∧ Chg [] w w' ∧ MS (blkL ao25 ++ (M)) w' := by
 unfold vineryref01_Bytes.f at H
 refine ent Tryz.func80 rfl [(0, .int .i64 a0), (1, .int .i64 a1)] rfl (by rfl) fun a ha => ?_
 have hC : Chg [] w w := Chg.refl _ _
 refine wp_seq_k fun K1 hK1 => ?_
 refine wp_region_lit ?_
 refine seg ha 1 [(0, .int .i64 a0), (1, .int .i64 a1)] (by kernel_rfl) fun a ha => ?_
 refine hK1 _ _ ?_; try clear hK1 K1
 refine wp_seq_k fun K2 hK2 => ?_
 refine wp_region_lit ?_
 refine seg ha 1 [(0, .int .i64 a0), (1, .int .i64 a1), (5, .slice none 0 0)] (by kernel_rfl) fun a ha => ?_
 refine hK2 _ _ ?_; try clear hK2 K2
 refine wp_seq_k fun K3 hK3 => ?_
 refine wp_seq_k fun K4 hK4 => ?_
 refine wp_region_lit ?_
 refine seg ha 3 [(0, .int .i64 a0), (5, .slice none 0 0), (6, .int .i64 (IntKind.i64.wrap (a1 - (1 : Int))))] (by kernel_rfl) fun a ha => ?_
 refine hK4 _ _ ?_; try clear hK4 K4
 refine wp_block ?_
 obtain ⟨s5, H5, H⟩ := bind_some H
 have J5 : ∀ (a : Act) (wx5 : World) (ao9 : Option Addr) (cap9 : Nat), Has a Tryz.f80.ntmps [(5, .slice ao9 s5.length cap9)] → (Own (rInt .u8) 5 wx5 (blkL ao9 ++ (M)) ao9 cap9 s5) → (∀ x ∈ blkL ao9, w.heap.size ≤ x) → (∀ x ∈ blkL ao9, x ∉ M) → (Chg [] w wx5) → (MS (blkL ao9 ++ (M)) wx5) → K3 a wx5 := by
  intro a wx5 ao9 cap9 ha f9 e_i9 p_i9_M hC hM
  refine hK3 _ _ ?_; try clear hK3 K3
  refine wp_seq_k fun K10 hK10 => ?_
  refine wp_region_lit ?_
  refine seg ha 2 [(4, .slice ao9 s5.length cap9)] (by kernel_rfl) fun a ha => ?_
  refine hK10 _ _ ?_; try clear hK10 K10
  refine wp_ret ?_
  try simp only [Exit.then, Exit.inBlock]
  obtain rfl := Option.some.inj H
  refine rt1 ha rfl rfl ?_
  exact ⟨ao9, cap9, rfl, f9, e_i9, hC, hM⟩
 have Hc5 := H
 have H := H5
 refine wp_loop_ghost (fun kk a w5 => ∃ (x7 : List Int) (x8 : Int) (ao6 : Option Addr) (cap6 : Nat), vineryref01_Bytes.l0 a0 kk x7 x8 = some s5 ∧ Has a Tryz.f80.ntmps [(0, .int .i64 a0), (5, .slice ao6 x7.length cap6), (6, .int .i64 x8)] ∧ (Own (rInt .u8) 5 w5 (blkL ao6 ++ (M)) ao6 cap6 x7) ∧ (∀ x ∈ blkL ao6, w.heap.size ≤ x) ∧ (∀ x ∈ blkL ao6, x ∉ M) ∧ (Chg [] w w5) ∧ (MS (blkL ao6 ++ (M)) w5)) k ?_ ?_
 ·skip
  have p_z11_M : ∀ x ∈ blkL none, x ∉ M := fun x hx hy => absurd (hM x (hy)) (Nat.not_lt.2 ((fun _ h => nomatch h) x hx))
  have e_z11 : ∀ x ∈ blkL none, w.heap.size ≤ x := fun x hx => Nat.le_trans hC.size ((fun _ h => nomatch h) x hx)
  have hM : MS (blkL none ++ (M)) w := (MS.app (fun _ h => nomatch h) (hM.chg (Chg.refl [] _)))
  have hC := hC.trans (Chg.refl [] _) (Ok.nil _ _)
  exact ⟨([] : List Int), IntKind.i64.wrap (a1 - (1 : Int)), none, 0, H, (ha.sel (by kernel_rfl)), Own.nil, e_z11, p_z11_M, hC, hM⟩
 ·rintro kk a w5 ⟨x7, x8, ao6, cap6, H, ha, f6, e_i6, p_i6_M, hC, hM⟩
  obtain _ | kk := kk
  ·exact nomatch (show none = some _ from H)
  rw [vineryref01_Bytes.l0] at H
  refine wp_seq_k fun K12 hK12 => ?_
  refine wp_seq_k fun K13 hK13 => ?_
  refine wp_region_lit ?_
  refine seg ha 2 [(0, .int .i64 a0), (5, .slice ao6 x7.length cap6), (6, .int .i64 x8), (10, .bool (decide (x8 ≥ (0 : Int))))] (by kernel_rfl) fun a ha => ?_
  refine hK13 _ _ ?_; try clear hK13 K13
  refine cnd ha rfl (fun hc14 => ?_) (fun hc14 => ?_)
  ·have H := ite_t hc14 H
   refine wp_skip ?_
   refine hK12 _ _ ?_; try clear hK12 K12
   refine wp_seq_k fun K15 hK15 => ?_
   refine wp_block ?_
   refine wp_region_lit ?_
   refine seg ha 4 [(0, .int .i64 a0), (6, .int .i64 x8), (13, .slice ao6 x7.length cap6), (14, .int .i64 a0), (16, .int .i64 (IntKind.i64.wrap ((8 : Int) * x8)))] (by kernel_rfl) fun a ha => ?_
   obtain ⟨hx16, H⟩ := ite_some H
   refine hop (v := .int .i64 (Int.fdiv a0 (2 ^ (min (Int.toNat (IntKind.i64.wrap ((8 : Int) * x8))) IntKind.i64.bits)))) (w' := w5) ha rfl rfl rfl (shr_run ha (by rfl) (by rfl) hx16 _) fun a ha => ?_
   refine seg ha 1 [(0, .int .i64 a0), (6, .int .i64 x8), (13, .slice ao6 x7.length cap6), (18, .int .u8 (IntKind.u8.wrap (Int.fdiv a0 (2 ^ (min (Int.toNat (IntKind.i64.wrap ((8 : Int) * x8))) IntKind.i64.bits)))))] (by kernel_rfl) fun a ha => ?_
   refine bsl (vals := ([.int .u8 (IntKind.u8.wrap (Int.fdiv a0 (2 ^ (min (Int.toNat (IntKind.i64.wrap ((8 : Int) * x8))) IntKind.i64.bits))))] : List Value)) (T := 5) ha rfl (([.int .u8 (IntKind.u8.wrap (Int.fdiv a0 (2 ^ (min (Int.toNat (IntKind.i64.wrap ((8 : Int) * x8))) IntKind.i64.bits))))] : List Value) ++ ([] : List Value)) (fun w => by kernel_rfl) rfl rfl rfl fun a w17 g18 hN19 ha => ?_
   have o1 : Ok [] (blkL ao6 ++ (M)) w5.heap.size := Ok.nil _ _
   have o2 : Ok ([g18] ++ (blkL ao6 ++ (M))) (blkL ao6 ++ (M)) w5.heap.size := (Ok.app (hN19.ok _) (Ok.refl _ _))
   have f6 := f6.chg hN19.chg o1 o2 (fun _ _ h => nomatch h) (fun _ h => mr (ml h))
   have p_i20_i6 : ∀ x ∈ [g18], x ∉ (blkL ao6) := fun x hx hy => absurd (hM x (ml hy)) (Nat.not_lt.2 ((hN19.ge1) x hx))
   have p_i20_M : ∀ x ∈ [g18], x ∉ M := fun x hx hy => absurd (hM x (mr (hy))) (Nat.not_lt.2 ((hN19.ge1) x hx))
   have e_i20 : ∀ x ∈ [g18], w.heap.size ≤ x := fun x hx => Nat.le_trans hC.size ((hN19.ge1) x hx)
   have hM : MS ([g18] ++ (blkL ao6 ++ (M))) w17 := (MS.app hN19.ms (hM.chg hN19.chg))
   have hC := hC.trans hN19.chg (Ok.nil _ _)
   have f21 : Own (rInt .u8) 5 w17 ([g18] ++ (blkL ao6 ++ (M))) (some ⟨g18, 0, none⟩) 1 ([IntKind.u8.wrap (Int.fdiv a0 (2 ^ (min (Int.toNat (IntKind.i64.wrap ((8 : Int) * x8))) IntKind.i64.bits)))] : List Int) := hN19.own ⟨([.int .u8 (IntKind.u8.wrap (Int.fdiv a0 (2 ^ (min (Int.toNat (IntKind.i64.wrap ((8 : Int) * x8))) IntKind.i64.bits))))] : List Value), _, rfl, rfl, rfl⟩ (Nat.le_of_ble_eq_true rfl)
   obtain ⟨hx22, H⟩ := ite_some H
   refine app (r := (rInt .u8)) (xs := x7) (ys := ([IntKind.u8.wrap (Int.fdiv a0 (2 ^ (min (Int.toNat (IntKind.i64.wrap ((8 : Int) * x8))) IntKind.i64.bits)))] : List Int)) ha (ElemT.mk' (bytes := 1) (by kernel_rfl)) rfl rfl rfl rfl rfl f6 f21.src hx22 (by decide) fun a w23 ao24 cap24 hO24 hc24 hk24 hl24 ha => ?_
   have o1 : Ok (blkL ao6) ([g18] ++ (blkL ao6 ++ (M))) w17.heap.size := (fun _ h => .inl (mr (ml h)))
   have o2 : Ok (blkL ao24 ++ ([g18] ++ (M))) ([g18] ++ (blkL ao6 ++ (M))) w17.heap.size := (Ok.app (Ok.to hk24 (fun _ h => mr (ml h))) (Ok.app (fun _ h => .inl (ml h)) (fun _ h => .inl (mr (mr (h))))))
   have f21 := f21.chg hc24 o1 o2 p_i20_i6 (fun _ h => mr (ml h))
   have p_i24_i20 : ∀ x ∈ blkL ao24, x ∉ ([g18]) := fun x hx hy => (hk24 x hx).elim (fun h => (fun x hx hy => p_i20_i6 x hy hx) x h hy) (fun h => absurd (hM x (ml hy)) (Nat.not_lt.2 h))
   have p_i24_M : ∀ x ∈ blkL ao24, x ∉ M := fun x hx hy => (hk24 x hx).elim (fun h => p_i6_M x h hy) (fun h => absurd (hM x (mr (mr (hy)))) (Nat.not_lt.2 h))
   have e_i24 : ∀ x ∈ blkL ao24, w.heap.size ≤ x := fun x hx => (hk24 x hx).elim (e_i6 x) (Nat.le_trans hC.size)
   have hM : MS (blkL ao24 ++ ([g18] ++ (M))) w23 := (MS.app hl24 (MS.app (fun x h => hM.chg hc24 x (ml h)) (fun x h => hM.chg hc24 x (mr (mr (h))))))
   have hC := hC.trans hc24 (fun x h => .inr (e_i6 x h))
   have f24 := hO24.chg (M' := blkL ao24 ++ ([g18] ++ (M))) (Chg.refl [] _) (Ok.nil _ _) (Ok.app (fun _ h => .inl (ml h)) (Ok.to (Ok.app (fun _ h => .inl (ml h)) (fun _ h => .inl (mr (mr (h))))) (fun _ h => mr h))) (fun _ _ h => nomatch h) (fun _ h => ml h)
   refine seg ha 1 [(0, .int .i64 a0), (5, .slice ao24 (x7 ++ ([IntKind.u8.wrap (Int.fdiv a0 (2 ^ (min (Int.toNat (IntKind.i64.wrap ((8 : Int) * x8))) IntKind.i64.bits)))] : List Int)).length cap24), (6, .int .i64 x8)] (by kernel_rfl) fun a ha => ?_
   refine hK15 _ _ ?_; try clear hK15 K15
   refine wp_region_lit ?_
   refine seg ha 3 [(0, .int .i64 a0), (5, .slice ao24 (x7 ++ ([IntKind.u8.wrap (Int.fdiv a0 (2 ^ (min (Int.toNat (IntKind.i64.wrap ((8 : Int) * x8))) IntKind.i64.bits)))] : List Int)).length cap24), (6, .int .i64 (IntKind.i64.wrap (x8 - (1 : Int))))] (by kernel_rfl) fun a ha => ?_
   have o1 : Ok [] (blkL ao24 ++ ([g18] ++ (M))) w23.heap.size := Ok.nil _ _
   have o2 : Ok (blkL ao24 ++ (M)) (blkL ao24 ++ ([g18] ++ (M))) w23.heap.size := (Ok.app (fun _ h => .inl (ml h)) (fun _ h => .inl (mr (mr (h)))))
   have f24 := f24.chg (Chg.refl [] _) o1 o2 (fun _ _ h => nomatch h) (fun _ h => ml h)
   have hM : MS (blkL ao24 ++ (M)) w23 := (MS.app (fun x h => hM.chg (Chg.refl [] _) x (ml h)) (fun x h => hM.chg (Chg.refl [] _) x (mr (mr (h)))))
   have hC := hC.trans (Chg.refl [] _) (Ok.nil _ _)
   exact ⟨kk, Nat.lt_succ_self _, ⟨(x7 ++ ([IntKind.u8.wrap (Int.fdiv a0 (2 ^ (min (Int.toNat (IntKind.i64.wrap ((8 : Int) * x8))) IntKind.i64.bits)))] : List Int)), IntKind.i64.wrap (x8 - (1 : Int)), ao24, cap24, H, (ha.sel (by kernel_rfl)), f24, e_i24, p_i24_M, hC, hM⟩⟩
  ·have H := ite_f hc14 H
   refine wp_exit ?_
   simp only [Exit.then, Exit.inBlock, ↓reduceIte, Nat.reduceEqDiff]
   obtain rfl := Option.some.inj H
   exact J5 _ _ ao6 cap6 (ha.sel (by kernel_rfl)) f6 e_i6 p_i6_M hC hM
def vineryref03_Make.f (k : Nat) (a0 : Int) (a1 : Int) (a2 : Int) : Option (List Int × Int) := (vineryref03_widths.f a0).bind fun t7 => (if (t7.1 == (0 : Int)) = true then some ((([(0 : Int), (0 : Int), (0 : Int), (0 : Int), (0 : Int), (0 : Int), (0 : Int), (0 : Int)] : List Int) : List Int), ((1 : Int) : Int)) else ((if (decide (a1 < (0 : Int))) = true then some (true : Bool) else (if (decide (a2 < (0 : Int))) = true then some (true : Bool) else (if 0 ≤ (IntKind.i64.wrap ((8 : Int) * t7.1)) then (if (decide (a1 ≥ (IntKind.i64.wrap ((1 : Int) * 2 ^ (min (Int.toNat (IntKind.i64.wrap ((8 : Int) * t7.1))) IntKind.i64.bits))))) = true then some (true : Bool) else (if 0 ≤ (IntKind.i64.wrap ((8 : Int) * t7.2)) then some (decide (a2 ≥ (IntKind.i64.wrap ((1 : Int) * 2 ^ (min (Int.toNat (IntKind.i64.wrap ((8 : Int) * t7.2))) IntKind.i64.bits)))) : Bool) else none)) else none)))).bind fun s16 => (if s16 = true then some ((([(0 : Int), (0 : Int), (0 : Int), (0 : Int), (0 : Int), (0 : Int), (0 : Int), (0 : Int)] : List Int) : List Int), ((5 : Int) : Int)) else (vineryref01_Bytes.f k a0 (2 : Int)).bind fun t22 => (vineryref01_Bytes.f k a1 t7.1).bind fun t24 => (if (t22.length + t24.length) * 1 ≤ 140737488355328 then (vineryref01_Bytes.f k a2 t7.2).bind fun t30 => (if ((t22 ++ t24).length + t30.length) * 1 ≤ 140737488355328 then (vineryref03_Of.f k ((t22 ++ t24) ++ t30)).bind fun t35 => some ((t35 : List Int), ((0 : Int) : Int)) else none) else none)))
set_option maxRecDepth 100000 in
theorem vineryref03_Make.walk (w : World) (M : List Nat) (hM : MS M w) (a0 : Int) (a1 : Int) (a2 : Int) (k : Nat) (r : List Int × Int) (H : vineryref03_Make.f k a0 a1 a2 = some r) :
    To Tryz.prog 38 [.int .i64 a0, .int .i64 a1, .int .i64 a2] w fun v w' => v = .tuple #[.agg (cA .u8 8 r.1).toArray, .int .i64 r.2] ∧ Chg [] w w' ∧ MS (M) w' := by
 unfold vineryref03_Make.f at H
 refine ent Tryz.func38 rfl [(0, .int .i64 a0), (1, .int .i64 a1), (2, .int .i64 a2)] rfl (by rfl) fun a ha => ?_
 have hC : Chg [] w w := Chg.refl _ _
 refine wp_seq_k fun K1 hK1 => ?_
 refine wp_region_lit ?_
 refine al (cs := (cA .u8 8 (List.replicate 8 (0 : Int)))) (z := .agg (cA .u8 8 (List.replicate 8 (0 : Int))).toArray) ha (fun w => by kernel_rfl) rfl rfl rfl rfl fun a w2 g3 hN4 ha => ?_
 have p_i5_M : ∀ x ∈ [g3], x ∉ M := fun x hx hy => absurd (hM x (hy)) (Nat.not_lt.2 ((hN4.ge1) x hx))
 have e_i5 : ∀ x ∈ [g3], w.heap.size ≤ x := fun x hx => Nat.le_trans hC.size ((hN4.ge1) x hx)
 have hM : MS ([g3] ++ (M)) w2 := (MS.app hN4.ms (hM.chg hN4.chg))
 have hC := hC.trans hN4.chg (Ok.nil _ _)
 have hBg3 : Box w2 g3 (cA .u8 8 (List.replicate 8 (0 : Int))) := hN4.box
 refine seg ha 1 [(0, .int .i64 a0), (1, .int .i64 a1), (2, .int .i64 a2), (6, .pointer (some ⟨g3, 0, none⟩))] (by kernel_rfl) fun a ha => ?_
 refine hK1 _ _ ?_; try clear hK1 K1
 refine wp_seq_k fun K6 hK6 => ?_
 refine wp_region_lit ?_
 refine seg ha 1 [(0, .int .i64 a0), (1, .int .i64 a1), (2, .int .i64 a2), (6, .pointer (some ⟨g3, 0, none⟩)), (12, .int .i64 a0)] (by kernel_rfl) fun a ha => ?_
 obtain ⟨t7, H7, H⟩ := bind_some H
 refine cl ha (by rfl) (by kernel_rfl) (by rfl) (by rfl) (by rfl) (vineryref03_widths.walk w2 _ hM a0 _ H7) ?_
 rintro _ w7 ⟨rfl, hc7, hMn⟩ a ha
 have hBg3 := hBg3.chg hc7 (fun h => nomatch h)
 have hM : MS ([g3] ++ (M)) w7 := (hM.chg hc7)
 have hC := hC.trans hc7 (Ok.nil _ _)
 refine seg ha 5 [(0, .int .i64 a0), (1, .int .i64 a1), (2, .int .i64 a2), (6, .pointer (some ⟨g3, 0, none⟩)), (8, .int .i64 t7.1), (9, .int .i64 t7.2)] (by kernel_rfl) fun a ha => ?_
 refine hK6 _ _ ?_; try clear hK6 K6
 refine wp_seq_k fun K8 hK8 => ?_
 refine wp_seq_k fun K9 hK9 => ?_
 refine wp_region_lit ?_
 refine seg ha 2 [(0, .int .i64 a0), (1, .int .i64 a1), (2, .int .i64 a2), (6, .pointer (some ⟨g3, 0, none⟩)), (8, .int .i64 t7.1), (9, .int .i64 t7.2), (17, .bool (t7.1 == (0 : Int)))] (by kernel_rfl) fun a ha => ?_
 refine hK9 _ _ ?_; try clear hK9 K9
 refine cnd ha rfl (fun hc10 => ?_) (fun hc10 => ?_)
 ·have H := ite_t hc10 H
  refine wp_seq_k fun K11 hK11 => ?_
  refine wp_region_lit ?_
  refine opk (v := .agg (cA .u8 8 ([(0 : Int), (0 : Int), (0 : Int), (0 : Int), (0 : Int), (0 : Int), (0 : Int), (0 : Int)] : List Int)).toArray) ha rfl rfl rfl rfl rfl (fun w => by kernel_rfl) fun a ha => ?_
  refine stA (l := (cA .u8 8 ([(0 : Int), (0 : Int), (0 : Int), (0 : Int), (0 : Int), (0 : Int), (0 : Int), (0 : Int)] : List Int))) ha rfl rfl rfl (by kernel_rfl) rfl rfl hBg3 rfl fun a w12 ha hb2 hc13 _ => ?_
  have hM : MS ([g3] ++ (M)) w12 := (hM.chg hc13)
  have hC := hC.trans hc13 (fun x h => .inr (e_i5 x h))
  have hBg3 : Box w12 g3 (cA .u8 8 ([(0 : Int), (0 : Int), (0 : Int), (0 : Int), (0 : Int), (0 : Int), (0 : Int), (0 : Int)] : List Int)) := hb2
  refine seg ha 1 [(6, .pointer (some ⟨g3, 0, none⟩)), (7, .int .i64 (1 : Int))] (by kernel_rfl) fun a ha => ?_
  refine hK11 _ _ ?_; try clear hK11 K11
  refine wp_ret ?_
  try simp only [Exit.then, Exit.inBlock]
  have hBg3 := hBg3.chg (Chg.refl [] _) (fun h => nomatch h)
  have hM : MS (M) w12 := (fun x h => hM.chg (Chg.refl [] _) x (mr (h)))
  have hC := hC.trans (Chg.refl [] _) (Ok.nil _ _)
  obtain rfl := Option.some.inj H
  refine rtr ha (res2 rfl (roA ha rfl hBg3 (by kernel_rfl)) (roT ha rfl)) ?_
  exact ⟨rfl, hC, hM⟩
 ·have H := ite_f hc10 H
  refine wp_skip ?_
  refine hK8 _ _ ?_; try clear hK8 K8
  refine wp_seq_k fun K14 hK14 => ?_
  refine wp_seq_k fun K15 hK15 => ?_
  refine wp_region_lit ?_
  obtain ⟨s16, H16, H⟩ := bind_some H
  have J16 : ∀ (a : Act) (w16 : World), Has a Tryz.f38.ntmps [(0, .int .i64 a0), (1, .int .i64 a1), (2, .int .i64 a2), (6, .pointer (some ⟨g3, 0, none⟩)), (8, .int .i64 t7.1), (9, .int .i64 t7.2), (38, .bool s16)] → (Box w16 g3 (cA .u8 8 (List.replicate 8 (0 : Int)))) → (Chg [] w w16) → (MS ([g3] ++ (M)) w16) → K15 a w16 := by
   intro a w16 ha hBg3 hC hM
   refine hK15 _ _ ?_; try clear hK15 K15
   refine cnd ha rfl (fun hc17 => ?_) (fun hc17 => ?_)
   ·have H := ite_t hc17 H
    refine wp_seq_k fun K18 hK18 => ?_
    refine wp_region_lit ?_
    refine opk (v := .agg (cA .u8 8 ([(0 : Int), (0 : Int), (0 : Int), (0 : Int), (0 : Int), (0 : Int), (0 : Int), (0 : Int)] : List Int)).toArray) ha rfl rfl rfl rfl rfl (fun w => by kernel_rfl) fun a ha => ?_
    refine stA (l := (cA .u8 8 ([(0 : Int), (0 : Int), (0 : Int), (0 : Int), (0 : Int), (0 : Int), (0 : Int), (0 : Int)] : List Int))) ha rfl rfl rfl (by kernel_rfl) rfl rfl hBg3 rfl fun a w19 ha hb2 hc20 _ => ?_
    have hM : MS ([g3] ++ (M)) w19 := (hM.chg hc20)
    have hC := hC.trans hc20 (fun x h => .inr (e_i5 x h))
    have hBg3 : Box w19 g3 (cA .u8 8 ([(0 : Int), (0 : Int), (0 : Int), (0 : Int), (0 : Int), (0 : Int), (0 : Int), (0 : Int)] : List Int)) := hb2
    refine seg ha 1 [(6, .pointer (some ⟨g3, 0, none⟩)), (7, .int .i64 (5 : Int))] (by kernel_rfl) fun a ha => ?_
    refine hK18 _ _ ?_; try clear hK18 K18
    refine wp_ret ?_
    try simp only [Exit.then, Exit.inBlock]
    have hBg3 := hBg3.chg (Chg.refl [] _) (fun h => nomatch h)
    have hM : MS (M) w19 := (fun x h => hM.chg (Chg.refl [] _) x (mr (h)))
    have hC := hC.trans (Chg.refl [] _) (Ok.nil _ _)
    obtain rfl := Option.some.inj H
    refine rtr ha (res2 rfl (roA ha rfl hBg3 (by kernel_rfl)) (roT ha rfl)) ?_
    exact ⟨rfl, hC, hM⟩
   ·have H := ite_f hc17 H
    refine wp_skip ?_
    refine hK14 _ _ ?_; try clear hK14 K14
    refine wp_seq_k fun K21 hK21 => ?_
    refine wp_region_lit ?_
    refine seg ha 1 [(1, .int .i64 a1), (2, .int .i64 a2), (6, .pointer (some ⟨g3, 0, none⟩)), (8, .int .i64 t7.1), (9, .int .i64 t7.2), (40, .int .i64 a0)] (by kernel_rfl) fun a ha => ?_
    obtain ⟨t22, H22, H⟩ := bind_some H
    refine cl ha (by rfl) (by kernel_rfl) (by rfl) (by rfl) (by rfl) (vineryref01_Bytes.walk w16 _ hM a0 (2 : Int) k _ H22) ?_
    rintro _ w22 ⟨ao23, cap23, rfl, f23, ne_i23, hc22, hMn⟩ a ha
    have hBg3 := hBg3.chg hc22 (fun h => nomatch h)
    have p_i23_i5 : ∀ x ∈ blkL ao23, x ∉ ([g3]) := fun x hx hy => absurd (hM x (ml hy)) (Nat.not_lt.2 (ne_i23 x hx))
    have p_i23_M : ∀ x ∈ blkL ao23, x ∉ M := fun x hx hy => absurd (hM x (mr (hy))) (Nat.not_lt.2 (ne_i23 x hx))
    have e_i23 : ∀ x ∈ blkL ao23, w.heap.size ≤ x := fun x hx => Nat.le_trans hC.size (ne_i23 x hx)
    have hM : MS (blkL ao23 ++ ([g3] ++ (M))) w22 := (MS.app (fun x h => hMn x (ml h)) (hM.chg hc22))
    have hC := hC.trans hc22 (Ok.nil _ _)
    refine seg ha 2 [(2, .int .i64 a2), (6, .pointer (some ⟨g3, 0, none⟩)), (9, .int .i64 t7.2), (41, .slice ao23 t22.length cap23), (42, .int .i64 a1), (43, .int .i64 t7.1)] (by kernel_rfl) fun a ha => ?_
    obtain ⟨t24, H24, H⟩ := bind_some H
    refine cl ha (by rfl) (by kernel_rfl) (by rfl) (by rfl) (by rfl) (vineryref01_Bytes.walk w22 _ hM a1 t7.1 k _ H24) ?_
    rintro _ w24 ⟨ao25, cap25, rfl, f25, ne_i25, hc24, hMn⟩ a ha
    have o1 : Ok [] (blkL ao23 ++ ([g3] ++ (M))) w22.heap.size := Ok.nil _ _
    have o2 : Ok (blkL ao25 ++ (blkL ao23 ++ ([g3] ++ (M)))) (blkL ao23 ++ ([g3] ++ (M))) w22.heap.size := (Ok.app (fun x h => .inr (ne_i25 x h)) (Ok.refl _ _))
    have f23 := f23.chg hc24 o1 o2 (fun _ _ h => nomatch h) (fun _ h => mr (ml h))
    have hBg3 := hBg3.chg hc24 (fun h => nomatch h)
    have p_i25_i23 : ∀ x ∈ blkL ao25, x ∉ (blkL ao23) := fun x hx hy => absurd (hM x (ml hy)) (Nat.not_lt.2 (ne_i25 x hx))
    have p_i25_i5 : ∀ x ∈ blkL ao25, x ∉ ([g3]) := fun x hx hy => absurd (hM x (mr (ml hy))) (Nat.not_lt.2 (ne_i25 x hx))
    have p_i25_M : ∀ x ∈ blkL ao25, x ∉ M := fun x hx hy => absurd (hM x (mr (mr (hy)))) (Nat.not_lt.2 (ne_i25 x hx))
    have e_i25 : ∀ x ∈ blkL ao25, w.heap.size ≤ x := fun x hx => Nat.le_trans hC.size (ne_i25 x hx)
    have hM : MS (blkL ao25 ++ (blkL ao23 ++ ([g3] ++ (M)))) w24 := (MS.app (fun x h => hMn x (ml h)) (hM.chg hc24))
    have hC := hC.trans hc24 (Ok.nil _ _)
    obtain ⟨hx26, H⟩ := ite_some H
    refine app (r := (rInt .u8)) (xs := t22) (ys := t24) ha (ElemT.mk' (bytes := 1) (by kernel_rfl)) rfl rfl rfl rfl rfl f23 f25.src hx26 (by decide) fun a w27 ao28 cap28 hO28 hc28 hk28 hl28 ha => ?_
    have o1 : Ok (blkL ao23) (blkL ao25 ++ (blkL ao23 ++ ([g3] ++ (M)))) w24.heap.size := (fun _ h => .inl (mr (ml h)))
    have o2 : Ok (blkL ao28 ++ (blkL ao25 ++ ([g3] ++ (M)))) (blkL ao25 ++ (blkL ao23 ++ ([g3] ++ (M)))) w24.heap.size := (Ok.app (Ok.to hk28 (fun _ h => mr (ml h))) (Ok.app (fun _ h => .inl (ml h)) (fun _ h => .inl (mr (mr (h))))))
    have f25 := f25.chg hc28 o1 o2 p_i25_i23 (fun _ h => mr (ml h))
    have hBg3 := hBg3.chg hc28 ((fun x (hx : x ∈ [g3]) (hy : x ∈ blkL ao23) => p_i23_i5 x hy hx) g3 (by simp))
    have p_i28_i25 : ∀ x ∈ blkL ao28, x ∉ (blkL ao25) := fun x hx hy => (hk28 x hx).elim (fun h => (fun x hx hy => p_i25_i23 x hy hx) x h hy) (fun h => absurd (hM x (ml hy)) (Nat.not_lt.2 h))
    have p_i28_i5 : ∀ x ∈ blkL ao28, x ∉ ([g3]) := fun x hx hy => (hk28 x hx).elim (fun h => p_i23_i5 x h hy) (fun h => absurd (hM x (mr (mr (ml hy)))) (Nat.not_lt.2 h))
    have p_i28_M : ∀ x ∈ blkL ao28, x ∉ M := fun x hx hy => (hk28 x hx).elim (fun h => p_i23_M x h hy) (fun h => absurd (hM x (mr (mr (mr (hy))))) (Nat.not_lt.2 h))
    have e_i28 : ∀ x ∈ blkL ao28, w.heap.size ≤ x := fun x hx => (hk28 x hx).elim (e_i23 x) (Nat.le_trans hC.size)
    have hM : MS (blkL ao28 ++ (blkL ao25 ++ ([g3] ++ (M)))) w27 := (MS.app hl28 (MS.app (fun x h => hM.chg hc28 x (ml h)) (fun x h => hM.chg hc28 x (mr (mr (h))))))
    have hC := hC.trans hc28 (fun x h => .inr (e_i23 x h))
    have f28 := hO28.chg (M' := blkL ao28 ++ (blkL ao25 ++ ([g3] ++ (M)))) (Chg.refl [] _) (Ok.nil _ _) (Ok.app (fun _ h => .inl (ml h)) (Ok.to (Ok.app (fun _ h => .inl (ml h)) (fun _ h => .inl (mr (mr (h))))) (fun _ h => mr h))) (fun _ _ h => nomatch h) (fun _ h => ml h)
    refine seg ha 1 [(2, .int .i64 a2), (6, .pointer (some ⟨g3, 0, none⟩)), (9, .int .i64 t7.2), (10, .slice ao28 (t22 ++ t24).length cap28)] (by kernel_rfl) fun a ha => ?_
    refine hK21 _ _ ?_; try clear hK21 K21
    refine wp_seq_k fun K29 hK29 => ?_
    refine wp_region_lit ?_
    refine seg ha 3 [(6, .pointer (some ⟨g3, 0, none⟩)), (46, .slice ao28 (t22 ++ t24).length cap28), (47, .int .i64 a2), (48, .int .i64 t7.2)] (by kernel_rfl) fun a ha => ?_
    obtain ⟨t30, H30, H⟩ := bind_some H
    refine cl ha (by rfl) (by kernel_rfl) (by rfl) (by rfl) (by rfl) (vineryref01_Bytes.walk w27 _ hM a2 t7.2 k _ H30) ?_
    rintro _ w30 ⟨ao31, cap31, rfl, f31, ne_i31, hc30, hMn⟩ a ha
    have o1 : Ok [] (blkL ao28 ++ (blkL ao25 ++ ([g3] ++ (M)))) w27.heap.size := Ok.nil _ _
    have o2 : Ok (blkL ao31 ++ (blkL ao28 ++ (blkL ao25 ++ ([g3] ++ (M))))) (blkL ao28 ++ (blkL ao25 ++ ([g3] ++ (M)))) w27.heap.size := (Ok.app (fun x h => .inr (ne_i31 x h)) (Ok.refl _ _))
    have f28 := f28.chg hc30 o1 o2 (fun _ _ h => nomatch h) (fun _ h => mr (ml h))
    have hBg3 := hBg3.chg hc30 (fun h => nomatch h)
    have p_i31_i28 : ∀ x ∈ blkL ao31, x ∉ (blkL ao28) := fun x hx hy => absurd (hM x (ml hy)) (Nat.not_lt.2 (ne_i31 x hx))
    have p_i31_i25 : ∀ x ∈ blkL ao31, x ∉ (blkL ao25) := fun x hx hy => absurd (hM x (mr (ml hy))) (Nat.not_lt.2 (ne_i31 x hx))
    have p_i31_i5 : ∀ x ∈ blkL ao31, x ∉ ([g3]) := fun x hx hy => absurd (hM x (mr (mr (ml hy)))) (Nat.not_lt.2 (ne_i31 x hx))
    have p_i31_M : ∀ x ∈ blkL ao31, x ∉ M := fun x hx hy => absurd (hM x (mr (mr (mr (hy))))) (Nat.not_lt.2 (ne_i31 x hx))
    have e_i31 : ∀ x ∈ blkL ao31, w.heap.size ≤ x := fun x hx => Nat.le_trans hC.size (ne_i31 x hx)
    have hM : MS (blkL ao31 ++ (blkL ao28 ++ (blkL ao25 ++ ([g3] ++ (M))))) w30 := (MS.app (fun x h => hMn x (ml h)) (hM.chg hc30))
    have hC := hC.trans hc30 (Ok.nil _ _)
    obtain ⟨hx32, H⟩ := ite_some H
    refine app (r := (rInt .u8)) (xs := (t22 ++ t24)) (ys := t30) ha (ElemT.mk' (bytes := 1) (by kernel_rfl)) rfl rfl rfl rfl rfl f28 f31.src hx32 (by decide) fun a w33 ao34 cap34 hO34 hc34 hk34 hl34 ha => ?_
    have o1 : Ok (blkL ao28) (blkL ao31 ++ (blkL ao28 ++ (blkL ao25 ++ ([g3] ++ (M))))) w30.heap.size := (fun _ h => .inl (mr (ml h)))
    have o2 : Ok (blkL ao34 ++ (blkL ao31 ++ (blkL ao25 ++ ([g3] ++ (M))))) (blkL ao31 ++ (blkL ao28 ++ (blkL ao25 ++ ([g3] ++ (M))))) w30.heap.size := (Ok.app (Ok.to hk34 (fun _ h => mr (ml h))) (Ok.app (fun _ h => .inl (ml h)) (fun _ h => .inl (mr (mr (h))))))
    have f31 := f31.chg hc34 o1 o2 p_i31_i28 (fun _ h => mr (ml h))
    have hBg3 := hBg3.chg hc34 ((fun x (hx : x ∈ [g3]) (hy : x ∈ blkL ao28) => p_i28_i5 x hy hx) g3 (by simp))
    have p_i34_i31 : ∀ x ∈ blkL ao34, x ∉ (blkL ao31) := fun x hx hy => (hk34 x hx).elim (fun h => (fun x hx hy => p_i31_i28 x hy hx) x h hy) (fun h => absurd (hM x (ml hy)) (Nat.not_lt.2 h))
    have p_i34_i25 : ∀ x ∈ blkL ao34, x ∉ (blkL ao25) := fun x hx hy => (hk34 x hx).elim (fun h => p_i28_i25 x h hy) (fun h => absurd (hM x (mr (mr (ml hy)))) (Nat.not_lt.2 h))
    have p_i34_i5 : ∀ x ∈ blkL ao34, x ∉ ([g3]) := fun x hx hy => (hk34 x hx).elim (fun h => p_i28_i5 x h hy) (fun h => absurd (hM x (mr (mr (mr (ml hy))))) (Nat.not_lt.2 h))
    have p_i34_M : ∀ x ∈ blkL ao34, x ∉ M := fun x hx hy => (hk34 x hx).elim (fun h => p_i28_M x h hy) (fun h => absurd (hM x (mr (mr (mr (mr (hy)))))) (Nat.not_lt.2 h))
    have e_i34 : ∀ x ∈ blkL ao34, w.heap.size ≤ x := fun x hx => (hk34 x hx).elim (e_i28 x) (Nat.le_trans hC.size)
    have hM : MS (blkL ao34 ++ (blkL ao31 ++ (blkL ao25 ++ ([g3] ++ (M))))) w33 := (MS.app hl34 (MS.app (fun x h => hM.chg hc34 x (ml h)) (fun x h => hM.chg hc34 x (mr (mr (h))))))
    have hC := hC.trans hc34 (fun x h => .inr (e_i28 x h))
    have f34 := hO34.chg (M' := blkL ao34 ++ (blkL ao31 ++ (blkL ao25 ++ ([g3] ++ (M))))) (Chg.refl [] _) (Ok.nil _ _) (Ok.app (fun _ h => .inl (ml h)) (Ok.to (Ok.app (fun _ h => .inl (ml h)) (fun _ h => .inl (mr (mr (h))))) (fun _ h => mr h))) (fun _ _ h => nomatch h) (fun _ h => ml h)
    have hML : MS (blkL ao31 ++ (blkL ao25 ++ ([g3] ++ (M)))) w33 := MS.rest hM (fun _ h => (List.mem_append.1 h).elim (fun h => mr (ml h)) (fun h => (List.mem_append.1 h).elim (fun h => mr (mr (ml h))) (fun h => (List.mem_append.1 h).elim (fun h => mr (mr (mr (ml h)))) (fun h => mr (mr (mr (mr (h))))))))
    have oL : Ok (blkL ao31 ++ (blkL ao25 ++ ([g3] ++ (M)))) (blkL ao34 ++ (blkL ao31 ++ (blkL ao25 ++ ([g3] ++ (M))))) w33.heap.size := (fun _ h => .inl (mr (h)))
    obtain ⟨t35, H35, H⟩ := bind_some H
    refine cl ha (by rfl) (by kernel_rfl) (by rfl) (by rfl) (by rfl) (vineryref03_Of.walk w33 _ hML ((t22 ++ t24) ++ t30) ao34 cap34 (Own.toRSl (M' := blkL ao31 ++ (blkL ao25 ++ ([g3] ++ (M)))) f34 oL (fun x hx hm => (List.mem_append.1 hm).elim (fun h => p_i34_i31 x hx h) (fun h => (List.mem_append.1 h).elim (fun h => p_i34_i25 x hx h) (fun h => (List.mem_append.1 h).elim (fun h => p_i34_i5 x hx h) (fun h => p_i34_M x hx h))))) k _ H35) ?_
    rintro _ w35 ⟨rfl, hc35, hMn⟩ a ha
    have o1 : Ok [] (blkL ao34 ++ (blkL ao31 ++ (blkL ao25 ++ ([g3] ++ (M))))) w33.heap.size := Ok.nil _ _
    have o2 : Ok (blkL ao34 ++ (blkL ao31 ++ (blkL ao25 ++ ([g3] ++ (M))))) (blkL ao34 ++ (blkL ao31 ++ (blkL ao25 ++ ([g3] ++ (M))))) w33.heap.size := (Ok.refl _ _)
    have f34 := f34.chg hc35 o1 o2 (fun _ _ h => nomatch h) (fun _ h => ml h)
    have hBg3 := hBg3.chg hc35 (fun h => nomatch h)
    have hM : MS (blkL ao34 ++ (blkL ao31 ++ (blkL ao25 ++ ([g3] ++ (M))))) w35 := (hM.chg hc35)
    have hC := hC.trans hc35 (Ok.nil _ _)
    refine stA (l := (cA .u8 8 t35)) ha rfl rfl rfl (by kernel_rfl) rfl rfl hBg3 rfl fun a w36 ha hb2 hc37 _ => ?_
    have hM : MS (blkL ao34 ++ (blkL ao31 ++ (blkL ao25 ++ ([g3] ++ (M))))) w36 := (hM.chg hc37)
    have hC := hC.trans hc37 (fun x h => .inr (e_i5 x h))
    have hBg3 : Box w36 g3 (cA .u8 8 t35) := hb2
    refine seg ha 1 [(6, .pointer (some ⟨g3, 0, none⟩)), (7, .int .i64 (0 : Int))] (by kernel_rfl) fun a ha => ?_
    refine hK29 _ _ ?_; try clear hK29 K29
    refine wp_ret ?_
    try simp only [Exit.then, Exit.inBlock]
    have hBg3 := hBg3.chg (Chg.refl [] _) (fun h => nomatch h)
    have hM : MS (M) w36 := (fun x h => hM.chg (Chg.refl [] _) x (mr (mr (mr (mr (h))))))
    have hC := hC.trans (Chg.refl [] _) (Ok.nil _ _)
    obtain rfl := Option.some.inj H
    refine rtr ha (res2 rfl (roA ha rfl hBg3 (by kernel_rfl)) (roT ha rfl)) ?_
    exact ⟨rfl, hC, hM⟩
  have H := H16
  refine seg ha 3 [(21, .bool (decide (a1 < (0 : Int)))), (0, .int .i64 a0), (1, .int .i64 a1), (2, .int .i64 a2), (6, .pointer (some ⟨g3, 0, none⟩)), (8, .int .i64 t7.1), (9, .int .i64 t7.2)] (by kernel_rfl) fun a ha => ?_
  rcases Bool.eq_false_or_eq_true (decide (a1 < (0 : Int))) with hb38 | hb38
  ·have ha := ha.lit hb38
   have H := ite_t hb38 H
   refine sgh ha 17 [1, 1, 3, 0, 1, 1, 1, 1, 1, 3, 0, 1, 1, 1, 1, 1, 3] [(0, .int .i64 a0), (1, .int .i64 a1), (2, .int .i64 a2), (6, .pointer (some ⟨g3, 0, none⟩)), (8, .int .i64 t7.1), (9, .int .i64 t7.2), (38, .bool true)] (by kernel_rfl) fun a ha => ?_
   obtain rfl := Option.some.inj H
   exact J16 _ _ (ha.sel (by kernel_rfl)) hBg3 hC hM
  ·have ha := ha.lit hb38
   have H := ite_f hb38 H
   refine sgh ha 4 [2, 2, 4, 0] [(25, .bool (decide (a2 < (0 : Int)))), (0, .int .i64 a0), (1, .int .i64 a1), (2, .int .i64 a2), (6, .pointer (some ⟨g3, 0, none⟩)), (8, .int .i64 t7.1), (9, .int .i64 t7.2)] (by kernel_rfl) fun a ha => ?_
   rcases Bool.eq_false_or_eq_true (decide (a2 < (0 : Int))) with hb39 | hb39
   ·have ha := ha.lit hb39
    have H := ite_t hb39 H
    refine sgh ha 13 [1, 1, 1, 1, 1, 3, 0, 1, 1, 1, 1, 1, 3] [(0, .int .i64 a0), (1, .int .i64 a1), (2, .int .i64 a2), (6, .pointer (some ⟨g3, 0, none⟩)), (8, .int .i64 t7.1), (9, .int .i64 t7.2), (38, .bool true)] (by kernel_rfl) fun a ha => ?_
    obtain rfl := Option.some.inj H
    exact J16 _ _ (ha.sel (by kernel_rfl)) hBg3 hC hM
   ·have ha := ha.lit hb39
    have H := ite_f hb39 H
    refine sgh ha 3 [2, 2, 2] [(0, .int .i64 a0), (1, .int .i64 a1), (2, .int .i64 a2), (6, .pointer (some ⟨g3, 0, none⟩)), (8, .int .i64 t7.1), (9, .int .i64 t7.2), (25, .bool false), (26, .int .i64 a1), (28, .int .i64 (IntKind.i64.wrap ((8 : Int) * t7.1)))] (by kernel_rfl) fun a ha => ?_
    obtain ⟨hx40, H⟩ := ite_some H
    refine hop (v := .int .i64 (IntKind.i64.wrap ((1 : Int) * 2 ^ (min (Int.toNat (IntKind.i64.wrap ((8 : Int) * t7.1))) IntKind.i64.bits)))) (w' := w7) ha rfl rfl rfl (shl_run ha (by rfl) (by rfl) hx40 _) fun a ha => ?_
    refine sgh ha 3 [2, 4, 0] [(32, .bool (decide (a1 ≥ (IntKind.i64.wrap ((1 : Int) * 2 ^ (min (Int.toNat (IntKind.i64.wrap ((8 : Int) * t7.1))) IntKind.i64.bits)))))), (0, .int .i64 a0), (1, .int .i64 a1), (2, .int .i64 a2), (6, .pointer (some ⟨g3, 0, none⟩)), (8, .int .i64 t7.1), (9, .int .i64 t7.2)] (by kernel_rfl) fun a ha => ?_
    rcases Bool.eq_false_or_eq_true (decide (a1 ≥ (IntKind.i64.wrap ((1 : Int) * 2 ^ (min (Int.toNat (IntKind.i64.wrap ((8 : Int) * t7.1))) IntKind.i64.bits))))) with hb41 | hb41
    ·have ha := ha.lit hb41
     have H := ite_t hb41 H
     refine sgh ha 6 [1, 1, 1, 1, 1, 3] [(0, .int .i64 a0), (1, .int .i64 a1), (2, .int .i64 a2), (6, .pointer (some ⟨g3, 0, none⟩)), (8, .int .i64 t7.1), (9, .int .i64 t7.2), (38, .bool true)] (by kernel_rfl) fun a ha => ?_
     obtain rfl := Option.some.inj H
     exact J16 _ _ (ha.sel (by kernel_rfl)) hBg3 hC hM
    ·have ha := ha.lit hb41
     have H := ite_f hb41 H
     refine sgh ha 3 [2, 2, 2] [(0, .int .i64 a0), (1, .int .i64 a1), (2, .int .i64 a2), (6, .pointer (some ⟨g3, 0, none⟩)), (8, .int .i64 t7.1), (9, .int .i64 t7.2), (32, .bool false), (33, .int .i64 a2), (35, .int .i64 (IntKind.i64.wrap ((8 : Int) * t7.2)))] (by kernel_rfl) fun a ha => ?_
     obtain ⟨hx42, H⟩ := ite_some H
     refine hop (v := .int .i64 (IntKind.i64.wrap ((1 : Int) * 2 ^ (min (Int.toNat (IntKind.i64.wrap ((8 : Int) * t7.2))) IntKind.i64.bits)))) (w' := w7) ha rfl rfl rfl (shl_run ha (by rfl) (by rfl) hx42 _) fun a ha => ?_
     refine sgh ha 2 [2, 4] [(0, .int .i64 a0), (1, .int .i64 a1), (2, .int .i64 a2), (6, .pointer (some ⟨g3, 0, none⟩)), (8, .int .i64 t7.1), (9, .int .i64 t7.2), (38, .bool (decide (a2 ≥ (IntKind.i64.wrap ((1 : Int) * 2 ^ (min (Int.toNat (IntKind.i64.wrap ((8 : Int) * t7.2))) IntKind.i64.bits))))))] (by kernel_rfl) fun a ha => ?_
     obtain rfl := Option.some.inj H
     exact J16 _ _ (ha.sel (by kernel_rfl)) hBg3 hC hM
def vineryref03_Parts.f (k : Nat) (a0 : List Int) : Option (Int × Int × Int × Bool) := (if 0 ≤ (0 : Int) ∧ (0 : Int) ≤ (2 : Int) ∧ (2 : Int) ≤ (8 : Int) then (vineryref01_Big.f k (((arL 8 a0).take (Int.toNat (2 : Int))).drop (Int.toNat (0 : Int)))).bind fun t10 => (vineryref03_widths.f t10).bind fun t12 => (if (t12.1 == (0 : Int)) = true then some (((0 : Int) : Int), ((0 : Int) : Int), ((0 : Int) : Int), (false : Bool)) else (if 0 ≤ (2 : Int) ∧ (2 : Int) ≤ (IntKind.i64.wrap ((2 : Int) + t12.1)) ∧ (IntKind.i64.wrap ((2 : Int) + t12.1)) ≤ (8 : Int) then (vineryref01_Big.f k (((arL 8 a0).take (Int.toNat (IntKind.i64.wrap ((2 : Int) + t12.1)))).drop (Int.toNat (2 : Int)))).bind fun t20 => (if 0 ≤ (IntKind.i64.wrap ((2 : Int) + t12.1)) ∧ (IntKind.i64.wrap ((2 : Int) + t12.1)) ≤ (8 : Int) ∧ (8 : Int) ≤ (8 : Int) then (vineryref01_Big.f k (((arL 8 a0).take (Int.toNat (8 : Int))).drop (Int.toNat (IntKind.i64.wrap ((2 : Int) + t12.1))))).bind fun t23 => some ((t10 : Int), (t20 : Int), (t23 : Int), (true : Bool)) else none) else none)) else none)
set_option maxRecDepth 100000 in
theorem vineryref03_Parts.walk (w : World) (M : List Nat) (hM : MS M w) (a0 : List Int) (k : Nat) (r : Int × Int × Int × Bool) (H : vineryref03_Parts.f k a0 = some r) :
    To Tryz.prog 43 [.agg (cA .u8 8 a0).toArray] w fun v w' => v = .tuple #[.int .i64 r.1, .int .i64 r.2.1, .int .i64 r.2.2.1, .bool r.2.2.2] ∧ Chg [] w w' ∧ MS (M) w' := by
 unfold vineryref03_Parts.f at H
 refine ent Tryz.func43 rfl [(0, .agg (cA .u8 8 a0).toArray)] rfl (by rfl) fun a ha => ?_
 have hC : Chg [] w w := Chg.refl _ _
 refine wp_seq_k fun K1 hK1 => ?_
 refine wp_region_lit ?_
 refine bx (cs := (cA .u8 8 a0)) ha rfl rfl rfl rfl rfl fun a w2 g3 hN4 ha => ?_
 have hn6 := hN4.notin hM
 have hM : MS (M) w2 := (hM.chg hN4.chg)
 have hC := hC.trans hN4.chg (Ok.nil _ _)
 have hE5 : ∀ j v, (cA .u8 8 a0)[j]? = some v → w2.cell? ⟨g3, 0 + j, none⟩ = some v := Box.cells (New.box hN4)
 refine seg ha 4 [(1, .pointer (some ⟨g3, 0, none⟩))] (by kernel_rfl) fun a ha => ?_
 refine hK1 _ _ ?_; try clear hK1 K1
 refine wp_seq_k fun K7 hK7 => ?_
 refine wp_region_lit ?_
 have f8 : RSl (rInt .u8) 5 w2 (M) (some ⟨g3, 0 + 0, none⟩) 8 (arL 8 a0) := RSl.ofA [] [] hE5 hn6 (by kernel_rfl) rfl
 obtain ⟨⟨hx9, hx9', hx9''⟩, H⟩ := ite_some H
 obtain ⟨ao9, cap9, f9, hr9⟩ := slA_run (kk := .u8) (T := 5) (N := 8) (g := g3) (o' := 0 + 0) (xs := (arL 8 a0)) (t := 23) (lo := Option.none) (hi := (Option.some (Operand.const (Value.int IntKind.i64 2)))) (l := (0 : Int)) (h := (2 : Int)) (dd := some 9) (ty := 67) (pos := "ref.go:45") (af := #[]) (gd := Option.none) ha (by kernel_rfl) (by kernel_rfl) (x := (Operand.tmp 1)) rfl (arL_length _ _) rfl rfl f8 hx9 hx9' (by rw [arL_length]; exact hx9'')
 refine hop (v := .slice ao9 (((arL 8 a0).take (Int.toNat (2 : Int))).drop (Int.toNat (0 : Int))).length cap9) (w' := w2) ha rfl rfl rfl (hr9 _) fun a ha => ?_
 obtain ⟨t10, H10, H⟩ := bind_some H
 refine cl ha (by rfl) (by kernel_rfl) (by rfl) (by rfl) (by rfl) (vineryref01_Big.walk w2 _ hM (((arL 8 a0).take (Int.toNat (2 : Int))).drop (Int.toNat (0 : Int))) ao9 cap9 f9 k _ H10) ?_
 rintro _ w10 ⟨rfl, hc10, hMn⟩ a ha
 have o1 : Ok [] (M) w2.heap.size := Ok.nil _ _
 have o2 : Ok (M) (M) w2.heap.size := (Ok.refl _ _)
 have f9 := f9.chg hc10 o1 o2
 have q_hn6 : g3 ∉ M := fun h => (o2 g3 h).elim hn6 (fun h => absurd (lt_cell (hE5 0 _ rfl)) (Nat.not_lt.2 h))
 have hE5 : ∀ j v, (cA .u8 8 a0)[j]? = some v → w10.cell? ⟨g3, 0 + j, none⟩ = some v := fun j v hv => (cell_keep hc10 o1 hn6 (hE5 j v hv))
 have hn6 := q_hn6
 have hM : MS (M) w10 := (hM.chg hc10)
 have hC := hC.trans hc10 (Ok.nil _ _)
 refine seg ha 1 [(1, .pointer (some ⟨g3, 0, none⟩)), (6, .int .i64 t10)] (by kernel_rfl) fun a ha => ?_
 refine hK7 _ _ ?_; try clear hK7 K7
 refine wp_seq_k fun K11 hK11 => ?_
 refine wp_region_lit ?_
 refine seg ha 1 [(1, .pointer (some ⟨g3, 0, none⟩)), (6, .int .i64 t10), (12, .int .i64 t10)] (by kernel_rfl) fun a ha => ?_
 obtain ⟨t12, H12, H⟩ := bind_some H
 refine cl ha (by rfl) (by kernel_rfl) (by rfl) (by rfl) (by rfl) (vineryref03_widths.walk w10 _ hM t10 _ H12) ?_
 rintro _ w12 ⟨rfl, hc12, hMn⟩ a ha
 have o1 : Ok [] (M) w10.heap.size := Ok.nil _ _
 have o2 : Ok (M) (M) w10.heap.size := (Ok.refl _ _)
 have q_hn6 : g3 ∉ M := fun h => (o2 g3 h).elim hn6 (fun h => absurd (lt_cell (hE5 0 _ rfl)) (Nat.not_lt.2 h))
 have hE5 : ∀ j v, (cA .u8 8 a0)[j]? = some v → w12.cell? ⟨g3, 0 + j, none⟩ = some v := fun j v hv => (cell_keep hc12 o1 hn6 (hE5 j v hv))
 have hn6 := q_hn6
 have hM : MS (M) w12 := (hM.chg hc12)
 have hC := hC.trans hc12 (Ok.nil _ _)
 refine seg ha 5 [(1, .pointer (some ⟨g3, 0, none⟩)), (6, .int .i64 t10), (7, .int .i64 t12.1)] (by kernel_rfl) fun a ha => ?_
 refine hK11 _ _ ?_; try clear hK11 K11
 refine wp_seq_k fun K13 hK13 => ?_
 refine wp_seq_k fun K14 hK14 => ?_
 refine wp_region_lit ?_
 refine seg ha 2 [(1, .pointer (some ⟨g3, 0, none⟩)), (6, .int .i64 t10), (7, .int .i64 t12.1), (17, .bool (t12.1 == (0 : Int)))] (by kernel_rfl) fun a ha => ?_
 refine hK14 _ _ ?_; try clear hK14 K14
 refine cnd ha rfl (fun hc15 => ?_) (fun hc15 => ?_)
 ·have H := ite_t hc15 H
  refine wp_seq_k fun K16 hK16 => ?_
  refine wp_region_lit ?_
  refine seg ha 4 [(2, .int .i64 (0 : Int)), (3, .int .i64 (0 : Int)), (4, .int .i64 (0 : Int)), (5, .bool false)] (by kernel_rfl) fun a ha => ?_
  refine hK16 _ _ ?_; try clear hK16 K16
  refine wp_ret ?_
  try simp only [Exit.then, Exit.inBlock]
  obtain rfl := Option.some.inj H
  refine rt4 ha rfl rfl rfl rfl rfl ?_
  exact ⟨rfl, hC, hM⟩
 ·have H := ite_f hc15 H
  refine wp_skip ?_
  refine hK13 _ _ ?_; try clear hK13 K13
  refine wp_seq_k fun K17 hK17 => ?_
  refine drq0 (fun w' => Chg [] w12 w') (by kernel_rfl) (by kernel_rfl) (fun _ h => h) ?_
  refine qp 0 (.int .i64 t10) ha rfl rfl rfl (by kernel_rfl) fun a ha => ?_
  refine qp 0 (.int .i64 t12.1) ha rfl rfl rfl (by kernel_rfl) fun a ha => ?_
  refine qp 0 (.int .i64 (IntKind.i64.wrap ((2 : Int) + t12.1))) ha rfl rfl rfl (by kernel_rfl) fun a ha => ?_
  have f18 : RSl (rInt .u8) 5 w12 (M) (some ⟨g3, 0 + 0, none⟩) 8 (arL 8 a0) := RSl.ofA [] [] hE5 hn6 (by kernel_rfl) rfl
  obtain ⟨⟨hx19, hx19', hx19''⟩, H⟩ := ite_some H
  obtain ⟨ao19, cap19, f19, hr19⟩ := slA_run (kk := .u8) (T := 5) (N := 8) (g := g3) (o' := 0 + 0) (xs := (arL 8 a0)) (t := 23) (lo := (Option.some (Operand.const (Value.int IntKind.i64 2)))) (hi := (Option.some (Operand.tmp 20))) (l := (2 : Int)) (h := (IntKind.i64.wrap ((2 : Int) + t12.1))) (dd := some 21) (ty := 67) (pos := "ref.go:50") (af := #[{ on := 2, ground := Ground.data }]) (gd := Option.none) ha (by kernel_rfl) (by kernel_rfl) (x := (Operand.tmp 1)) rfl (arL_length _ _) rfl rfl f18 hx19 hx19' (by rw [arL_length]; exact hx19'')
  refine qv (v := .slice ao19 (((arL 8 a0).take (Int.toNat (IntKind.i64.wrap ((2 : Int) + t12.1)))).drop (Int.toNat (2 : Int))).length cap19) ha rfl rfl rfl (fun w' hs => hr19 w') fun a ha => ?_
  obtain ⟨t20, H20, H⟩ := bind_some H
  refine qc (.int .i64 t20) ha (by rfl) (by kernel_rfl) (by rfl) (by rfl) (by rfl) (fun w' hs => (vineryref01_Big.walk w' [] (MS.nil _) (((arL 8 a0).take (Int.toNat (IntKind.i64.wrap ((2 : Int) + t12.1)))).drop (Int.toNat (2 : Int))) ao19 cap19 (RSl.chg (M' := []) f19 hs (Ok.nil _ _) (Ok.nil _ _)) k _ H20).mono fun v w'' ⟨hv, hc, _⟩ => ⟨hv, hs.trans hc (Ok.nil _ _)⟩) fun a ha => ?_
  refine qp 0 (.int .i64 t12.1) ha rfl rfl rfl (by kernel_rfl) fun a ha => ?_
  refine qp 0 (.int .i64 (IntKind.i64.wrap ((2 : Int) + t12.1))) ha rfl rfl rfl (by kernel_rfl) fun a ha => ?_
  have f21 : RSl (rInt .u8) 5 w12 (M) (some ⟨g3, 0 + 0, none⟩) 8 (arL 8 a0) := RSl.ofA [] [] hE5 hn6 (by kernel_rfl) rfl
  obtain ⟨⟨hx22, hx22', hx22''⟩, H⟩ := ite_some H
  obtain ⟨ao22, cap22, f22, hr22⟩ := slA_run (kk := .u8) (T := 5) (N := 8) (g := g3) (o' := 0 + 0) (xs := (arL 8 a0)) (t := 23) (lo := (Option.some (Operand.tmp 24))) (hi := Option.none) (l := (IntKind.i64.wrap ((2 : Int) + t12.1))) (h := (8 : Int)) (dd := some 25) (ty := 67) (pos := "ref.go:50") (af := #[{ on := 6, ground := Ground.data }]) (gd := Option.none) ha (by kernel_rfl) (by kernel_rfl) (x := (Operand.tmp 1)) rfl (arL_length _ _) rfl rfl f21 hx22 hx22' (by rw [arL_length]; exact hx22'')
  refine qv (v := .slice ao22 (((arL 8 a0).take (Int.toNat (8 : Int))).drop (Int.toNat (IntKind.i64.wrap ((2 : Int) + t12.1)))).length cap22) ha rfl rfl rfl (fun w' hs => hr22 w') fun a ha => ?_
  obtain ⟨t23, H23, H⟩ := bind_some H
  refine qc (.int .i64 t23) ha (by rfl) (by kernel_rfl) (by rfl) (by rfl) (by rfl) (fun w' hs => (vineryref01_Big.walk w' [] (MS.nil _) (((arL 8 a0).take (Int.toNat (8 : Int))).drop (Int.toNat (IntKind.i64.wrap ((2 : Int) + t12.1)))) ao22 cap22 (RSl.chg (M' := []) f22 hs (Ok.nil _ _) (Ok.nil _ _)) k _ H23).mono fun v w'' ⟨hv, hc, _⟩ => ⟨hv, hs.trans hc (Ok.nil _ _)⟩) fun a ha => ?_
  refine qp 0 (.int .i64 t10) ha rfl rfl rfl (by kernel_rfl) fun a ha => ?_
  refine qp 0 (.int .i64 t20) ha rfl rfl rfl (by kernel_rfl) fun a ha => ?_
  refine qp 0 (.int .i64 t23) ha rfl rfl rfl (by kernel_rfl) fun a ha => ?_
  refine qp 0 (.bool true) ha rfl rfl rfl (by kernel_rfl) fun a ha => ?_
  refine wpQuiet_nil ?_
  intro w24 hc25
  have o1 : Ok [] (M) w12.heap.size := Ok.nil _ _
  have o2 : Ok (M) (M) w12.heap.size := (Ok.refl _ _)
  have f19 := f19.chg hc25 o1 o2
  have f22 := f22.chg hc25 o1 o2
  have q_hn6 : g3 ∉ M := fun h => (o2 g3 h).elim hn6 (fun h => absurd (lt_cell (hE5 0 _ rfl)) (Nat.not_lt.2 h))
  have hE5 : ∀ j v, (cA .u8 8 a0)[j]? = some v → w24.cell? ⟨g3, 0 + j, none⟩ = some v := fun j v hv => (cell_keep hc25 o1 hn6 (hE5 j v hv))
  have hn6 := q_hn6
  have hM : MS (M) w24 := (hM.chg hc25)
  have hC := hC.trans hc25 (Ok.nil _ _)
  refine wpl_end ?_
  refine hK17 _ _ ?_; try clear hK17 K17
  refine wp_ret ?_
  try simp only [Exit.then, Exit.inBlock]
  obtain rfl := Option.some.inj H
  refine rt4 ha rfl rfl rfl rfl rfl ?_
  exact ⟨rfl, hC, hM⟩
def vineryref03_Hex.l0 (a0 : List Int) : Nat → (List Int) → Int → Option (List Int)
  | 0, _, _ => none
  | kk + 1, x9, x10 => (if (decide (x10 < (a0.length : Int))) = true then (if 0 ≤ x10 ∧ x10 < (a0.length : Int) then (if 0 ≤ (IntKind.u8.wrap (Int.tdiv (rd a0 x10) (16 : Int))) ∧ (IntKind.u8.wrap (Int.tdiv (rd a0 x10) (16 : Int))) < (([48, 49, 50, 51, 52, 53, 54, 55, 56, 57, 97, 98, 99, 100, 101, 102] : List UInt8).length : Int) then (if 0 ≤ x10 ∧ x10 < (a0.length : Int) then (if 0 ≤ (Int.tmod (rd a0 x10) (16 : Int)) ∧ (Int.tmod (rd a0 x10) (16 : Int)) < (([48, 49, 50, 51, 52, 53, 54, 55, 56, 57, 97, 98, 99, 100, 101, 102] : List UInt8).length : Int) then (if (x9.length + ([((([48, 49, 50, 51, 52, 53, 54, 55, 56, 57, 97, 98, 99, 100, 101, 102] : List UInt8).getD (Int.toNat (IntKind.u8.wrap (Int.tdiv (rd a0 x10) (16 : Int)))) 0).toNat : Int), ((([48, 49, 50, 51, 52, 53, 54, 55, 56, 57, 97, 98, 99, 100, 101, 102] : List UInt8).getD (Int.toNat (Int.tmod (rd a0 x10) (16 : Int))) 0).toNat : Int)] : List Int).length) * 1 ≤ 140737488355328 then vineryref03_Hex.l0 a0 kk (x9 ++ ([((([48, 49, 50, 51, 52, 53, 54, 55, 56, 57, 97, 98, 99, 100, 101, 102] : List UInt8).getD (Int.toNat (IntKind.u8.wrap (Int.tdiv (rd a0 x10) (16 : Int)))) 0).toNat : Int), ((([48, 49, 50, 51, 52, 53, 54, 55, 56, 57, 97, 98, 99, 100, 101, 102] : List UInt8).getD (Int.toNat (Int.tmod (rd a0 x10) (16 : Int))) 0).toNat : Int)] : List Int)) (IntKind.i64.wrap (x10 + (1 : Int))) else none) else none) else none) else none) else none) else some (x9 : List Int))
def vineryref03_Hex.f (k : Nat) (a0 : List Int) : Option (List UInt8) := (vineryref03_Hex.l0 a0 k ([] : List Int) (0 : Int)).bind fun s7 => some ((b2s s7 : List UInt8))
set_option maxRecDepth 100000 in
theorem vineryref03_Hex.walk (w : World) (M : List Nat) (hM : MS M w) (a0 : List Int) (ao1 : Option Addr) (cap1 : Nat) (f1 : RSl (rInt .u8) 5 w M ao1 cap1 a0) (k : Nat) (r : List UInt8) (H : vineryref03_Hex.f k a0 = some r) :
    To Tryz.prog 44 [.slice ao1 a0.length cap1] w fun v w' => v = .string (bstr r) ∧ Chg [] w w' ∧ MS (M) w' := by
 unfold vineryref03_Hex.f at H
 refine ent Tryz.func44 rfl [(0, .slice ao1 a0.length cap1)] rfl (by rfl) fun a ha => ?_
 have hC : Chg [] w w := Chg.refl _ _
 refine wp_seq_k fun K2 hK2 => ?_
 refine wp_region_lit ?_
 refine seg ha 1 [(0, .slice ao1 a0.length cap1)] (by kernel_rfl) fun a ha => ?_
 refine hK2 _ _ ?_; try clear hK2 K2
 refine wp_seq_k fun K3 hK3 => ?_
 refine wp_region_lit ?_
 refine seg ha 1 [(0, .slice ao1 a0.length cap1), (3, .string (bstr ([48, 49, 50, 51, 52, 53, 54, 55, 56, 57, 97, 98, 99, 100, 101, 102] : List UInt8)))] (by kernel_rfl) fun a ha => ?_
 refine hK3 _ _ ?_; try clear hK3 K3
 refine wp_seq_k fun K4 hK4 => ?_
 refine wp_region_lit ?_
 refine seg ha 1 [(0, .slice ao1 a0.length cap1), (3, .string (bstr ([48, 49, 50, 51, 52, 53, 54, 55, 56, 57, 97, 98, 99, 100, 101, 102] : List UInt8))), (4, .slice none 0 0)] (by kernel_rfl) fun a ha => ?_
 refine hK4 _ _ ?_; try clear hK4 K4
 refine wp_seq_k fun K5 hK5 => ?_
 refine wp_seq_k fun K6 hK6 => ?_
 refine wp_region_lit ?_
 refine seg ha 1 [(0, .slice ao1 a0.length cap1), (3, .string (bstr ([48, 49, 50, 51, 52, 53, 54, 55, 56, 57, 97, 98, 99, 100, 101, 102] : List UInt8))), (4, .slice none 0 0), (5, .int .i64 (0 : Int))] (by kernel_rfl) fun a ha => ?_
 refine hK6 _ _ ?_; try clear hK6 K6
 refine wp_block ?_
 obtain ⟨s7, H7, H⟩ := bind_some H
 have J7 : ∀ (a : Act) (wx7 : World) (ao11 : Option Addr) (cap11 : Nat), Has a Tryz.f44.ntmps [(4, .slice ao11 s7.length cap11)] → (Own (rInt .u8) 5 wx7 (blkL ao11 ++ (M)) ao11 cap11 s7) → (∀ x ∈ blkL ao11, w.heap.size ≤ x) → (∀ x ∈ blkL ao11, x ∉ M) → (Chg [] w wx7) → (MS (blkL ao11 ++ (M)) wx7) → K5 a wx7 := by
  intro a wx7 ao11 cap11 ha f11 e_i11 p_i11_M hC hM
  refine hK5 _ _ ?_; try clear hK5 K5
  refine wp_seq_k fun K12 hK12 => ?_
  refine wp_region_lit ?_
  refine seg ha 1 [(29, .slice ao11 s7.length cap11)] (by kernel_rfl) fun a ha => ?_
  refine cvs ha rfl (by kernel_rfl) (by kernel_rfl) (by kernel_rfl) rfl rfl rfl (Own.toRSl (M' := []) f11 (Ok.nil _ _) (fun _ _ h => nomatch h)) fun a ha => ?_
  refine seg ha 1 [(2, .string (bstr (b2s s7)))] (by kernel_rfl) fun a ha => ?_
  refine hK12 _ _ ?_; try clear hK12 K12
  refine wp_ret ?_
  try simp only [Exit.then, Exit.inBlock]
  have hM : MS (M) wx7 := (fun x h => hM.chg (Chg.refl [] _) x (mr (h)))
  have hC := hC.trans (Chg.refl [] _) (Ok.nil _ _)
  obtain rfl := Option.some.inj H
  refine rt1 ha rfl rfl ?_
  exact ⟨rfl, hC, hM⟩
 have Hc7 := H
 have H := H7
 refine wp_loop_ghost (fun kk a w7 => ∃ (x9 : List Int) (x10 : Int) (ao8 : Option Addr) (cap8 : Nat), vineryref03_Hex.l0 a0 kk x9 x10 = some s7 ∧ Has a Tryz.f44.ntmps [(0, .slice ao1 a0.length cap1), (3, .string (bstr ([48, 49, 50, 51, 52, 53, 54, 55, 56, 57, 97, 98, 99, 100, 101, 102] : List UInt8))), (4, .slice ao8 x9.length cap8), (5, .int .i64 x10)] ∧ (RSl (rInt .u8) 5 w7 (blkL ao8 ++ (M)) ao1 cap1 a0) ∧ (Own (rInt .u8) 5 w7 (blkL ao8 ++ (M)) ao8 cap8 x9) ∧ (∀ x ∈ blkL ao8, w.heap.size ≤ x) ∧ (∀ x ∈ blkL ao8, x ∉ M) ∧ (Chg [] w w7) ∧ (MS (blkL ao8 ++ (M)) w7)) k ?_ ?_
 ·skip
  have o1 : Ok [] (M) w.heap.size := Ok.nil _ _
  have o2 : Ok (blkL none ++ (M)) (M) w.heap.size := (Ok.app (fun _ h => nomatch h) (Ok.refl _ _))
  have f1 := f1.chg (Chg.refl [] _) o1 o2
  have p_z13_M : ∀ x ∈ blkL none, x ∉ M := fun x hx hy => absurd (hM x (hy)) (Nat.not_lt.2 ((fun _ h => nomatch h) x hx))
  have e_z13 : ∀ x ∈ blkL none, w.heap.size ≤ x := fun x hx => Nat.le_trans hC.size ((fun _ h => nomatch h) x hx)
  have hM : MS (blkL none ++ (M)) w := (MS.app (fun _ h => nomatch h) (hM.chg (Chg.refl [] _)))
  have hC := hC.trans (Chg.refl [] _) (Ok.nil _ _)
  exact ⟨([] : List Int), (0 : Int), none, 0, H, (ha.sel (by kernel_rfl)), f1, Own.nil, e_z13, p_z13_M, hC, hM⟩
 ·rintro kk a w7 ⟨x9, x10, ao8, cap8, H, ha, f1, f8, e_i8, p_i8_M, hC, hM⟩
  obtain _ | kk := kk
  ·exact nomatch (show none = some _ from H)
  rw [vineryref03_Hex.l0] at H
  refine wp_seq_k fun K14 hK14 => ?_
  refine wp_seq_k fun K15 hK15 => ?_
  refine wp_region_lit ?_
  refine seg ha 4 [(0, .slice ao1 a0.length cap1), (3, .string (bstr ([48, 49, 50, 51, 52, 53, 54, 55, 56, 57, 97, 98, 99, 100, 101, 102] : List UInt8))), (4, .slice ao8 x9.length cap8), (5, .int .i64 x10), (9, .bool (decide (x10 < (a0.length : Int))))] (by kernel_rfl) fun a ha => ?_
  refine hK15 _ _ ?_; try clear hK15 K15
  refine cnd ha rfl (fun hc16 => ?_) (fun hc16 => ?_)
  ·have H := ite_t hc16 H
   refine wp_skip ?_
   refine hK14 _ _ ?_; try clear hK14 K14
   refine wp_seq_k fun K17 hK17 => ?_
   refine wp_block ?_
   have okS : Ok (blkL ao8) (blkL ao8 ++ (M)) w7.heap.size := (fun _ h => .inl (ml h))
   have z_f1 := f1
   refine drw (fun w' => Chg (blkL ao8) w7 w') (by kernel_rfl) fun w18 hc19 _ => ?_
   have hS : Chg (blkL ao8) w7 w18 := (Chg.refl (blkL ao8) _).trans hc19 (Ok.nil _ _)
   have o1 : Ok [] (blkL ao8 ++ (M)) w7.heap.size := Ok.nil _ _
   have o2 : Ok (blkL ao8 ++ (M)) (blkL ao8 ++ (M)) w7.heap.size := (Ok.refl _ _)
   have f1 := f1.chg hc19 o1 o2
   have f8 := f8.chg hc19 o1 o2 (fun _ _ h => nomatch h) (fun _ h => ml h)
   have hM : MS (blkL ao8 ++ (M)) w18 := (hM.chg hc19)
   have hC := hC.trans hc19 (Ok.nil _ _)
   refine tkpz 0 0 (.slice ao8 x9.length cap8) ha (s := hS) (q := fun a ha => ?_)
   refine tkpz 1 0 (.string (bstr ([48, 49, 50, 51, 52, 53, 54, 55, 56, 57, 97, 98, 99, 100, 101, 102] : List UInt8))) ha (s := hS) (q := fun a ha => ?_)
   refine tkpz 2 0 (.slice ao1 a0.length cap1) ha (s := hS) (q := fun a ha => ?_)
   refine tkpz 3 0 (.int .i64 x10) ha (s := hS) (q := fun a ha => ?_)
   obtain ⟨⟨hx20, hx20'⟩, H⟩ := ite_some H
   obtain ⟨ge21, oe220, cs23, hx20eq, hn26, hR24, hE25⟩ := RSl.elem z_f1 (Int.toNat x10) (by omega)
   rw [rd_get] at hR24
   obtain rfl := hR24
   have hE25 : ∀ j v, ([.int .u8 (rd a0 x10)] : List Value)[j]? = some v → w7.cell? ⟨ge21, (oe220 + (Int.toNat x10) * (rInt .u8).sz) + j, none⟩ = some v := hE25
   refine tkz 4 ha (v := .pointer (some ⟨ge21, (oe220 + (Int.toNat x10) * (rInt .u8).sz), none⟩)) (y := fun w' _ => ix_run (r := (rInt .u8)) (T := 5) ha (by kernel_rfl) (by kernel_rfl) (by rfl) (by rfl) hx20eq hx20 hx20') (s := hS) (q := fun a ha => ?_)
   refine tkz 5 ha (v := .int .u8 (rd a0 x10)) (y := fun w' hs => ld_run ha rfl (by kernel_rfl) (cell_keep hs okS hn26 (hE25 0 (.int .u8 (rd a0 x10)) (by kernel_rfl)))) (s := hS) (q := fun a ha => ?_)
   refine tkpz 6 0 (.int .u8 (IntKind.u8.wrap (Int.tdiv (rd a0 x10) (16 : Int)))) ha (s := hS) (q := fun a ha => ?_)
   obtain ⟨⟨hx27, hx27'⟩, H⟩ := ite_some H
   refine tkz 7 ha (v := .int .u8 ((([48, 49, 50, 51, 52, 53, 54, 55, 56, 57, 97, 98, 99, 100, 101, 102] : List UInt8).getD (Int.toNat (IntKind.u8.wrap (Int.tdiv (rd a0 x10) (16 : Int)))) 0).toNat : Int)) (y := fun w' hs => sidx_run (l := ([48, 49, 50, 51, 52, 53, 54, 55, 56, 57, 97, 98, 99, 100, 101, 102] : List UInt8)) (k := .u8) (i := IntKind.u8.wrap (Int.tdiv (rd a0 x10) (16 : Int))) ha (by kernel_rfl) (by rfl) (by rfl) hx27 hx27' w') (s := hS) (q := fun a ha => ?_)
   refine tkpz 8 0 (.string (bstr ([48, 49, 50, 51, 52, 53, 54, 55, 56, 57, 97, 98, 99, 100, 101, 102] : List UInt8))) ha (s := hS) (q := fun a ha => ?_)
   refine tkpz 9 0 (.slice ao1 a0.length cap1) ha (s := hS) (q := fun a ha => ?_)
   refine tkpz 10 0 (.int .i64 x10) ha (s := hS) (q := fun a ha => ?_)
   obtain ⟨⟨hx28, hx28'⟩, H⟩ := ite_some H
   obtain ⟨ge29, oe300, cs31, hx28eq, hn34, hR32, hE33⟩ := RSl.elem z_f1 (Int.toNat x10) (by omega)
   rw [rd_get] at hR32
   obtain rfl := hR32
   have hE33 : ∀ j v, ([.int .u8 (rd a0 x10)] : List Value)[j]? = some v → w7.cell? ⟨ge29, (oe300 + (Int.toNat x10) * (rInt .u8).sz) + j, none⟩ = some v := hE33
   refine tkz 11 ha (v := .pointer (some ⟨ge29, (oe300 + (Int.toNat x10) * (rInt .u8).sz), none⟩)) (y := fun w' _ => ix_run (r := (rInt .u8)) (T := 5) ha (by kernel_rfl) (by kernel_rfl) (by rfl) (by rfl) hx28eq hx28 hx28') (s := hS) (q := fun a ha => ?_)
   refine tkz 12 ha (v := .int .u8 (rd a0 x10)) (y := fun w' hs => ld_run ha rfl (by kernel_rfl) (cell_keep hs okS hn34 (hE33 0 (.int .u8 (rd a0 x10)) (by kernel_rfl)))) (s := hS) (q := fun a ha => ?_)
   refine tkpz 13 0 (.int .u8 (Int.tmod (rd a0 x10) (16 : Int))) ha (s := hS) (q := fun a ha => ?_)
   obtain ⟨⟨hx35, hx35'⟩, H⟩ := ite_some H
   refine tkz 14 ha (v := .int .u8 ((([48, 49, 50, 51, 52, 53, 54, 55, 56, 57, 97, 98, 99, 100, 101, 102] : List UInt8).getD (Int.toNat (Int.tmod (rd a0 x10) (16 : Int))) 0).toNat : Int)) (y := fun w' hs => sidx_run (l := ([48, 49, 50, 51, 52, 53, 54, 55, 56, 57, 97, 98, 99, 100, 101, 102] : List UInt8)) (k := .u8) (i := Int.tmod (rd a0 x10) (16 : Int)) ha (by kernel_rfl) (by rfl) (by rfl) hx35 hx35' w') (s := hS) (q := fun a ha => ?_)
   refine ac 15 (by kernel_rfl) (by rfl) fun K36 hK36 => ?_
   refine bsl (vals := ([.int .u8 ((([48, 49, 50, 51, 52, 53, 54, 55, 56, 57, 97, 98, 99, 100, 101, 102] : List UInt8).getD (Int.toNat (IntKind.u8.wrap (Int.tdiv (rd a0 x10) (16 : Int)))) 0).toNat : Int), .int .u8 ((([48, 49, 50, 51, 52, 53, 54, 55, 56, 57, 97, 98, 99, 100, 101, 102] : List UInt8).getD (Int.toNat (Int.tmod (rd a0 x10) (16 : Int))) 0).toNat : Int)] : List Value)) (T := 5) ha rfl (([.int .u8 ((([48, 49, 50, 51, 52, 53, 54, 55, 56, 57, 97, 98, 99, 100, 101, 102] : List UInt8).getD (Int.toNat (IntKind.u8.wrap (Int.tdiv (rd a0 x10) (16 : Int)))) 0).toNat : Int)] : List Value) ++ (([.int .u8 ((([48, 49, 50, 51, 52, 53, 54, 55, 56, 57, 97, 98, 99, 100, 101, 102] : List UInt8).getD (Int.toNat (Int.tmod (rd a0 x10) (16 : Int))) 0).toNat : Int)] : List Value) ++ ([] : List Value))) (fun w => by kernel_rfl) rfl rfl rfl fun a w37 g38 hN39 ha => ?_
   have o1 : Ok [] (blkL ao8 ++ (M)) w18.heap.size := Ok.nil _ _
   have o2 : Ok ([g38] ++ (blkL ao8 ++ (M))) (blkL ao8 ++ (M)) w18.heap.size := (Ok.app (hN39.ok _) (Ok.refl _ _))
   have f1 := f1.chg hN39.chg o1 o2
   have f8 := f8.chg hN39.chg o1 o2 (fun _ _ h => nomatch h) (fun _ h => mr (ml h))
   have p_iD000040_i8 : ∀ x ∈ [g38], x ∉ (blkL ao8) := fun x hx hy => absurd (hM x (ml hy)) (Nat.not_lt.2 ((hN39.ge1) x hx))
   have p_iD000040_M : ∀ x ∈ [g38], x ∉ M := fun x hx hy => absurd (hM x (mr (hy))) (Nat.not_lt.2 ((hN39.ge1) x hx))
   have e_iD000040 : ∀ x ∈ [g38], w.heap.size ≤ x := fun x hx => Nat.le_trans hC.size ((hN39.ge1) x hx)
   have hM : MS ([g38] ++ (blkL ao8 ++ (M))) w37 := (MS.app hN39.ms (hM.chg hN39.chg))
   have hC := hC.trans hN39.chg (Ok.nil _ _)
   have d_iD000040 : Ok ([g38]) (blkL ao8) w7.heap.size := fun x hx => .inr (Nat.le_trans hS.size ((hN39.ge1) x hx))
   have hS := hS.trans hN39.chg (Ok.nil _ _)
   have f41 : Own (rInt .u8) 5 w37 ([g38] ++ (blkL ao8 ++ (M))) (some ⟨g38, 0, none⟩) 2 ([((([48, 49, 50, 51, 52, 53, 54, 55, 56, 57, 97, 98, 99, 100, 101, 102] : List UInt8).getD (Int.toNat (IntKind.u8.wrap (Int.tdiv (rd a0 x10) (16 : Int)))) 0).toNat : Int), ((([48, 49, 50, 51, 52, 53, 54, 55, 56, 57, 97, 98, 99, 100, 101, 102] : List UInt8).getD (Int.toNat (Int.tmod (rd a0 x10) (16 : Int))) 0).toNat : Int)] : List Int) := hN39.own ⟨([.int .u8 ((([48, 49, 50, 51, 52, 53, 54, 55, 56, 57, 97, 98, 99, 100, 101, 102] : List UInt8).getD (Int.toNat (IntKind.u8.wrap (Int.tdiv (rd a0 x10) (16 : Int)))) 0).toNat : Int)] : List Value), _, rfl, rfl, ⟨([.int .u8 ((([48, 49, 50, 51, 52, 53, 54, 55, 56, 57, 97, 98, 99, 100, 101, 102] : List UInt8).getD (Int.toNat (Int.tmod (rd a0 x10) (16 : Int))) 0).toNat : Int)] : List Value), _, rfl, rfl, rfl⟩⟩ (Nat.le_of_ble_eq_true rfl)
   refine ae hK36 hS ?_; clear hK36 K36
   refine ac 16 (by kernel_rfl) (by rfl) fun K42 hK42 => ?_
   obtain ⟨hx43, H⟩ := ite_some H
   refine app (r := (rInt .u8)) (xs := x9) (ys := ([((([48, 49, 50, 51, 52, 53, 54, 55, 56, 57, 97, 98, 99, 100, 101, 102] : List UInt8).getD (Int.toNat (IntKind.u8.wrap (Int.tdiv (rd a0 x10) (16 : Int)))) 0).toNat : Int), ((([48, 49, 50, 51, 52, 53, 54, 55, 56, 57, 97, 98, 99, 100, 101, 102] : List UInt8).getD (Int.toNat (Int.tmod (rd a0 x10) (16 : Int))) 0).toNat : Int)] : List Int)) ha (ElemT.mk' (bytes := 1) (by kernel_rfl)) rfl rfl rfl rfl rfl f8 f41.src hx43 (by decide) fun a w44 ao45 cap45 hO45 hc45 hk45 hl45 ha => ?_
   have o1 : Ok (blkL ao8) ([g38] ++ (blkL ao8 ++ (M))) w37.heap.size := (fun _ h => .inl (mr (ml h)))
   have o2 : Ok (blkL ao45 ++ ([g38] ++ (M))) ([g38] ++ (blkL ao8 ++ (M))) w37.heap.size := (Ok.app (Ok.to hk45 (fun _ h => mr (ml h))) (Ok.app (fun _ h => .inl (ml h)) (fun _ h => .inl (mr (mr (h))))))
   have f1 := f1.chg hc45 o1 o2
   have f41 := f41.chg hc45 o1 o2 p_iD000040_i8 (fun _ h => mr (ml h))
   have p_iD000045_iD000040 : ∀ x ∈ blkL ao45, x ∉ ([g38]) := fun x hx hy => (hk45 x hx).elim (fun h => (fun x hx hy => p_iD000040_i8 x hy hx) x h hy) (fun h => absurd (hM x (ml hy)) (Nat.not_lt.2 h))
   have p_iD000045_M : ∀ x ∈ blkL ao45, x ∉ M := fun x hx hy => (hk45 x hx).elim (fun h => p_i8_M x h hy) (fun h => absurd (hM x (mr (mr (hy)))) (Nat.not_lt.2 h))
   have e_iD000045 : ∀ x ∈ blkL ao45, w.heap.size ≤ x := fun x hx => (hk45 x hx).elim (e_i8 x) (Nat.le_trans hC.size)
   have hM : MS (blkL ao45 ++ ([g38] ++ (M))) w44 := (MS.app hl45 (MS.app (fun x h => hM.chg hc45 x (ml h)) (fun x h => hM.chg hc45 x (mr (mr (h))))))
   have hC := hC.trans hc45 (fun x h => .inr (e_i8 x h))
   have d_iD000045 : Ok (blkL ao45) (blkL ao8) w7.heap.size := fun x hx => (hk45 x hx).elim (fun h => .inl (h)) (fun h => .inr (Nat.le_trans hS.size h))
   have hS := hS.trans hc45 (fun x h => .inl (h))
   have f45 := hO45.chg (M' := blkL ao45 ++ ([g38] ++ (M))) (Chg.refl [] _) (Ok.nil _ _) (Ok.app (fun _ h => .inl (ml h)) (Ok.to (Ok.app (fun _ h => .inl (ml h)) (fun _ h => .inl (mr (mr (h))))) (fun _ h => mr h))) (fun _ _ h => nomatch h) (fun _ h => ml h)
   refine ae hK42 hS ?_; clear hK42 K42
   refine tkpz 17 0 (.slice ao45 (x9 ++ ([((([48, 49, 50, 51, 52, 53, 54, 55, 56, 57, 97, 98, 99, 100, 101, 102] : List UInt8).getD (Int.toNat (IntKind.u8.wrap (Int.tdiv (rd a0 x10) (16 : Int)))) 0).toNat : Int), ((([48, 49, 50, 51, 52, 53, 54, 55, 56, 57, 97, 98, 99, 100, 101, 102] : List UInt8).getD (Int.toNat (Int.tmod (rd a0 x10) (16 : Int))) 0).toNat : Int)] : List Int)).length cap45) ha (s := hS) (q := fun a ha => ?_)
   refine dn (by kernel_rfl) ?_
   refine hK17 _ _ ?_; try clear hK17 K17
   refine wp_region_lit ?_
   refine seg ha 3 [(0, .slice ao1 a0.length cap1), (3, .string (bstr ([48, 49, 50, 51, 52, 53, 54, 55, 56, 57, 97, 98, 99, 100, 101, 102] : List UInt8))), (4, .slice ao45 (x9 ++ ([((([48, 49, 50, 51, 52, 53, 54, 55, 56, 57, 97, 98, 99, 100, 101, 102] : List UInt8).getD (Int.toNat (IntKind.u8.wrap (Int.tdiv (rd a0 x10) (16 : Int)))) 0).toNat : Int), ((([48, 49, 50, 51, 52, 53, 54, 55, 56, 57, 97, 98, 99, 100, 101, 102] : List UInt8).getD (Int.toNat (Int.tmod (rd a0 x10) (16 : Int))) 0).toNat : Int)] : List Int)).length cap45), (5, .int .i64 (IntKind.i64.wrap (x10 + (1 : Int))))] (by kernel_rfl) fun a ha => ?_
   have o1 : Ok [] (blkL ao45 ++ ([g38] ++ (M))) w44.heap.size := Ok.nil _ _
   have o2 : Ok (blkL ao45 ++ (M)) (blkL ao45 ++ ([g38] ++ (M))) w44.heap.size := (Ok.app (fun _ h => .inl (ml h)) (fun _ h => .inl (mr (mr (h)))))
   have f1 := f1.chg (Chg.refl [] _) o1 o2
   have f45 := f45.chg (Chg.refl [] _) o1 o2 (fun _ _ h => nomatch h) (fun _ h => ml h)
   have hM : MS (blkL ao45 ++ (M)) w44 := (MS.app (fun x h => hM.chg (Chg.refl [] _) x (ml h)) (fun x h => hM.chg (Chg.refl [] _) x (mr (mr (h)))))
   have hC := hC.trans (Chg.refl [] _) (Ok.nil _ _)
   exact ⟨kk, Nat.lt_succ_self _, ⟨(x9 ++ ([((([48, 49, 50, 51, 52, 53, 54, 55, 56, 57, 97, 98, 99, 100, 101, 102] : List UInt8).getD (Int.toNat (IntKind.u8.wrap (Int.tdiv (rd a0 x10) (16 : Int)))) 0).toNat : Int), ((([48, 49, 50, 51, 52, 53, 54, 55, 56, 57, 97, 98, 99, 100, 101, 102] : List UInt8).getD (Int.toNat (Int.tmod (rd a0 x10) (16 : Int))) 0).toNat : Int)] : List Int)), IntKind.i64.wrap (x10 + (1 : Int)), ao45, cap45, H, (ha.sel (by kernel_rfl)), f1, f45, e_iD000045, p_iD000045_M, hC, hM⟩⟩
  ·have H := ite_f hc16 H
   refine wp_exit ?_
   simp only [Exit.then, Exit.inBlock, ↓reduceIte, Nat.reduceEqDiff]
   obtain rfl := Option.some.inj H
   exact J7 _ _ ao8 cap8 (ha.sel (by kernel_rfl)) f8 e_i8 p_i8_M hC hM
def vineryref02_Of.l0 (a0 : List Int) : Nat → Int → (List Int) → Option (List Int)
  | 0, _, _ => none
  | kk + 1, x24, x25 => (if (decide (x24 < (a0.length : Int))) = true then (if 0 ≤ x24 ∧ x24 < (a0.length : Int) then (if 0 ≤ x24 ∧ x24 < (16 : Int) then vineryref02_Of.l0 a0 kk (IntKind.i64.wrap (x24 + (1 : Int))) ((arL 16 x25).set (Int.toNat x24) (rd a0 x24)) else none) else none) else some (x25 : List Int))
def vineryref02_Of.f (k : Nat) (a0 : List Int) : Option (S_api_Addr × Int) := (if (if (if ((a0.length : Int) != (0 : Int)) = true then ((a0.length : Int) != (4 : Int)) else false) = true then ((a0.length : Int) != (16 : Int)) else false) = true then some (((⟨(0 : Int), (List.replicate 16 (0 : Int))⟩ : S_api_Addr) : S_api_Addr), ((1 : Int) : Int)) else (vineryref02_Of.l0 a0 k (0 : Int) (List.replicate 16 (0 : Int))).bind fun s23 => some (((⟨(a0.length : Int), s23⟩ : S_api_Addr) : S_api_Addr), ((0 : Int) : Int)))
set_option maxRecDepth 100000 in
theorem vineryref02_Of.walk (w : World) (M : List Nat) (hM : MS M w) (a0 : List Int) (ao1 : Option Addr) (cap1 : Nat) (f1 : RSl (rInt .u8) 5 w M ao1 cap1 a0) (k : Nat) (r : S_api_Addr × Int) (H : vineryref02_Of.f k a0 = some r) :
    To Tryz.prog 85 [.slice ao1 a0.length cap1] w fun v w' => v = .tuple #[.agg (cS_api_Addr r.1).toArray, .int .i64 r.2] ∧ Chg [] w w' ∧ MS (M) w' := by
 unfold vineryref02_Of.f at H
 refine ent Tryz.func85 rfl [(0, .slice ao1 a0.length cap1)] rfl (by rfl) fun a ha => ?_
 have hC : Chg [] w w := Chg.refl _ _
 refine wp_seq_k fun K2 hK2 => ?_
 refine wp_region_lit ?_
 refine al (cs := (cS_api_Addr (⟨(0 : Int), (List.replicate 16 (0 : Int))⟩ : S_api_Addr))) (z := .agg (cS_api_Addr (⟨(0 : Int), (List.replicate 16 (0 : Int))⟩ : S_api_Addr)).toArray) ha (fun w => by kernel_rfl) rfl rfl rfl rfl fun a w3 g4 hN5 ha => ?_
 have o1 : Ok [] (M) w.heap.size := Ok.nil _ _
 have o2 : Ok ([g4] ++ (M)) (M) w.heap.size := (Ok.app (hN5.ok _) (Ok.refl _ _))
 have f1 := f1.chg hN5.chg o1 o2
 have p_i6_M : ∀ x ∈ [g4], x ∉ M := fun x hx hy => absurd (hM x (hy)) (Nat.not_lt.2 ((hN5.ge1) x hx))
 have e_i6 : ∀ x ∈ [g4], w.heap.size ≤ x := fun x hx => Nat.le_trans hC.size ((hN5.ge1) x hx)
 have hM : MS ([g4] ++ (M)) w3 := (MS.app hN5.ms (hM.chg hN5.chg))
 have hC := hC.trans hN5.chg (Ok.nil _ _)
 have hBg4 : Box w3 g4 (cS_api_Addr (⟨(0 : Int), (List.replicate 16 (0 : Int))⟩ : S_api_Addr)) := hN5.box
 refine seg ha 1 [(0, .slice ao1 a0.length cap1), (2, .pointer (some ⟨g4, 0, none⟩))] (by kernel_rfl) fun a ha => ?_
 refine hK2 _ _ ?_; try clear hK2 K2
 refine wp_seq_k fun K7 hK7 => ?_
 refine wp_region_lit ?_
 refine al (cs := (cS_api_Addr (⟨(0 : Int), (List.replicate 16 (0 : Int))⟩ : S_api_Addr))) (z := .agg (cS_api_Addr (⟨(0 : Int), (List.replicate 16 (0 : Int))⟩ : S_api_Addr)).toArray) ha (fun w => by kernel_rfl) rfl rfl rfl rfl fun a w8 g9 hN10 ha => ?_
 have o1 : Ok [] ([g4] ++ (M)) w3.heap.size := Ok.nil _ _
 have o2 : Ok ([g9] ++ ([g4] ++ (M))) ([g4] ++ (M)) w3.heap.size := (Ok.app (hN10.ok _) (Ok.refl _ _))
 have f1 := f1.chg hN10.chg o1 o2
 have hBg4 := hBg4.chg hN10.chg (fun h => nomatch h)
 have p_i11_i6 : ∀ x ∈ [g9], x ∉ ([g4]) := fun x hx hy => absurd (hM x (ml hy)) (Nat.not_lt.2 ((hN10.ge1) x hx))
 have p_i11_M : ∀ x ∈ [g9], x ∉ M := fun x hx hy => absurd (hM x (mr (hy))) (Nat.not_lt.2 ((hN10.ge1) x hx))
 have e_i11 : ∀ x ∈ [g9], w.heap.size ≤ x := fun x hx => Nat.le_trans hC.size ((hN10.ge1) x hx)
 have hM : MS ([g9] ++ ([g4] ++ (M))) w8 := (MS.app hN10.ms (hM.chg hN10.chg))
 have hC := hC.trans hN10.chg (Ok.nil _ _)
 have hBg9 : Box w8 g9 (cS_api_Addr (⟨(0 : Int), (List.replicate 16 (0 : Int))⟩ : S_api_Addr)) := hN10.box
 refine hK7 _ _ ?_; try clear hK7 K7
 refine wp_seq_k fun K12 hK12 => ?_
 refine wp_seq_k fun K13 hK13 => ?_
 refine wp_region_lit ?_
 refine seg ha 13 [(0, .slice ao1 a0.length cap1), (2, .pointer (some ⟨g4, 0, none⟩)), (4, .pointer (some ⟨g9, 0, none⟩)), (18, .bool (if (if ((a0.length : Int) != (0 : Int)) = true then ((a0.length : Int) != (4 : Int)) else false) = true then ((a0.length : Int) != (16 : Int)) else false))] (by kernel_rfl) fun a ha => ?_
 refine hK13 _ _ ?_; try clear hK13 K13
 refine cnd ha rfl (fun hc14 => ?_) (fun hc14 => ?_)
 ·have H := ite_t hc14 H
  refine wp_seq_k fun K15 hK15 => ?_
  refine wp_region_lit ?_
  refine ldA (cs := (cS_api_Addr (⟨(0 : Int), (List.replicate 16 (0 : Int))⟩ : S_api_Addr))) ha rfl (by kernel_rfl) rfl rfl rfl (cells_sub (Box.cells hBg9) (all := (cS_api_Addr (⟨(0 : Int), (List.replicate 16 (0 : Int))⟩ : S_api_Addr))) [] [] (by kernel_rfl)) fun a ha => ?_
  refine stA (l := (cS_api_Addr (⟨(0 : Int), (List.replicate 16 (0 : Int))⟩ : S_api_Addr))) ha rfl rfl rfl (by kernel_rfl) rfl rfl hBg4 rfl fun a w16 ha hb2 hc17 _ => ?_
  have hBg9 := hBg9.chg hc17 (p_i11_i6 g9 (by simp))
  have hM : MS ([g9] ++ ([g4] ++ (M))) w16 := (hM.chg hc17)
  have hC := hC.trans hc17 (fun x h => .inr (e_i6 x h))
  have hBg4 : Box w16 g4 (cS_api_Addr (⟨(0 : Int), (List.replicate 16 (0 : Int))⟩ : S_api_Addr)) := hb2
  refine seg ha 1 [(2, .pointer (some ⟨g4, 0, none⟩)), (3, .int .i64 (1 : Int))] (by kernel_rfl) fun a ha => ?_
  refine hK15 _ _ ?_; try clear hK15 K15
  refine wp_ret ?_
  try simp only [Exit.then, Exit.inBlock]
  have hBg4 := hBg4.chg (Chg.refl [] _) (fun h => nomatch h)
  have hBg9 := hBg9.chg (Chg.refl [] _) (fun h => nomatch h)
  have hM : MS (M) w16 := (fun x h => hM.chg (Chg.refl [] _) x (mr (mr (h))))
  have hC := hC.trans (Chg.refl [] _) (Ok.nil _ _)
  obtain rfl := Option.some.inj H
  refine rtr ha (res2 rfl (roA ha rfl hBg4 (by kernel_rfl)) (roT ha rfl)) ?_
  exact ⟨rfl, hC, hM⟩
 ·have H := ite_f hc14 H
  refine wp_skip ?_
  refine hK12 _ _ ?_; try clear hK12 K12
  refine wp_seq_k fun K18 hK18 => ?_
  refine wp_region_lit ?_
  refine seg ha 3 [(0, .slice ao1 a0.length cap1), (2, .pointer (some ⟨g4, 0, none⟩)), (4, .pointer (some ⟨g9, 0, none⟩)), (21, .int .i64 (a0.length : Int)), (22, .pointer (some ⟨g9, 0, none⟩))] (by kernel_rfl) fun a ha => ?_
  refine st ha rfl rfl rfl (by kernel_rfl) rfl rfl hBg9 (Nat.le_of_ble_eq_true (by kernel_rfl)) fun a w19 ha hb2 hc20 _ => ?_
  have o1 : Ok [g9] ([g9] ++ ([g4] ++ (M))) w8.heap.size := (fun _ h => .inl (ml h))
  have o2 : Ok ([g9] ++ ([g4] ++ (M))) ([g9] ++ ([g4] ++ (M))) w8.heap.size := (Ok.refl _ _)
  have f1 := f1.chg hc20 o1 o2
  have hBg4 := hBg4.chg hc20 ((fun x (hx : x ∈ [g4]) (hy : x ∈ [g9]) => p_i11_i6 x hy hx) g4 (by simp))
  have hM : MS ([g9] ++ ([g4] ++ (M))) w19 := (hM.chg hc20)
  have hC := hC.trans hc20 (fun x h => .inr (e_i11 x h))
  have hBg9 : Box w19 g9 (cS_api_Addr (⟨(a0.length : Int), (List.replicate 16 (0 : Int))⟩ : S_api_Addr)) := hb2
  refine hK18 _ _ ?_; try clear hK18 K18
  refine wp_seq_k fun K21 hK21 => ?_
  refine wp_seq_k fun K22 hK22 => ?_
  refine wp_region_lit ?_
  refine seg ha 1 [(0, .slice ao1 a0.length cap1), (2, .pointer (some ⟨g4, 0, none⟩)), (4, .pointer (some ⟨g9, 0, none⟩)), (5, .int .i64 (0 : Int))] (by kernel_rfl) fun a ha => ?_
  refine hK22 _ _ ?_; try clear hK22 K22
  refine wp_block ?_
  obtain ⟨s23, H23, H⟩ := bind_some H
  have J23 : ∀ (a : Act) (wx23 : World), Has a Tryz.f85.ntmps [(2, .pointer (some ⟨g4, 0, none⟩)), (4, .pointer (some ⟨g9, 0, none⟩))] → (Box wx23 g4 (cS_api_Addr (⟨(0 : Int), (List.replicate 16 (0 : Int))⟩ : S_api_Addr))) → (Box wx23 g9 (cS_api_Addr (⟨(a0.length : Int), s23⟩ : S_api_Addr))) → (Chg [] w wx23) → (MS ([g9] ++ ([g4] ++ (M))) wx23) → K21 a wx23 := by
   intro a wx23 ha hBg4 hBg9 hC hM
   refine hK21 _ _ ?_; try clear hK21 K21
   refine wp_seq_k fun K26 hK26 => ?_
   refine wp_region_lit ?_
   refine ldA (cs := (cS_api_Addr (⟨(a0.length : Int), s23⟩ : S_api_Addr))) ha rfl (by kernel_rfl) rfl rfl rfl (cells_sub (Box.cells hBg9) (all := (cS_api_Addr (⟨(a0.length : Int), s23⟩ : S_api_Addr))) [] [] (by kernel_rfl)) fun a ha => ?_
   refine stA (l := (cS_api_Addr (⟨(a0.length : Int), s23⟩ : S_api_Addr))) ha rfl rfl rfl (by kernel_rfl) rfl rfl hBg4 rfl fun a w27 ha hb2 hc28 _ => ?_
   have hBg9 := hBg9.chg hc28 (p_i11_i6 g9 (by simp))
   have hM : MS ([g9] ++ ([g4] ++ (M))) w27 := (hM.chg hc28)
   have hC := hC.trans hc28 (fun x h => .inr (e_i6 x h))
   have hBg4 : Box w27 g4 (cS_api_Addr (⟨(a0.length : Int), s23⟩ : S_api_Addr)) := hb2
   refine seg ha 1 [(2, .pointer (some ⟨g4, 0, none⟩)), (3, .int .i64 (0 : Int))] (by kernel_rfl) fun a ha => ?_
   refine hK26 _ _ ?_; try clear hK26 K26
   refine wp_ret ?_
   try simp only [Exit.then, Exit.inBlock]
   have hBg4 := hBg4.chg (Chg.refl [] _) (fun h => nomatch h)
   have hBg9 := hBg9.chg (Chg.refl [] _) (fun h => nomatch h)
   have hM : MS (M) w27 := (fun x h => hM.chg (Chg.refl [] _) x (mr (mr (h))))
   have hC := hC.trans (Chg.refl [] _) (Ok.nil _ _)
   obtain rfl := Option.some.inj H
   refine rtr ha (res2 rfl (roA ha rfl hBg4 (by kernel_rfl)) (roT ha rfl)) ?_
   exact ⟨rfl, hC, hM⟩
  have Hc23 := H
  have H := H23
  refine wp_loop_ghost (fun kk a w23 => ∃ (x24 : Int) (x25 : List Int), vineryref02_Of.l0 a0 kk x24 x25 = some s23 ∧ Has a Tryz.f85.ntmps [(0, .slice ao1 a0.length cap1), (2, .pointer (some ⟨g4, 0, none⟩)), (4, .pointer (some ⟨g9, 0, none⟩)), (5, .int .i64 x24)] ∧ (RSl (rInt .u8) 5 w23 ([g9] ++ ([g4] ++ (M))) ao1 cap1 a0) ∧ (Box w23 g4 (cS_api_Addr (⟨(0 : Int), (List.replicate 16 (0 : Int))⟩ : S_api_Addr))) ∧ (Box w23 g9 (cS_api_Addr (⟨(a0.length : Int), x25⟩ : S_api_Addr))) ∧ (Chg [] w w23) ∧ (MS ([g9] ++ ([g4] ++ (M))) w23)) k ?_ ?_
  ·skip
   exact ⟨(0 : Int), (List.replicate 16 (0 : Int)), H, (ha.sel (by kernel_rfl)), f1, hBg4, hBg9, hC, hM⟩
  ·rintro kk a w23 ⟨x24, x25, H, ha, f1, hBg4, hBg9, hC, hM⟩
   obtain _ | kk := kk
   ·exact nomatch (show none = some _ from H)
   rw [vineryref02_Of.l0] at H
   refine wp_seq_k fun K29 hK29 => ?_
   refine wp_seq_k fun K30 hK30 => ?_
   refine wp_region_lit ?_
   refine seg ha 4 [(0, .slice ao1 a0.length cap1), (2, .pointer (some ⟨g4, 0, none⟩)), (4, .pointer (some ⟨g9, 0, none⟩)), (5, .int .i64 x24), (26, .bool (decide (x24 < (a0.length : Int))))] (by kernel_rfl) fun a ha => ?_
   refine hK30 _ _ ?_; try clear hK30 K30
   refine cnd ha rfl (fun hc31 => ?_) (fun hc31 => ?_)
   ·have H := ite_t hc31 H
    refine wp_skip ?_
    refine hK29 _ _ ?_; try clear hK29 K29
    refine wp_seq_k fun K32 hK32 => ?_
    refine wp_block ?_
    refine wp_region_lit ?_
    refine seg ha 3 [(0, .slice ao1 a0.length cap1), (2, .pointer (some ⟨g4, 0, none⟩)), (4, .pointer (some ⟨g9, 0, none⟩)), (5, .int .i64 x24), (29, .int .i64 x24), (30, .slice ao1 a0.length cap1), (31, .int .i64 x24)] (by kernel_rfl) fun a ha => ?_
    obtain ⟨⟨hx33, hx33'⟩, H⟩ := ite_some H
    refine ix (r := (rInt .u8)) ha (by kernel_rfl) (by kernel_rfl) rfl rfl rfl rfl rfl f1 hx33 hx33' fun a ge34 oe35 cs36 hn39 hR37 hE38 ha => ?_
    rw [rd_get] at hR37
    obtain rfl := hR37
    have hE38 : ∀ j v, ([.int .u8 (rd a0 x24)] : List Value)[j]? = some v → w23.cell? ⟨ge34, oe35 + j, none⟩ = some v := hE38
    refine ld ha rfl (by kernel_rfl) rfl rfl rfl (hE38 0 (.int .u8 (rd a0 x24)) (by kernel_rfl)) fun a ha => ?_
    refine seg ha 1 [(0, .slice ao1 a0.length cap1), (2, .pointer (some ⟨g4, 0, none⟩)), (4, .pointer (some ⟨g9, 0, none⟩)), (5, .int .i64 x24), (29, .int .i64 x24), (33, .int .u8 (rd a0 x24)), (34, .pointer (some ⟨g9, 1, none⟩))] (by kernel_rfl) fun a ha => ?_
    obtain ⟨⟨hx40, hx40'⟩, H⟩ := ite_some H
    have hi40 : (Int.toNat x24) < 16 := by omega
    refine hop (v := .pointer (some ⟨g9, 1 + (Int.toNat x24), none⟩)) (w' := w23) ha rfl rfl rfl (ixA_run (T := 5) (N := 16) (g := g9) (o' := 1) (k := .i64) (i := x24) ha (by kernel_rfl) (by kernel_rfl) (by rfl) (by rfl) hx40 hx40' _) fun a ha => ?_
    refine st (o' := 1 + (Int.toNat x24)) ha rfl rfl rfl (by kernel_rfl) rfl rfl hBg9 (arr_lt (k := .u8) (m := 16) (x := x25) ([.int .i64 (a0.length : Int)] : List Value) ([] : List Value) (by kernel_rfl) hi40) fun a w41 ha hb2 hc42 _ => ?_
    have o1 : Ok [g9] ([g9] ++ ([g4] ++ (M))) w23.heap.size := (fun _ h => .inl (ml h))
    have o2 : Ok ([g9] ++ ([g4] ++ (M))) ([g9] ++ ([g4] ++ (M))) w23.heap.size := (Ok.refl _ _)
    have f1 := f1.chg hc42 o1 o2
    have hBg4 := hBg4.chg hc42 ((fun x (hx : x ∈ [g4]) (hy : x ∈ [g9]) => p_i11_i6 x hy hx) g4 (by simp))
    have hM : MS ([g9] ++ ([g4] ++ (M))) w41 := (hM.chg hc42)
    have hC := hC.trans hc42 (fun x h => .inr (e_i11 x h))
    have hBg9 : Box w41 g9 (cS_api_Addr (⟨(a0.length : Int), ((arL 16 x25).set (Int.toNat x24) (rd a0 x24))⟩ : S_api_Addr)) := Box.setA (k := .u8) (m := 16) (x := x25) ([.int .i64 (a0.length : Int)] : List Value) ([] : List Value) hb2 (by kernel_rfl) hi40 (by kernel_rfl)
    refine hK32 _ _ ?_; try clear hK32 K32
    refine wp_region_lit ?_
    refine seg ha 3 [(0, .slice ao1 a0.length cap1), (2, .pointer (some ⟨g4, 0, none⟩)), (4, .pointer (some ⟨g9, 0, none⟩)), (5, .int .i64 (IntKind.i64.wrap (x24 + (1 : Int))))] (by kernel_rfl) fun a ha => ?_
    exact ⟨kk, Nat.lt_succ_self _, ⟨IntKind.i64.wrap (x24 + (1 : Int)), ((arL 16 x25).set (Int.toNat x24) (rd a0 x24)), H, (ha.sel (by kernel_rfl)), f1, hBg4, hBg9, hC, hM⟩⟩
   ·have H := ite_f hc31 H
    refine wp_exit ?_
    simp only [Exit.then, Exit.inBlock, ↓reduceIte, Nat.reduceEqDiff]
    obtain rfl := Option.some.inj H
    exact J23 _ _ (ha.sel (by kernel_rfl)) hBg4 hBg9 hC hM
def vineryref03_Named.f (k : Nat) (a0 : List UInt8) (a1 : Int) (a2 : Int) (a3 : Bool) : Option (List UInt8) := (vineryref02_Number.f k a1 (10 : Int)).bind fun t3 => ((if a3 = true then (vineryref01_Bytes.f k a1 (4 : Int)).bind fun t15 => (vineryref02_Of.f k t15).bind fun t17 => (vineryref02_Text.f k t17.1).bind fun t24 => some (t24 : List UInt8) else some (t3 : List UInt8))).bind fun s5 => (if (a0 ++ ([58] : List UInt8)).length ≤ 9223372036854775807 then (if ((a0 ++ ([58] : List UInt8)) ++ s5).length ≤ 9223372036854775807 then (if (((a0 ++ ([58] : List UInt8)) ++ s5) ++ ([58] : List UInt8)).length ≤ 9223372036854775807 then (vineryref02_Number.f k a2 (10 : Int)).bind fun t10 => (if ((((a0 ++ ([58] : List UInt8)) ++ s5) ++ ([58] : List UInt8)) ++ t10).length ≤ 9223372036854775807 then some (((((a0 ++ ([58] : List UInt8)) ++ s5) ++ ([58] : List UInt8)) ++ t10 : List UInt8)) else none) else none) else none) else none)
set_option maxRecDepth 100000 in
theorem vineryref03_Named.walk (w : World) (M : List Nat) (hM : MS M w) (a0 : List UInt8) (a1 : Int) (a2 : Int) (a3 : Bool) (k : Nat) (r : List UInt8) (H : vineryref03_Named.f k a0 a1 a2 a3 = some r) :
    To Tryz.prog 45 [.string (bstr a0), .int .i64 a1, .int .i64 a2, .bool a3] w fun v w' => v = .string (bstr r) ∧ Chg [] w w' ∧ MS (M) w' := by
 unfold vineryref03_Named.f at H
 refine ent Tryz.func45 rfl [(0, .string (bstr a0)), (1, .int .i64 a1), (2, .int .i64 a2), (3, .bool a3)] rfl (by rfl) fun a ha => ?_
 have hC : Chg [] w w := Chg.refl _ _
 refine wp_seq_k fun K1 hK1 => ?_
 refine wp_region_lit ?_
 refine seg ha 1 [(0, .string (bstr a0)), (1, .int .i64 a1), (2, .int .i64 a2), (3, .bool a3)] (by kernel_rfl) fun a ha => ?_
 refine hK1 _ _ ?_; try clear hK1 K1
 refine wp_seq_k fun K2 hK2 => ?_
 refine wp_region_lit ?_
 refine seg ha 1 [(0, .string (bstr a0)), (1, .int .i64 a1), (2, .int .i64 a2), (3, .bool a3), (12, .int .i64 a1)] (by kernel_rfl) fun a ha => ?_
 obtain ⟨t3, H3, H⟩ := bind_some H
 refine cl ha (by rfl) (by kernel_rfl) (by rfl) (by rfl) (by rfl) (vineryref02_Number.walk w _ hM a1 (10 : Int) k _ H3) ?_
 rintro _ w3 ⟨rfl, hc3, hMn⟩ a ha
 have hM : MS (M) w3 := (hM.chg hc3)
 have hC := hC.trans hc3 (Ok.nil _ _)
 refine seg ha 1 [(0, .string (bstr a0)), (1, .int .i64 a1), (2, .int .i64 a2), (3, .bool a3), (9, .string (bstr t3))] (by kernel_rfl) fun a ha => ?_
 refine hK2 _ _ ?_; try clear hK2 K2
 refine wp_seq_k fun K4 hK4 => ?_
 obtain ⟨s5, H5, H⟩ := bind_some H
 have J5 : ∀ (a : Act) (w5 : World), Has a Tryz.f45.ntmps [(0, .string (bstr a0)), (2, .int .i64 a2), (9, .string (bstr s5))] → (Chg [] w w5) → (MS (M) w5) → K4 a w5 := by
  intro a w5 ha hC hM
  refine hK4 _ _ ?_; try clear hK4 K4
  refine wp_seq_k fun K6 hK6 => ?_
  refine wp_region_lit ?_
  refine seg ha 1 [(2, .int .i64 a2), (9, .string (bstr s5)), (23, .string (bstr a0))] (by kernel_rfl) fun a ha => ?_
  obtain ⟨hx7, H⟩ := ite_some H
  refine sadd ha rfl rfl rfl rfl rfl hx7 fun a ha => ?_
  refine seg ha 1 [(2, .int .i64 a2), (24, .string (bstr (a0 ++ ([58] : List UInt8)))), (25, .string (bstr s5))] (by kernel_rfl) fun a ha => ?_
  obtain ⟨hx8, H⟩ := ite_some H
  refine sadd ha rfl rfl rfl rfl rfl hx8 fun a ha => ?_
  obtain ⟨hx9, H⟩ := ite_some H
  refine sadd ha rfl rfl rfl rfl rfl hx9 fun a ha => ?_
  refine seg ha 1 [(27, .string (bstr (((a0 ++ ([58] : List UInt8)) ++ s5) ++ ([58] : List UInt8)))), (28, .int .i64 a2)] (by kernel_rfl) fun a ha => ?_
  obtain ⟨t10, H10, H⟩ := bind_some H
  refine cl ha (by rfl) (by kernel_rfl) (by rfl) (by rfl) (by rfl) (vineryref02_Number.walk w5 _ hM a2 (10 : Int) k _ H10) ?_
  rintro _ w10 ⟨rfl, hc10, hMn⟩ a ha
  have hM : MS (M) w10 := (hM.chg hc10)
  have hC := hC.trans hc10 (Ok.nil _ _)
  obtain ⟨hx11, H⟩ := ite_some H
  refine sadd ha rfl rfl rfl rfl rfl hx11 fun a ha => ?_
  refine seg ha 1 [(8, .string (bstr ((((a0 ++ ([58] : List UInt8)) ++ s5) ++ ([58] : List UInt8)) ++ t10)))] (by kernel_rfl) fun a ha => ?_
  refine hK6 _ _ ?_; try clear hK6 K6
  refine wp_ret ?_
  try simp only [Exit.then, Exit.inBlock]
  obtain rfl := Option.some.inj H
  refine rt1 ha rfl rfl ?_
  exact ⟨rfl, hC, hM⟩
 have H := H5
 refine wp_seq_k fun K12 hK12 => ?_
 refine wp_region_lit ?_
 refine seg ha 1 [(0, .string (bstr a0)), (1, .int .i64 a1), (2, .int .i64 a2), (9, .string (bstr t3)), (14, .bool a3)] (by kernel_rfl) fun a ha => ?_
 refine hK12 _ _ ?_; try clear hK12 K12
 refine cnd ha rfl (fun hc13 => ?_) (fun hc13 => ?_)
 ·have H := ite_t hc13 H
  refine wp_seq_k fun K14 hK14 => ?_
  refine wp_region_lit ?_
  refine seg ha 1 [(0, .string (bstr a0)), (2, .int .i64 a2), (16, .int .i64 a1)] (by kernel_rfl) fun a ha => ?_
  obtain ⟨t15, H15, H⟩ := bind_some H
  refine cl ha (by rfl) (by kernel_rfl) (by rfl) (by rfl) (by rfl) (vineryref01_Bytes.walk w3 _ hM a1 (4 : Int) k _ H15) ?_
  rintro _ w15 ⟨ao16, cap16, rfl, f16, ne_i16, hc15, hMn⟩ a ha
  have p_i16_M : ∀ x ∈ blkL ao16, x ∉ M := fun x hx hy => absurd (hM x (hy)) (Nat.not_lt.2 (ne_i16 x hx))
  have e_i16 : ∀ x ∈ blkL ao16, w.heap.size ≤ x := fun x hx => Nat.le_trans hC.size (ne_i16 x hx)
  have hM : MS (blkL ao16 ++ (M)) w15 := (MS.app (fun x h => hMn x (ml h)) (hM.chg hc15))
  have hC := hC.trans hc15 (Ok.nil _ _)
  have hML : MS (M) w15 := MS.rest hM (fun _ h => mr (h))
  have oL : Ok (M) (blkL ao16 ++ (M)) w15.heap.size := (fun _ h => .inl (mr (h)))
  obtain ⟨t17, H17, H⟩ := bind_some H
  refine cl ha (by rfl) (by kernel_rfl) (by rfl) (by rfl) (by rfl) (vineryref02_Of.walk w15 _ hML t15 ao16 cap16 (Own.toRSl (M' := M) f16 oL (fun x hx hm => p_i16_M x hx hm)) k _ H17) ?_
  rintro _ w17 ⟨rfl, hc17, hMn⟩ a ha
  have o1 : Ok [] (blkL ao16 ++ (M)) w15.heap.size := Ok.nil _ _
  have o2 : Ok (blkL ao16 ++ (M)) (blkL ao16 ++ (M)) w15.heap.size := (Ok.refl _ _)
  have f16 := f16.chg hc17 o1 o2 (fun _ _ h => nomatch h) (fun _ h => ml h)
  have hM : MS (blkL ao16 ++ (M)) w17 := (hM.chg hc17)
  have hC := hC.trans hc17 (Ok.nil _ _)
  refine seg ha 3 [(0, .string (bstr a0)), (2, .int .i64 a2), (19, .agg (cS_api_Addr t17.1).toArray), (20, .int .i64 t17.2)] (by kernel_rfl) fun a ha => ?_
  refine al (cs := (cS_api_Addr (⟨(0 : Int), (List.replicate 16 (0 : Int))⟩ : S_api_Addr))) (z := .agg (cS_api_Addr (⟨(0 : Int), (List.replicate 16 (0 : Int))⟩ : S_api_Addr)).toArray) ha (fun w => by kernel_rfl) rfl rfl rfl rfl fun a w18 g19 hN20 ha => ?_
  have p_i21_i16 : ∀ x ∈ [g19], x ∉ (blkL ao16) := fun x hx hy => absurd (hM x (ml hy)) (Nat.not_lt.2 ((hN20.ge1) x hx))
  have p_i21_M : ∀ x ∈ [g19], x ∉ M := fun x hx hy => absurd (hM x (mr (hy))) (Nat.not_lt.2 ((hN20.ge1) x hx))
  have e_i21 : ∀ x ∈ [g19], w.heap.size ≤ x := fun x hx => Nat.le_trans hC.size ((hN20.ge1) x hx)
  have hM : MS ([g19] ++ (blkL ao16 ++ (M))) w18 := (MS.app hN20.ms (hM.chg hN20.chg))
  have hC := hC.trans hN20.chg (Ok.nil _ _)
  have hBg19 : Box w18 g19 (cS_api_Addr (⟨(0 : Int), (List.replicate 16 (0 : Int))⟩ : S_api_Addr)) := hN20.box
  refine stA (l := (cS_api_Addr t17.1)) ha rfl rfl rfl (by kernel_rfl) rfl rfl hBg19 rfl fun a w22 ha hb2 hc23 _ => ?_
  have hM : MS ([g19] ++ (blkL ao16 ++ (M))) w22 := (hM.chg hc23)
  have hC := hC.trans hc23 (fun x h => .inr (e_i21 x h))
  have hBg19 : Box w22 g19 (cS_api_Addr t17.1) := hb2
  refine seg ha 1 [(0, .string (bstr a0)), (2, .int .i64 a2), (10, .pointer (some ⟨g19, 0, none⟩))] (by kernel_rfl) fun a ha => ?_
  refine hK14 _ _ ?_; try clear hK14 K14
  refine wp_region_lit ?_
  refine ldA (cs := (cS_api_Addr t17.1)) ha rfl (by kernel_rfl) rfl rfl rfl (cells_sub (Box.cells hBg19) (all := (cS_api_Addr t17.1)) [] [] (by kernel_rfl)) fun a ha => ?_
  obtain ⟨t24, H24, H⟩ := bind_some H
  refine cl ha (by rfl) (by kernel_rfl) (by rfl) (by rfl) (by rfl) (vineryref02_Text.walk w22 _ hM t17.1 k _ H24) ?_
  rintro _ w24 ⟨rfl, hc24, hMn⟩ a ha
  have hBg19 := hBg19.chg hc24 (fun h => nomatch h)
  have hM : MS ([g19] ++ (blkL ao16 ++ (M))) w24 := (hM.chg hc24)
  have hC := hC.trans hc24 (Ok.nil _ _)
  refine seg ha 1 [(0, .string (bstr a0)), (2, .int .i64 a2), (9, .string (bstr t24))] (by kernel_rfl) fun a ha => ?_
  obtain rfl := Option.some.inj H
  have hBg19 := hBg19.chg (Chg.refl [] _) (fun h => nomatch h)
  have hM : MS (M) w24 := (fun x h => hM.chg (Chg.refl [] _) x (mr (mr (h))))
  have hC := hC.trans (Chg.refl [] _) (Ok.nil _ _)
  exact J5 _ _ (ha.sel (by kernel_rfl)) hC hM
 ·have H := ite_f hc13 H
  refine wp_skip ?_
  obtain rfl := Option.some.inj H
  exact J5 _ _ (ha.sel (by kernel_rfl)) hC hM
def vineryref03_Text.f (k : Nat) (a0 : List Int) : Option (List UInt8) := (vineryref03_Parts.f k a0).bind fun t8 => (if (!t8.2.2.2) = true then (vineryref03_Hex.f k (arL 8 a0)).bind fun t14 => (if (([63, 58] : List UInt8) ++ t14).length ≤ 9223372036854775807 then some ((([63, 58] : List UInt8) ++ t14 : List UInt8)) else none) else (vineryref02_Number.f k t8.1 (10 : Int)).bind fun t17 => (vineryref03_Named.f k t17 t8.2.1 t8.2.2.1 (t8.1 == (1 : Int))).bind fun t18 => some ((t18 : List UInt8)))
set_option maxRecDepth 100000 in
theorem vineryref03_Text.walk (w : World) (M : List Nat) (hM : MS M w) (a0 : List Int) (k : Nat) (r : List UInt8) (H : vineryref03_Text.f k a0 = some r) :
    To Tryz.prog 12 [.agg (cA .u8 8 a0).toArray] w fun v w' => v = .string (bstr r) ∧ Chg [] w w' ∧ MS (M) w' := by
 unfold vineryref03_Text.f at H
 refine ent Tryz.func12 rfl [(0, .agg (cA .u8 8 a0).toArray)] rfl (by rfl) fun a ha => ?_
 have hC : Chg [] w w := Chg.refl _ _
 refine wp_seq_k fun K1 hK1 => ?_
 refine wp_region_lit ?_
 refine bx (cs := (cA .u8 8 a0)) ha rfl rfl rfl rfl rfl fun a w2 g3 hN4 ha => ?_
 have hn6 := hN4.notin hM
 have hM : MS (M) w2 := (hM.chg hN4.chg)
 have hC := hC.trans hN4.chg (Ok.nil _ _)
 have hE5 : ∀ j v, (cA .u8 8 a0)[j]? = some v → w2.cell? ⟨g3, 0 + j, none⟩ = some v := Box.cells (New.box hN4)
 refine seg ha 1 [(1, .pointer (some ⟨g3, 0, none⟩))] (by kernel_rfl) fun a ha => ?_
 refine hK1 _ _ ?_; try clear hK1 K1
 refine wp_seq_k fun K7 hK7 => ?_
 refine wp_region_lit ?_
 refine ldA (cs := (cA .u8 8 a0)) ha rfl (by kernel_rfl) rfl rfl rfl (cells_sub hE5 (all := (cA .u8 8 a0)) [] [] (by kernel_rfl)) fun a ha => ?_
 obtain ⟨t8, H8, H⟩ := bind_some H
 refine cl ha (by rfl) (by kernel_rfl) (by rfl) (by rfl) (by rfl) (vineryref03_Parts.walk w2 _ hM a0 k _ H8) ?_
 rintro _ w8 ⟨rfl, hc8, hMn⟩ a ha
 have o1 : Ok [] (M) w2.heap.size := Ok.nil _ _
 have o2 : Ok (M) (M) w2.heap.size := (Ok.refl _ _)
 have q_hn6 : g3 ∉ M := fun h => (o2 g3 h).elim hn6 (fun h => absurd (lt_cell (hE5 0 _ rfl)) (Nat.not_lt.2 h))
 have hE5 : ∀ j v, (cA .u8 8 a0)[j]? = some v → w8.cell? ⟨g3, 0 + j, none⟩ = some v := fun j v hv => (cell_keep hc8 o1 hn6 (hE5 j v hv))
 have hn6 := q_hn6
 have hM : MS (M) w8 := (hM.chg hc8)
 have hC := hC.trans hc8 (Ok.nil _ _)
 refine seg ha 9 [(1, .pointer (some ⟨g3, 0, none⟩)), (3, .int .i64 t8.1), (4, .int .i64 t8.2.1), (5, .int .i64 t8.2.2.1), (6, .bool t8.2.2.2)] (by kernel_rfl) fun a ha => ?_
 refine hK7 _ _ ?_; try clear hK7 K7
 refine wp_seq_k fun K9 hK9 => ?_
 refine wp_seq_k fun K10 hK10 => ?_
 refine wp_region_lit ?_
 refine seg ha 2 [(1, .pointer (some ⟨g3, 0, none⟩)), (3, .int .i64 t8.1), (4, .int .i64 t8.2.1), (5, .int .i64 t8.2.2.1), (15, .bool (!t8.2.2.2))] (by kernel_rfl) fun a ha => ?_
 refine hK10 _ _ ?_; try clear hK10 K10
 refine cnd ha rfl (fun hc11 => ?_) (fun hc11 => ?_)
 ·have H := ite_t hc11 H
  refine wp_seq_k fun K12 hK12 => ?_
  refine wp_region_lit ?_
  have f13 : RSl (rInt .u8) 5 w8 (M) (some ⟨g3, 0 + 0, none⟩) 8 (arL 8 a0) := RSl.ofA [] [] hE5 hn6 (by kernel_rfl) rfl
  refine opk (v := .slice (some ⟨g3, 0 + 0, none⟩) (arL 8 a0).length 8) ha rfl rfl rfl rfl rfl (fun w => by kernel_rfl) fun a ha => ?_
  obtain ⟨t14, H14, H⟩ := bind_some H
  refine cl ha (by rfl) (by kernel_rfl) (by rfl) (by rfl) (by rfl) (vineryref03_Hex.walk w8 _ hM (arL 8 a0) (some ⟨g3, 0 + 0, none⟩) 8 f13 k _ H14) ?_
  rintro _ w14 ⟨rfl, hc14, hMn⟩ a ha
  have o1 : Ok [] (M) w8.heap.size := Ok.nil _ _
  have o2 : Ok (M) (M) w8.heap.size := (Ok.refl _ _)
  have f13 := f13.chg hc14 o1 o2
  have hM : MS (M) w14 := (hM.chg hc14)
  have hC := hC.trans hc14 (Ok.nil _ _)
  obtain ⟨hx15, H⟩ := ite_some H
  refine sadd ha rfl rfl rfl rfl rfl hx15 fun a ha => ?_
  refine seg ha 1 [(2, .string (bstr (([63, 58] : List UInt8) ++ t14)))] (by kernel_rfl) fun a ha => ?_
  refine hK12 _ _ ?_; try clear hK12 K12
  refine wp_ret ?_
  try simp only [Exit.then, Exit.inBlock]
  obtain rfl := Option.some.inj H
  refine rt1 ha rfl rfl ?_
  exact ⟨rfl, hC, hM⟩
 ·have H := ite_f hc11 H
  refine wp_skip ?_
  refine hK9 _ _ ?_; try clear hK9 K9
  refine wp_seq_k fun K16 hK16 => ?_
  refine wp_region_lit ?_
  refine seg ha 1 [(3, .int .i64 t8.1), (4, .int .i64 t8.2.1), (5, .int .i64 t8.2.2.1), (19, .int .i64 t8.1)] (by kernel_rfl) fun a ha => ?_
  obtain ⟨t17, H17, H⟩ := bind_some H
  refine cl ha (by rfl) (by kernel_rfl) (by rfl) (by rfl) (by rfl) (vineryref02_Number.walk w8 _ hM t8.1 (10 : Int) k _ H17) ?_
  rintro _ w17 ⟨rfl, hc17, hMn⟩ a ha
  have hM : MS (M) w17 := (hM.chg hc17)
  have hC := hC.trans hc17 (Ok.nil _ _)
  refine seg ha 4 [(20, .string (bstr t17)), (21, .int .i64 t8.2.1), (22, .int .i64 t8.2.2.1), (24, .bool (t8.1 == (1 : Int)))] (by kernel_rfl) fun a ha => ?_
  obtain ⟨t18, H18, H⟩ := bind_some H
  refine cl ha (by rfl) (by kernel_rfl) (by rfl) (by rfl) (by rfl) (vineryref03_Named.walk w17 _ hM t17 t8.2.1 t8.2.2.1 (t8.1 == (1 : Int)) k _ H18) ?_
  rintro _ w18 ⟨rfl, hc18, hMn⟩ a ha
  have hM : MS (M) w18 := (hM.chg hc18)
  have hC := hC.trans hc18 (Ok.nil _ _)
  refine seg ha 1 [(2, .string (bstr t18))] (by kernel_rfl) fun a ha => ?_
  refine hK16 _ _ ?_; try clear hK16 K16
  refine wp_ret ?_
  try simp only [Exit.then, Exit.inBlock]
  obtain rfl := Option.some.inj H
  refine rt1 ha rfl rfl ?_
  exact ⟨rfl, hC, hM⟩
def vineryref03_Parse.f (k : Nat) (a0 : List UInt8) : Option (List Int × Int) := (if (decide (((bstr a0).size : Int) > (40 : Int))) = true then some ((([(0 : Int), (0 : Int), (0 : Int), (0 : Int), (0 : Int), (0 : Int), (0 : Int), (0 : Int)] : List Int) : List Int), ((4 : Int) : Int)) else (vineryref03_split.f k a0).bind fun t13 => ((if ((t13.length : Int) == (2 : Int)) = true then (if 0 ≤ (1 : Int) ∧ (1 : Int) < (t13.length : Int) then (vineryref03_Unhex.f k (rd t13 (1 : Int))).bind fun t88 => (vineryref03_Of.f k t88).bind fun t90 => some (t90 : List Int) else none) else some ((List.replicate 8 (0 : Int)) : List Int))).bind fun s21 => lv (S := (List Int)) ((if ((t13.length : Int) == (3 : Int)) = true then (if 0 ≤ (0 : Int) ∧ (0 : Int) < (t13.length : Int) then (vineryref02_Digits.f k (rd t13 (0 : Int)) (10 : Int) (1 : Int)).bind fun t44 => (if 0 ≤ (1 : Int) ∧ (1 : Int) < (t13.length : Int) then (if 0 ≤ (2 : Int) ∧ (2 : Int) < (t13.length : Int) then (vineryref03_Numbers.f k (rd t13 (1 : Int)) (rd t13 (2 : Int)) (t44 == (1 : Int))).bind fun t60 => (vineryref03_Make.f k t44 t60.1 t60.2.1).bind fun t64 => (if (if (!t60.2.2) = true then true else (t64.2 != (0 : Int))) = true then some (.inl (some ((([(0 : Int), (0 : Int), (0 : Int), (0 : Int), (0 : Int), (0 : Int), (0 : Int), (0 : Int)] : List Int) : List Int), ((4 : Int) : Int)))) else some (.inr ((t64.1 : List Int)))) else none) else none) else none) else some (.inr ((s21 : List Int))))) fun s23 => (vineryref03_Text.f k s23).bind fun t26 => (if (!((bstr t26).toList == (bstr a0).toList)) = true then some ((([(0 : Int), (0 : Int), (0 : Int), (0 : Int), (0 : Int), (0 : Int), (0 : Int), (0 : Int)] : List Int) : List Int), ((4 : Int) : Int)) else some ((s23 : List Int), ((0 : Int) : Int))))
set_option maxRecDepth 100000 in
theorem vineryref03_Parse.walk (w : World) (M : List Nat) (hM : MS M w) (a0 : List UInt8) (k : Nat) (r : List Int × Int) (H : vineryref03_Parse.f k a0 = some r) :
    To Tryz.prog 10 [.string (bstr a0)] w fun v w' => v = .tuple #[.agg (cA .u8 8 r.1).toArray, .int .i64 r.2] ∧ Chg [] w w' ∧ MS (M) w' := by
 unfold vineryref03_Parse.f at H
 refine ent Tryz.func10 rfl [(0, .string (bstr a0))] rfl (by rfl) fun a ha => ?_
 have hC : Chg [] w w := Chg.refl _ _
 refine wp_seq_k fun K1 hK1 => ?_
 refine wp_region_lit ?_
 refine al (cs := (cA .u8 8 (List.replicate 8 (0 : Int)))) (z := .agg (cA .u8 8 (List.replicate 8 (0 : Int))).toArray) ha (fun w => by kernel_rfl) rfl rfl rfl rfl fun a w2 g3 hN4 ha => ?_
 have p_i5_M : ∀ x ∈ [g3], x ∉ M := fun x hx hy => absurd (hM x (hy)) (Nat.not_lt.2 ((hN4.ge1) x hx))
 have e_i5 : ∀ x ∈ [g3], w.heap.size ≤ x := fun x hx => Nat.le_trans hC.size ((hN4.ge1) x hx)
 have hM : MS ([g3] ++ (M)) w2 := (MS.app hN4.ms (hM.chg hN4.chg))
 have hC := hC.trans hN4.chg (Ok.nil _ _)
 have hBg3 : Box w2 g3 (cA .u8 8 (List.replicate 8 (0 : Int))) := hN4.box
 refine seg ha 1 [(0, .string (bstr a0)), (2, .pointer (some ⟨g3, 0, none⟩))] (by kernel_rfl) fun a ha => ?_
 refine hK1 _ _ ?_; try clear hK1 K1
 refine wp_seq_k fun K6 hK6 => ?_
 refine wp_seq_k fun K7 hK7 => ?_
 refine wp_region_lit ?_
 refine seg ha 3 [(0, .string (bstr a0)), (2, .pointer (some ⟨g3, 0, none⟩)), (14, .bool (decide (((bstr a0).size : Int) > (40 : Int))))] (by kernel_rfl) fun a ha => ?_
 refine hK7 _ _ ?_; try clear hK7 K7
 refine cnd ha rfl (fun hc8 => ?_) (fun hc8 => ?_)
 ·have H := ite_t hc8 H
  refine wp_seq_k fun K9 hK9 => ?_
  refine wp_region_lit ?_
  refine opk (v := .agg (cA .u8 8 ([(0 : Int), (0 : Int), (0 : Int), (0 : Int), (0 : Int), (0 : Int), (0 : Int), (0 : Int)] : List Int)).toArray) ha rfl rfl rfl rfl rfl (fun w => by kernel_rfl) fun a ha => ?_
  refine stA (l := (cA .u8 8 ([(0 : Int), (0 : Int), (0 : Int), (0 : Int), (0 : Int), (0 : Int), (0 : Int), (0 : Int)] : List Int))) ha rfl rfl rfl (by kernel_rfl) rfl rfl hBg3 rfl fun a w10 ha hb2 hc11 _ => ?_
  have hM : MS ([g3] ++ (M)) w10 := (hM.chg hc11)
  have hC := hC.trans hc11 (fun x h => .inr (e_i5 x h))
  have hBg3 : Box w10 g3 (cA .u8 8 ([(0 : Int), (0 : Int), (0 : Int), (0 : Int), (0 : Int), (0 : Int), (0 : Int), (0 : Int)] : List Int)) := hb2
  refine seg ha 1 [(2, .pointer (some ⟨g3, 0, none⟩)), (3, .int .i64 (4 : Int))] (by kernel_rfl) fun a ha => ?_
  refine hK9 _ _ ?_; try clear hK9 K9
  refine wp_ret ?_
  try simp only [Exit.then, Exit.inBlock]
  have hBg3 := hBg3.chg (Chg.refl [] _) (fun h => nomatch h)
  have hM : MS (M) w10 := (fun x h => hM.chg (Chg.refl [] _) x (mr (h)))
  have hC := hC.trans (Chg.refl [] _) (Ok.nil _ _)
  obtain rfl := Option.some.inj H
  refine rtr ha (res2 rfl (roA ha rfl hBg3 (by kernel_rfl)) (roT ha rfl)) ?_
  exact ⟨rfl, hC, hM⟩
 ·have H := ite_f hc8 H
  refine wp_skip ?_
  refine hK6 _ _ ?_; try clear hK6 K6
  refine wp_seq_k fun K12 hK12 => ?_
  refine wp_region_lit ?_
  refine seg ha 1 [(0, .string (bstr a0)), (2, .pointer (some ⟨g3, 0, none⟩)), (16, .string (bstr a0))] (by kernel_rfl) fun a ha => ?_
  obtain ⟨t13, H13, H⟩ := bind_some H
  refine cl ha (by rfl) (by kernel_rfl) (by rfl) (by rfl) (by rfl) (vineryref03_split.walk w2 _ hM a0 k _ H13) ?_
  rintro _ w13 ⟨ao14, cap14, rfl, f14, ne_i14, hc13, hMn⟩ a ha
  have hBg3 := hBg3.chg hc13 (fun h => nomatch h)
  have p_i14_i5 : ∀ x ∈ blkL ao14, x ∉ ([g3]) := fun x hx hy => absurd (hM x (ml hy)) (Nat.not_lt.2 (ne_i14 x hx))
  have p_i14_M : ∀ x ∈ blkL ao14, x ∉ M := fun x hx hy => absurd (hM x (mr (hy))) (Nat.not_lt.2 (ne_i14 x hx))
  have e_i14 : ∀ x ∈ blkL ao14, w.heap.size ≤ x := fun x hx => Nat.le_trans hC.size (ne_i14 x hx)
  have hM : MS (blkL ao14 ++ ([g3] ++ (M))) w13 := (MS.app (fun x h => hMn x (ml h)) (hM.chg hc13))
  have hC := hC.trans hc13 (Ok.nil _ _)
  refine seg ha 1 [(0, .string (bstr a0)), (2, .pointer (some ⟨g3, 0, none⟩)), (4, .slice ao14 t13.length cap14)] (by kernel_rfl) fun a ha => ?_
  refine hK12 _ _ ?_; try clear hK12 K12
  refine wp_seq_k fun K15 hK15 => ?_
  refine wp_region_lit ?_
  refine al (cs := (cA .u8 8 (List.replicate 8 (0 : Int)))) (z := .agg (cA .u8 8 (List.replicate 8 (0 : Int))).toArray) ha (fun w => by kernel_rfl) rfl rfl rfl rfl fun a w16 g17 hN18 ha => ?_
  have o1 : Ok [] (blkL ao14 ++ ([g3] ++ (M))) w13.heap.size := Ok.nil _ _
  have o2 : Ok ([g17] ++ (blkL ao14 ++ ([g3] ++ (M)))) (blkL ao14 ++ ([g3] ++ (M))) w13.heap.size := (Ok.app (hN18.ok _) (Ok.refl _ _))
  have f14 := f14.chg hN18.chg o1 o2 (fun _ _ h => nomatch h) (fun _ h => mr (ml h))
  have hBg3 := hBg3.chg hN18.chg (fun h => nomatch h)
  have p_i19_i14 : ∀ x ∈ [g17], x ∉ (blkL ao14) := fun x hx hy => absurd (hM x (ml hy)) (Nat.not_lt.2 ((hN18.ge1) x hx))
  have p_i19_i5 : ∀ x ∈ [g17], x ∉ ([g3]) := fun x hx hy => absurd (hM x (mr (ml hy))) (Nat.not_lt.2 ((hN18.ge1) x hx))
  have p_i19_M : ∀ x ∈ [g17], x ∉ M := fun x hx hy => absurd (hM x (mr (mr (hy)))) (Nat.not_lt.2 ((hN18.ge1) x hx))
  have e_i19 : ∀ x ∈ [g17], w.heap.size ≤ x := fun x hx => Nat.le_trans hC.size ((hN18.ge1) x hx)
  have hM : MS ([g17] ++ (blkL ao14 ++ ([g3] ++ (M)))) w16 := (MS.app hN18.ms (hM.chg hN18.chg))
  have hC := hC.trans hN18.chg (Ok.nil _ _)
  have hBg17 : Box w16 g17 (cA .u8 8 (List.replicate 8 (0 : Int))) := hN18.box
  refine hK15 _ _ ?_; try clear hK15 K15
  refine wp_seq_k fun K20 hK20 => ?_
  obtain ⟨s21, H21, H⟩ := bind_some H
  have J21 : ∀ (a : Act) (w21 : World), Has a Tryz.f10.ntmps [(0, .string (bstr a0)), (2, .pointer (some ⟨g3, 0, none⟩)), (4, .slice ao14 t13.length cap14), (5, .pointer (some ⟨g17, 0, none⟩))] → (Own rStr 9 w21 ([g17] ++ (blkL ao14 ++ ([g3] ++ (M)))) ao14 cap14 t13) → (Box w21 g3 (cA .u8 8 (List.replicate 8 (0 : Int)))) → (Box w21 g17 (cA .u8 8 s21)) → (Chg [] w w21) → (MS ([g17] ++ (blkL ao14 ++ ([g3] ++ (M)))) w21) → K20 a w21 := by
   intro a w21 ha f14 hBg3 hBg17 hC hM
   refine hK20 _ _ ?_; try clear hK20 K20
   refine wp_seq_k fun K22 hK22 => ?_
   obtain ⟨s23o, H23, H⟩ := lv_some H
   have J23 : ∀ (s23 : (List Int)) (a : Act) (w23 : World), s23o = .inr s23 → Has a Tryz.f10.ntmps [(0, .string (bstr a0)), (2, .pointer (some ⟨g3, 0, none⟩)), (5, .pointer (some ⟨g17, 0, none⟩))] → (Box w23 g3 (cA .u8 8 (List.replicate 8 (0 : Int)))) → (Box w23 g17 (cA .u8 8 s23)) → (Chg [] w w23) → (MS ([g17] ++ ([g3] ++ (M))) w23) → K22 a w23 := by
    intro s23 a w23 hs ha hBg3 hBg17 hC hM
    subst hs
    refine hK22 _ _ ?_; try clear hK22 K22
    refine wp_seq_k fun K24 hK24 => ?_
    refine wp_seq_k fun K25 hK25 => ?_
    refine wp_region_lit ?_
    refine ldA (cs := (cA .u8 8 s23)) ha rfl (by kernel_rfl) rfl rfl rfl (cells_sub (Box.cells hBg17) (all := (cA .u8 8 s23)) [] [] (by kernel_rfl)) fun a ha => ?_
    obtain ⟨t26, H26, H⟩ := bind_some H
    refine cl ha (by rfl) (by kernel_rfl) (by rfl) (by rfl) (by rfl) (vineryref03_Text.walk w23 _ hM s23 k _ H26) ?_
    rintro _ w26 ⟨rfl, hc26, hMn⟩ a ha
    have hBg3 := hBg3.chg hc26 (fun h => nomatch h)
    have hBg17 := hBg17.chg hc26 (fun h => nomatch h)
    have hM : MS ([g17] ++ ([g3] ++ (M))) w26 := (hM.chg hc26)
    have hC := hC.trans hc26 (Ok.nil _ _)
    refine seg ha 2 [(2, .pointer (some ⟨g3, 0, none⟩)), (5, .pointer (some ⟨g17, 0, none⟩)), (64, .bool (!((bstr t26).toList == (bstr a0).toList)))] (by kernel_rfl) fun a ha => ?_
    refine hK25 _ _ ?_; try clear hK25 K25
    refine cnd ha rfl (fun hc27 => ?_) (fun hc27 => ?_)
    ·have H := ite_t hc27 H
     refine wp_seq_k fun K28 hK28 => ?_
     refine wp_region_lit ?_
     refine opk (v := .agg (cA .u8 8 ([(0 : Int), (0 : Int), (0 : Int), (0 : Int), (0 : Int), (0 : Int), (0 : Int), (0 : Int)] : List Int)).toArray) ha rfl rfl rfl rfl rfl (fun w => by kernel_rfl) fun a ha => ?_
     refine stA (l := (cA .u8 8 ([(0 : Int), (0 : Int), (0 : Int), (0 : Int), (0 : Int), (0 : Int), (0 : Int), (0 : Int)] : List Int))) ha rfl rfl rfl (by kernel_rfl) rfl rfl hBg3 rfl fun a w29 ha hb2 hc30 _ => ?_
     have hBg17 := hBg17.chg hc30 (p_i19_i5 g17 (by simp))
     have hM : MS ([g17] ++ ([g3] ++ (M))) w29 := (hM.chg hc30)
     have hC := hC.trans hc30 (fun x h => .inr (e_i5 x h))
     have hBg3 : Box w29 g3 (cA .u8 8 ([(0 : Int), (0 : Int), (0 : Int), (0 : Int), (0 : Int), (0 : Int), (0 : Int), (0 : Int)] : List Int)) := hb2
     refine seg ha 1 [(2, .pointer (some ⟨g3, 0, none⟩)), (3, .int .i64 (4 : Int))] (by kernel_rfl) fun a ha => ?_
     refine hK28 _ _ ?_; try clear hK28 K28
     refine wp_ret ?_
     try simp only [Exit.then, Exit.inBlock]
     have hBg3 := hBg3.chg (Chg.refl [] _) (fun h => nomatch h)
     have hBg17 := hBg17.chg (Chg.refl [] _) (fun h => nomatch h)
     have hM : MS (M) w29 := (fun x h => hM.chg (Chg.refl [] _) x (mr (mr (h))))
     have hC := hC.trans (Chg.refl [] _) (Ok.nil _ _)
     obtain rfl := Option.some.inj H
     refine rtr ha (res2 rfl (roA ha rfl hBg3 (by kernel_rfl)) (roT ha rfl)) ?_
     exact ⟨rfl, hC, hM⟩
    ·have H := ite_f hc27 H
     refine wp_skip ?_
     refine hK24 _ _ ?_; try clear hK24 K24
     refine wp_seq_k fun K31 hK31 => ?_
     refine wp_region_lit ?_
     refine ldA (cs := (cA .u8 8 s23)) ha rfl (by kernel_rfl) rfl rfl rfl (cells_sub (Box.cells hBg17) (all := (cA .u8 8 s23)) [] [] (by kernel_rfl)) fun a ha => ?_
     refine stA (l := (cA .u8 8 s23)) ha rfl rfl rfl (by kernel_rfl) rfl rfl hBg3 rfl fun a w32 ha hb2 hc33 _ => ?_
     have hBg17 := hBg17.chg hc33 (p_i19_i5 g17 (by simp))
     have hM : MS ([g17] ++ ([g3] ++ (M))) w32 := (hM.chg hc33)
     have hC := hC.trans hc33 (fun x h => .inr (e_i5 x h))
     have hBg3 : Box w32 g3 (cA .u8 8 s23) := hb2
     refine seg ha 1 [(2, .pointer (some ⟨g3, 0, none⟩)), (3, .int .i64 (0 : Int))] (by kernel_rfl) fun a ha => ?_
     refine hK31 _ _ ?_; try clear hK31 K31
     refine wp_ret ?_
     try simp only [Exit.then, Exit.inBlock]
     have hBg3 := hBg3.chg (Chg.refl [] _) (fun h => nomatch h)
     have hBg17 := hBg17.chg (Chg.refl [] _) (fun h => nomatch h)
     have hM : MS (M) w32 := (fun x h => hM.chg (Chg.refl [] _) x (mr (mr (h))))
     have hC := hC.trans (Chg.refl [] _) (Ok.nil _ _)
     obtain rfl := Option.some.inj H
     refine rtr ha (res2 rfl (roA ha rfl hBg3 (by kernel_rfl)) (roT ha rfl)) ?_
     exact ⟨rfl, hC, hM⟩
   have Hc23 := H
   have H := H23
   refine wp_seq_k fun K34 hK34 => ?_
   refine wp_region_lit ?_
   refine seg ha 3 [(0, .string (bstr a0)), (2, .pointer (some ⟨g3, 0, none⟩)), (4, .slice ao14 t13.length cap14), (5, .pointer (some ⟨g17, 0, none⟩)), (28, .bool ((t13.length : Int) == (3 : Int)))] (by kernel_rfl) fun a ha => ?_
   refine hK34 _ _ ?_; try clear hK34 K34
   refine cnd ha rfl (fun hc35 => ?_) (fun hc35 => ?_)
   ·have H := ite_t hc35 H
    refine wp_seq_k fun K36 hK36 => ?_
    refine wp_region_lit ?_
    refine seg ha 1 [(0, .string (bstr a0)), (2, .pointer (some ⟨g3, 0, none⟩)), (4, .slice ao14 t13.length cap14), (5, .pointer (some ⟨g17, 0, none⟩)), (29, .slice ao14 t13.length cap14)] (by kernel_rfl) fun a ha => ?_
    obtain ⟨⟨hx37, hx37'⟩, H⟩ := ite_some H
    refine ix (r := rStr) ha (by kernel_rfl) (by kernel_rfl) rfl rfl rfl rfl rfl (Own.toRSl (M' := []) f14 (Ok.nil _ _) (fun _ _ h => nomatch h)) hx37 hx37' fun a ge38 oe39 cs40 hn43 hR41 hE42 ha => ?_
    rw [rd_get] at hR41
    obtain rfl := hR41
    have hE42 : ∀ j v, ([.string (bstr (rd t13 (0 : Int)))] : List Value)[j]? = some v → w21.cell? ⟨ge38, oe39 + j, none⟩ = some v := hE42
    refine ld ha rfl (by kernel_rfl) rfl rfl rfl (hE42 0 (.string (bstr (rd t13 (0 : Int)))) (by kernel_rfl)) fun a ha => ?_
    obtain ⟨t44, H44, H⟩ := bind_some H
    refine cl ha (by rfl) (by kernel_rfl) (by rfl) (by rfl) (by rfl) (vineryref02_Digits.walk w21 _ hM (rd t13 (0 : Int)) (10 : Int) (1 : Int) k _ H44) ?_
    rintro _ w44 ⟨rfl, hc44, hMn⟩ a ha
    have o1 : Ok [] ([g17] ++ (blkL ao14 ++ ([g3] ++ (M)))) w21.heap.size := Ok.nil _ _
    have o2 : Ok ([g17] ++ (blkL ao14 ++ ([g3] ++ (M)))) ([g17] ++ (blkL ao14 ++ ([g3] ++ (M)))) w21.heap.size := (Ok.refl _ _)
    have f14 := f14.chg hc44 o1 o2 (fun _ _ h => nomatch h) (fun _ h => mr (ml h))
    have hBg3 := hBg3.chg hc44 (fun h => nomatch h)
    have hBg17 := hBg17.chg hc44 (fun h => nomatch h)
    have hM : MS ([g17] ++ (blkL ao14 ++ ([g3] ++ (M)))) w44 := (hM.chg hc44)
    have hC := hC.trans hc44 (Ok.nil _ _)
    refine seg ha 1 [(0, .string (bstr a0)), (2, .pointer (some ⟨g3, 0, none⟩)), (4, .slice ao14 t13.length cap14), (5, .pointer (some ⟨g17, 0, none⟩)), (6, .int .i64 t44)] (by kernel_rfl) fun a ha => ?_
    refine hK36 _ _ ?_; try clear hK36 K36
    refine wp_seq_k fun K45 hK45 => ?_
    refine drq0 (fun w' => Chg [] w44 w') (by kernel_rfl) (by kernel_rfl) (fun _ h => h) ?_
    refine qp 0 (.slice ao14 t13.length cap14) ha rfl rfl rfl (by kernel_rfl) fun a ha => ?_
    obtain ⟨⟨hx46, hx46'⟩, H⟩ := ite_some H
    obtain ⟨ge47, oe480, cs49, hx46eq, hn52, hR50, hE51⟩ := RSl.elem (Own.toRSl (M' := []) f14 (Ok.nil _ _) (fun _ _ h => nomatch h)) (Int.toNat (1 : Int)) (by omega)
    rw [rd_get] at hR50
    obtain rfl := hR50
    have hE51 : ∀ j v, ([.string (bstr (rd t13 (1 : Int)))] : List Value)[j]? = some v → w44.cell? ⟨ge47, (oe480 + (Int.toNat (1 : Int)) * rStr.sz) + j, none⟩ = some v := hE51
    refine qv (v := .pointer (some ⟨ge47, (oe480 + (Int.toNat (1 : Int)) * rStr.sz), none⟩)) ha rfl rfl rfl (fun w' hs => ix_run (r := rStr) (T := 9) ha (by kernel_rfl) (by kernel_rfl) (by rfl) (by rfl) hx46eq hx46 hx46') fun a ha => ?_
    refine qv (v := .string (bstr (rd t13 (1 : Int)))) ha rfl rfl rfl (fun w' hs => ld_run ha rfl (by kernel_rfl) (hs.keep (hE51 0 (.string (bstr (rd t13 (1 : Int)))) (by kernel_rfl)))) fun a ha => ?_
    refine qp 0 (.slice ao14 t13.length cap14) ha rfl rfl rfl (by kernel_rfl) fun a ha => ?_
    obtain ⟨⟨hx53, hx53'⟩, H⟩ := ite_some H
    obtain ⟨ge54, oe550, cs56, hx53eq, hn59, hR57, hE58⟩ := RSl.elem (Own.toRSl (M' := []) f14 (Ok.nil _ _) (fun _ _ h => nomatch h)) (Int.toNat (2 : Int)) (by omega)
    rw [rd_get] at hR57
    obtain rfl := hR57
    have hE58 : ∀ j v, ([.string (bstr (rd t13 (2 : Int)))] : List Value)[j]? = some v → w44.cell? ⟨ge54, (oe550 + (Int.toNat (2 : Int)) * rStr.sz) + j, none⟩ = some v := hE58
    refine qv (v := .pointer (some ⟨ge54, (oe550 + (Int.toNat (2 : Int)) * rStr.sz), none⟩)) ha rfl rfl rfl (fun w' hs => ix_run (r := rStr) (T := 9) ha (by kernel_rfl) (by kernel_rfl) (by rfl) (by rfl) hx53eq hx53 hx53') fun a ha => ?_
    refine qv (v := .string (bstr (rd t13 (2 : Int)))) ha rfl rfl rfl (fun w' hs => ld_run ha rfl (by kernel_rfl) (hs.keep (hE58 0 (.string (bstr (rd t13 (2 : Int)))) (by kernel_rfl)))) fun a ha => ?_
    refine qp 0 (.int .i64 t44) ha rfl rfl rfl (by kernel_rfl) fun a ha => ?_
    refine qp 0 (.bool (t44 == (1 : Int))) ha rfl rfl rfl (by kernel_rfl) fun a ha => ?_
    obtain ⟨t60, H60, H⟩ := bind_some H
    refine qc (.tuple #[.int .i64 t60.1, .int .i64 t60.2.1, .bool t60.2.2]) ha (by rfl) (by kernel_rfl) (by rfl) (by rfl) (by rfl) (fun w' hs => (vineryref03_Numbers.walk w' [] (MS.nil _) (rd t13 (1 : Int)) (rd t13 (2 : Int)) (t44 == (1 : Int)) k _ H60).mono fun v w'' ⟨hv, hc, _⟩ => ⟨hv, hs.trans hc (Ok.nil _ _)⟩) fun a ha => ?_
    refine qp 0 (.tuple #[.int .i64 t60.1, .int .i64 t60.2.1, .bool t60.2.2]) ha rfl rfl rfl (by kernel_rfl) fun a ha => ?_
    refine qp 0 (.int .i64 t60.1) ha rfl rfl rfl (by kernel_rfl) fun a ha => ?_
    refine qp 0 (.int .i64 t60.2.1) ha rfl rfl rfl (by kernel_rfl) fun a ha => ?_
    refine qp 0 (.bool t60.2.2) ha rfl rfl rfl (by kernel_rfl) fun a ha => ?_
    refine qp 0 (.int .i64 t60.1) ha rfl rfl rfl (by kernel_rfl) fun a ha => ?_
    refine qp 0 (.int .i64 t60.2.1) ha rfl rfl rfl (by kernel_rfl) fun a ha => ?_
    refine qp 0 (.bool t60.2.2) ha rfl rfl rfl (by kernel_rfl) fun a ha => ?_
    refine wpQuiet_nil ?_
    intro w61 hc62
    have o1 : Ok [] ([g17] ++ (blkL ao14 ++ ([g3] ++ (M)))) w44.heap.size := Ok.nil _ _
    have o2 : Ok ([g17] ++ (blkL ao14 ++ ([g3] ++ (M)))) ([g17] ++ (blkL ao14 ++ ([g3] ++ (M)))) w44.heap.size := (Ok.refl _ _)
    have f14 := f14.chg hc62 o1 o2 (fun _ _ h => nomatch h) (fun _ h => mr (ml h))
    have hBg3 := hBg3.chg hc62 (fun h => nomatch h)
    have hBg17 := hBg17.chg hc62 (fun h => nomatch h)
    have hM : MS ([g17] ++ (blkL ao14 ++ ([g3] ++ (M)))) w61 := (hM.chg hc62)
    have hC := hC.trans hc62 (Ok.nil _ _)
    refine wpl_end ?_
    refine hK45 _ _ ?_; try clear hK45 K45
    refine wp_seq_k fun K63 hK63 => ?_
    refine wp_region_lit ?_
    refine seg ha 3 [(0, .string (bstr a0)), (2, .pointer (some ⟨g3, 0, none⟩)), (5, .pointer (some ⟨g17, 0, none⟩)), (9, .bool t60.2.2), (47, .int .i64 t44), (48, .int .i64 t60.1), (49, .int .i64 t60.2.1)] (by kernel_rfl) fun a ha => ?_
    obtain ⟨t64, H64, H⟩ := bind_some H
    refine cl ha (by rfl) (by kernel_rfl) (by rfl) (by rfl) (by rfl) (vineryref03_Make.walk w61 _ hM t44 t60.1 t60.2.1 k _ H64) ?_
    rintro _ w64 ⟨rfl, hc64, hMn⟩ a ha
    have hBg3 := hBg3.chg hc64 (fun h => nomatch h)
    have hBg17 := hBg17.chg hc64 (fun h => nomatch h)
    have hM : MS ([g17] ++ (blkL ao14 ++ ([g3] ++ (M)))) w64 := (hM.chg hc64)
    have hC := hC.trans hc64 (Ok.nil _ _)
    refine seg ha 3 [(0, .string (bstr a0)), (2, .pointer (some ⟨g3, 0, none⟩)), (5, .pointer (some ⟨g17, 0, none⟩)), (9, .bool t60.2.2), (51, .agg (cA .u8 8 t64.1).toArray), (52, .int .i64 t64.2)] (by kernel_rfl) fun a ha => ?_
    refine al (cs := (cA .u8 8 (List.replicate 8 (0 : Int)))) (z := .agg (cA .u8 8 (List.replicate 8 (0 : Int))).toArray) ha (fun w => by kernel_rfl) rfl rfl rfl rfl fun a w65 g66 hN67 ha => ?_
    have hBg3 := hBg3.chg hN67.chg (fun h => nomatch h)
    have hBg17 := hBg17.chg hN67.chg (fun h => nomatch h)
    have p_i68_i19 : ∀ x ∈ [g66], x ∉ ([g17]) := fun x hx hy => absurd (hM x (ml hy)) (Nat.not_lt.2 ((hN67.ge1) x hx))
    have p_i68_i14 : ∀ x ∈ [g66], x ∉ (blkL ao14) := fun x hx hy => absurd (hM x (mr (ml hy))) (Nat.not_lt.2 ((hN67.ge1) x hx))
    have p_i68_i5 : ∀ x ∈ [g66], x ∉ ([g3]) := fun x hx hy => absurd (hM x (mr (mr (ml hy)))) (Nat.not_lt.2 ((hN67.ge1) x hx))
    have p_i68_M : ∀ x ∈ [g66], x ∉ M := fun x hx hy => absurd (hM x (mr (mr (mr (hy))))) (Nat.not_lt.2 ((hN67.ge1) x hx))
    have e_i68 : ∀ x ∈ [g66], w.heap.size ≤ x := fun x hx => Nat.le_trans hC.size ((hN67.ge1) x hx)
    have hM : MS ([g66] ++ ([g17] ++ (blkL ao14 ++ ([g3] ++ (M))))) w65 := (MS.app hN67.ms (hM.chg hN67.chg))
    have hC := hC.trans hN67.chg (Ok.nil _ _)
    have hBg66 : Box w65 g66 (cA .u8 8 (List.replicate 8 (0 : Int))) := hN67.box
    refine stA (l := (cA .u8 8 t64.1)) ha rfl rfl rfl (by kernel_rfl) rfl rfl hBg66 rfl fun a w69 ha hb2 hc70 _ => ?_
    have hBg3 := hBg3.chg hc70 ((fun x (hx : x ∈ [g3]) (hy : x ∈ [g66]) => p_i68_i5 x hy hx) g3 (by simp))
    have hBg17 := hBg17.chg hc70 ((fun x (hx : x ∈ [g17]) (hy : x ∈ [g66]) => p_i68_i19 x hy hx) g17 (by simp))
    have hM : MS ([g66] ++ ([g17] ++ (blkL ao14 ++ ([g3] ++ (M))))) w69 := (hM.chg hc70)
    have hC := hC.trans hc70 (fun x h => .inr (e_i68 x h))
    have hBg66 : Box w69 g66 (cA .u8 8 t64.1) := hb2
    refine seg ha 1 [(0, .string (bstr a0)), (2, .pointer (some ⟨g3, 0, none⟩)), (5, .pointer (some ⟨g17, 0, none⟩)), (9, .bool t60.2.2), (10, .pointer (some ⟨g66, 0, none⟩)), (11, .int .i64 t64.2)] (by kernel_rfl) fun a ha => ?_
    refine hK63 _ _ ?_; try clear hK63 K63
    refine wp_seq_k fun K71 hK71 => ?_
    refine wp_seq_k fun K72 hK72 => ?_
    refine wp_region_lit ?_
    refine seg ha 6 [(0, .string (bstr a0)), (2, .pointer (some ⟨g3, 0, none⟩)), (5, .pointer (some ⟨g17, 0, none⟩)), (10, .pointer (some ⟨g66, 0, none⟩)), (58, .bool (if (!t60.2.2) = true then true else (t64.2 != (0 : Int))))] (by kernel_rfl) fun a ha => ?_
    refine hK72 _ _ ?_; try clear hK72 K72
    refine cnd ha rfl (fun hc73 => ?_) (fun hc73 => ?_)
    ·have H := ite_t hc73 H
     refine wp_seq_k fun K74 hK74 => ?_
     refine wp_region_lit ?_
     refine opk (v := .agg (cA .u8 8 ([(0 : Int), (0 : Int), (0 : Int), (0 : Int), (0 : Int), (0 : Int), (0 : Int), (0 : Int)] : List Int)).toArray) ha rfl rfl rfl rfl rfl (fun w => by kernel_rfl) fun a ha => ?_
     refine stA (l := (cA .u8 8 ([(0 : Int), (0 : Int), (0 : Int), (0 : Int), (0 : Int), (0 : Int), (0 : Int), (0 : Int)] : List Int))) ha rfl rfl rfl (by kernel_rfl) rfl rfl hBg3 rfl fun a w75 ha hb2 hc76 _ => ?_
     have hBg17 := hBg17.chg hc76 (p_i19_i5 g17 (by simp))
     have hBg66 := hBg66.chg hc76 (p_i68_i5 g66 (by simp))
     have hM : MS ([g66] ++ ([g17] ++ (blkL ao14 ++ ([g3] ++ (M))))) w75 := (hM.chg hc76)
     have hC := hC.trans hc76 (fun x h => .inr (e_i5 x h))
     have hBg3 : Box w75 g3 (cA .u8 8 ([(0 : Int), (0 : Int), (0 : Int), (0 : Int), (0 : Int), (0 : Int), (0 : Int), (0 : Int)] : List Int)) := hb2
     refine seg ha 1 [(2, .pointer (some ⟨g3, 0, none⟩)), (3, .int .i64 (4 : Int))] (by kernel_rfl) fun a ha => ?_
     refine hK74 _ _ ?_; try clear hK74 K74
     refine wp_ret ?_
     obtain rfl := Option.some.inj H
     have H := Hc23
     try simp only [Exit.then, Exit.inBlock]
     have hBg3 := hBg3.chg (Chg.refl [] _) (fun h => nomatch h)
     have hBg17 := hBg17.chg (Chg.refl [] _) (fun h => nomatch h)
     have hBg66 := hBg66.chg (Chg.refl [] _) (fun h => nomatch h)
     have hM : MS (M) w75 := (fun x h => hM.chg (Chg.refl [] _) x (mr (mr (mr (mr (h))))))
     have hC := hC.trans (Chg.refl [] _) (Ok.nil _ _)
     obtain rfl := Option.some.inj H
     refine rtr ha (res2 rfl (roA ha rfl hBg3 (by kernel_rfl)) (roT ha rfl)) ?_
     exact ⟨rfl, hC, hM⟩
    ·have H := ite_f hc73 H
     refine wp_skip ?_
     refine hK71 _ _ ?_; try clear hK71 K71
     refine wp_region_lit ?_
     refine ldA (cs := (cA .u8 8 t64.1)) ha rfl (by kernel_rfl) rfl rfl rfl (cells_sub (Box.cells hBg66) (all := (cA .u8 8 t64.1)) [] [] (by kernel_rfl)) fun a ha => ?_
     refine stA (l := (cA .u8 8 t64.1)) ha rfl rfl rfl (by kernel_rfl) rfl rfl hBg17 rfl fun a w77 ha hb2 hc78 _ => ?_
     have hBg3 := hBg3.chg hc78 ((fun x (hx : x ∈ [g3]) (hy : x ∈ [g17]) => p_i19_i5 x hy hx) g3 (by simp))
     have hBg66 := hBg66.chg hc78 (p_i68_i19 g66 (by simp))
     have hM : MS ([g66] ++ ([g17] ++ (blkL ao14 ++ ([g3] ++ (M))))) w77 := (hM.chg hc78)
     have hC := hC.trans hc78 (fun x h => .inr (e_i19 x h))
     have hBg17 : Box w77 g17 (cA .u8 8 t64.1) := hb2
     obtain rfl := Option.some.inj H
     have hBg3 := hBg3.chg (Chg.refl [] _) (fun h => nomatch h)
     have hBg17 := hBg17.chg (Chg.refl [] _) (fun h => nomatch h)
     have hBg66 := hBg66.chg (Chg.refl [] _) (fun h => nomatch h)
     have hM : MS ([g17] ++ ([g3] ++ (M))) w77 := (MS.app (fun x h => hM.chg (Chg.refl [] _) x (mr (ml h))) (fun x h => hM.chg (Chg.refl [] _) x (mr (mr (mr (h))))))
     have hC := hC.trans (Chg.refl [] _) (Ok.nil _ _)
     exact J23 _ _ _ rfl (ha.sel (by kernel_rfl)) hBg3 hBg17 hC hM
   ·have H := ite_f hc35 H
    refine wp_skip ?_
    obtain rfl := Option.some.inj H
    have hBg3 := hBg3.chg (Chg.refl [] _) (fun h => nomatch h)
    have hBg17 := hBg17.chg (Chg.refl [] _) (fun h => nomatch h)
    have hM : MS ([g17] ++ ([g3] ++ (M))) w21 := (MS.app (fun x h => hM.chg (Chg.refl [] _) x (ml h)) (fun x h => hM.chg (Chg.refl [] _) x (mr (mr (h)))))
    have hC := hC.trans (Chg.refl [] _) (Ok.nil _ _)
    exact J23 _ _ _ rfl (ha.sel (by kernel_rfl)) hBg3 hBg17 hC hM
  have H := H21
  refine wp_seq_k fun K79 hK79 => ?_
  refine wp_region_lit ?_
  refine seg ha 3 [(0, .string (bstr a0)), (2, .pointer (some ⟨g3, 0, none⟩)), (4, .slice ao14 t13.length cap14), (5, .pointer (some ⟨g17, 0, none⟩)), (20, .bool ((t13.length : Int) == (2 : Int)))] (by kernel_rfl) fun a ha => ?_
  refine hK79 _ _ ?_; try clear hK79 K79
  refine cnd ha rfl (fun hc80 => ?_) (fun hc80 => ?_)
  ·have H := ite_t hc80 H
   refine wp_region_lit ?_
   refine seg ha 1 [(0, .string (bstr a0)), (2, .pointer (some ⟨g3, 0, none⟩)), (4, .slice ao14 t13.length cap14), (5, .pointer (some ⟨g17, 0, none⟩)), (21, .slice ao14 t13.length cap14)] (by kernel_rfl) fun a ha => ?_
   obtain ⟨⟨hx81, hx81'⟩, H⟩ := ite_some H
   refine ix (r := rStr) ha (by kernel_rfl) (by kernel_rfl) rfl rfl rfl rfl rfl (Own.toRSl (M' := []) f14 (Ok.nil _ _) (fun _ _ h => nomatch h)) hx81 hx81' fun a ge82 oe83 cs84 hn87 hR85 hE86 ha => ?_
   rw [rd_get] at hR85
   obtain rfl := hR85
   have hE86 : ∀ j v, ([.string (bstr (rd t13 (1 : Int)))] : List Value)[j]? = some v → w16.cell? ⟨ge82, oe83 + j, none⟩ = some v := hE86
   refine ld ha rfl (by kernel_rfl) rfl rfl rfl (hE86 0 (.string (bstr (rd t13 (1 : Int)))) (by kernel_rfl)) fun a ha => ?_
   obtain ⟨t88, H88, H⟩ := bind_some H
   refine cl ha (by rfl) (by kernel_rfl) (by rfl) (by rfl) (by rfl) (vineryref03_Unhex.walk w16 _ hM (rd t13 (1 : Int)) k _ H88) ?_
   rintro _ w88 ⟨ao89, cap89, rfl, f89, ne_i89, hc88, hMn⟩ a ha
   have o1 : Ok [] ([g17] ++ (blkL ao14 ++ ([g3] ++ (M)))) w16.heap.size := Ok.nil _ _
   have o2 : Ok (blkL ao89 ++ ([g17] ++ (blkL ao14 ++ ([g3] ++ (M))))) ([g17] ++ (blkL ao14 ++ ([g3] ++ (M)))) w16.heap.size := (Ok.app (fun x h => .inr (ne_i89 x h)) (Ok.refl _ _))
   have f14 := f14.chg hc88 o1 o2 (fun _ _ h => nomatch h) (fun _ h => mr (mr (ml h)))
   have hBg3 := hBg3.chg hc88 (fun h => nomatch h)
   have hBg17 := hBg17.chg hc88 (fun h => nomatch h)
   have p_i89_i19 : ∀ x ∈ blkL ao89, x ∉ ([g17]) := fun x hx hy => absurd (hM x (ml hy)) (Nat.not_lt.2 (ne_i89 x hx))
   have p_i89_i14 : ∀ x ∈ blkL ao89, x ∉ (blkL ao14) := fun x hx hy => absurd (hM x (mr (ml hy))) (Nat.not_lt.2 (ne_i89 x hx))
   have p_i89_i5 : ∀ x ∈ blkL ao89, x ∉ ([g3]) := fun x hx hy => absurd (hM x (mr (mr (ml hy)))) (Nat.not_lt.2 (ne_i89 x hx))
   have p_i89_M : ∀ x ∈ blkL ao89, x ∉ M := fun x hx hy => absurd (hM x (mr (mr (mr (hy))))) (Nat.not_lt.2 (ne_i89 x hx))
   have e_i89 : ∀ x ∈ blkL ao89, w.heap.size ≤ x := fun x hx => Nat.le_trans hC.size (ne_i89 x hx)
   have hM : MS (blkL ao89 ++ ([g17] ++ (blkL ao14 ++ ([g3] ++ (M))))) w88 := (MS.app (fun x h => hMn x (ml h)) (hM.chg hc88))
   have hC := hC.trans hc88 (Ok.nil _ _)
   have hML : MS ([g17] ++ (blkL ao14 ++ ([g3] ++ (M)))) w88 := MS.rest hM (fun _ h => (List.mem_append.1 h).elim (fun h => mr (ml h)) (fun h => (List.mem_append.1 h).elim (fun h => mr (mr (ml h))) (fun h => (List.mem_append.1 h).elim (fun h => mr (mr (mr (ml h)))) (fun h => mr (mr (mr (mr (h))))))))
   have oL : Ok ([g17] ++ (blkL ao14 ++ ([g3] ++ (M)))) (blkL ao89 ++ ([g17] ++ (blkL ao14 ++ ([g3] ++ (M))))) w88.heap.size := (fun _ h => .inl (mr (h)))
   obtain ⟨t90, H90, H⟩ := bind_some H
   refine cl ha (by rfl) (by kernel_rfl) (by rfl) (by rfl) (by rfl) (vineryref03_Of.walk w88 _ hML t88 ao89 cap89 (Own.toRSl (M' := [g17] ++ (blkL ao14 ++ ([g3] ++ (M)))) f89 oL (fun x hx hm => (List.mem_append.1 hm).elim (fun h => p_i89_i19 x hx h) (fun h => (List.mem_append.1 h).elim (fun h => p_i89_i14 x hx h) (fun h => (List.mem_append.1 h).elim (fun h => p_i89_i5 x hx h) (fun h => p_i89_M x hx h))))) k _ H90) ?_
   rintro _ w90 ⟨rfl, hc90, hMn⟩ a ha
   have o1 : Ok [] (blkL ao89 ++ ([g17] ++ (blkL ao14 ++ ([g3] ++ (M))))) w88.heap.size := Ok.nil _ _
   have o2 : Ok (blkL ao89 ++ ([g17] ++ (blkL ao14 ++ ([g3] ++ (M))))) (blkL ao89 ++ ([g17] ++ (blkL ao14 ++ ([g3] ++ (M))))) w88.heap.size := (Ok.refl _ _)
   have f14 := f14.chg hc90 o1 o2 (fun _ _ h => nomatch h) (fun _ h => mr (mr (ml h)))
   have f89 := f89.chg hc90 o1 o2 (fun _ _ h => nomatch h) (fun _ h => ml h)
   have hBg3 := hBg3.chg hc90 (fun h => nomatch h)
   have hBg17 := hBg17.chg hc90 (fun h => nomatch h)
   have hM : MS (blkL ao89 ++ ([g17] ++ (blkL ao14 ++ ([g3] ++ (M))))) w90 := (hM.chg hc90)
   have hC := hC.trans hc90 (Ok.nil _ _)
   refine stA (l := (cA .u8 8 t90)) ha rfl rfl rfl (by kernel_rfl) rfl rfl hBg17 rfl fun a w91 ha hb2 hc92 _ => ?_
   have o1 : Ok [g17] (blkL ao89 ++ ([g17] ++ (blkL ao14 ++ ([g3] ++ (M))))) w90.heap.size := (fun _ h => .inl (mr (ml h)))
   have o2 : Ok (blkL ao89 ++ ([g17] ++ (blkL ao14 ++ ([g3] ++ (M))))) (blkL ao89 ++ ([g17] ++ (blkL ao14 ++ ([g3] ++ (M))))) w90.heap.size := (Ok.refl _ _)
   have f14 := f14.chg hc92 o1 o2 (fun x (hx : x ∈ blkL ao14) (hy : x ∈ [g17]) => p_i19_i14 x hy hx) (fun _ h => mr (mr (ml h)))
   have hBg3 := hBg3.chg hc92 ((fun x (hx : x ∈ [g3]) (hy : x ∈ [g17]) => p_i19_i5 x hy hx) g3 (by simp))
   have hM : MS (blkL ao89 ++ ([g17] ++ (blkL ao14 ++ ([g3] ++ (M))))) w91 := (hM.chg hc92)
   have hC := hC.trans hc92 (fun x h => .inr (e_i19 x h))
   have hBg17 : Box w91 g17 (cA .u8 8 t90) := hb2
   obtain rfl := Option.some.inj H
   have o1 : Ok [] (blkL ao89 ++ ([g17] ++ (blkL ao14 ++ ([g3] ++ (M))))) w91.heap.size := Ok.nil _ _
   have o2 : Ok ([g17] ++ (blkL ao14 ++ ([g3] ++ (M)))) (blkL ao89 ++ ([g17] ++ (blkL ao14 ++ ([g3] ++ (M))))) w91.heap.size := (fun _ h => .inl (mr (h)))
   have f14 := f14.chg (Chg.refl [] _) o1 o2 (fun _ _ h => nomatch h) (fun _ h => mr (ml h))
   have hBg3 := hBg3.chg (Chg.refl [] _) (fun h => nomatch h)
   have hBg17 := hBg17.chg (Chg.refl [] _) (fun h => nomatch h)
   have hM : MS ([g17] ++ (blkL ao14 ++ ([g3] ++ (M)))) w91 := (fun x h => hM.chg (Chg.refl [] _) x (mr (h)))
   have hC := hC.trans (Chg.refl [] _) (Ok.nil _ _)
   exact J21 _ _ (ha.sel (by kernel_rfl)) f14 hBg3 hBg17 hC hM
  ·have H := ite_f hc80 H
   refine wp_skip ?_
   obtain rfl := Option.some.inj H
   exact J21 _ _ (ha.sel (by kernel_rfl)) f14 hBg3 hBg17 hC hM
def vinerylaw03_RdTexts.f (k : Nat) (a0 : List Int) (a1 : List UInt8) : Option (Bool) := (vinerylaw03_small.f k ).bind fun t8 => (rd_Parse.f k a1).bind fun t10 => (vineryref03_Parse.f k a1).bind fun t18 => ((if t8 = true then (rd_Text.f k a0).bind fun t28 => (vineryref03_Text.f k a0).bind fun t29 => (if ((bstr t28).toList == (bstr t29).toList) = true then (if (eqA 8 t10.1 t18.1) = true then some (t10.2 == t18.2 : Bool) else some (false : Bool)) else some (false : Bool)) else some (false : Bool))).bind fun s26 => some ((s26 : Bool))
set_option maxRecDepth 100000 in
theorem vinerylaw03_RdTexts.walk (w : World) (M : List Nat) (hM : MS M w) (hG : GF w M) (a0 : List Int) (a1 : List UInt8) (k : Nat) (r : Bool) (H : vinerylaw03_RdTexts.f k a0 a1 = some r) :
    To Tryz.prog 3 [.agg (cA .u8 8 a0).toArray, .string (bstr a1)] w fun v w' => v = .bool r ∧ Chg [] w w' ∧ MS (M) w' := by
 unfold vinerylaw03_RdTexts.f at H
 refine ent Tryz.func3 rfl [(0, .agg (cA .u8 8 a0).toArray), (1, .string (bstr a1))] rfl (by rfl) fun a ha => ?_
 have hC : Chg [] w w := Chg.refl _ _
 refine wp_seq_k fun K1 hK1 => ?_
 refine wp_region_lit ?_
 refine bx (cs := (cA .u8 8 a0)) ha rfl rfl rfl rfl rfl fun a w2 g3 hN4 ha => ?_
 have hn6 := hN4.notin hM
 have o1 : Ok [] (M) w.heap.size := Ok.nil _ _
 have o2 : Ok (M) (M) w.heap.size := (Ok.refl _ _)
 have hG := hG.chg hN4.chg o1 o2
 have hM : MS (M) w2 := (hM.chg hN4.chg)
 have hC := hC.trans hN4.chg (Ok.nil _ _)
 have hE5 : ∀ j v, (cA .u8 8 a0)[j]? = some v → w2.cell? ⟨g3, 0 + j, none⟩ = some v := Box.cells (New.box hN4)
 refine seg ha 1 [(1, .string (bstr a1)), (2, .pointer (some ⟨g3, 0, none⟩))] (by kernel_rfl) fun a ha => ?_
 refine hK1 _ _ ?_; try clear hK1 K1
 refine wp_seq_k fun K7 hK7 => ?_
 refine wp_region_lit ?_
 obtain ⟨t8, H8, H⟩ := bind_some H
 refine cl ha (by rfl) (by kernel_rfl) (by rfl) (by rfl) (by rfl) (vinerylaw03_small.walk w2 _ hM hG  k _ H8) ?_
 rintro _ w8 ⟨rfl, hc8, hMn⟩ a ha
 have o1 : Ok [] (M) w2.heap.size := Ok.nil _ _
 have o2 : Ok (M) (M) w2.heap.size := (Ok.refl _ _)
 have hG := hG.chg hc8 o1 o2
 have q_hn6 : g3 ∉ M := fun h => (o2 g3 h).elim hn6 (fun h => absurd (lt_cell (hE5 0 _ rfl)) (Nat.not_lt.2 h))
 have hE5 : ∀ j v, (cA .u8 8 a0)[j]? = some v → w8.cell? ⟨g3, 0 + j, none⟩ = some v := fun j v hv => (cell_keep hc8 o1 hn6 (hE5 j v hv))
 have hn6 := q_hn6
 have hM : MS (M) w8 := (hM.chg hc8)
 have hC := hC.trans hc8 (Ok.nil _ _)
 refine seg ha 1 [(1, .string (bstr a1)), (2, .pointer (some ⟨g3, 0, none⟩)), (5, .bool t8)] (by kernel_rfl) fun a ha => ?_
 refine hK7 _ _ ?_; try clear hK7 K7
 refine wp_seq_k fun K9 hK9 => ?_
 refine wp_region_lit ?_
 refine seg ha 1 [(1, .string (bstr a1)), (2, .pointer (some ⟨g3, 0, none⟩)), (5, .bool t8), (12, .string (bstr a1))] (by kernel_rfl) fun a ha => ?_
 obtain ⟨t10, H10, H⟩ := bind_some H
 refine cl ha (by rfl) (by kernel_rfl) (by rfl) (by rfl) (by rfl) (rd_Parse.walk w8 _ hM hG a1 k _ H10) ?_
 rintro _ w10 ⟨rfl, hc10, hMn⟩ a ha
 have o1 : Ok [] (M) w8.heap.size := Ok.nil _ _
 have o2 : Ok (M) (M) w8.heap.size := (Ok.refl _ _)
 have hG := hG.chg hc10 o1 o2
 have q_hn6 : g3 ∉ M := fun h => (o2 g3 h).elim hn6 (fun h => absurd (lt_cell (hE5 0 _ rfl)) (Nat.not_lt.2 h))
 have hE5 : ∀ j v, (cA .u8 8 a0)[j]? = some v → w10.cell? ⟨g3, 0 + j, none⟩ = some v := fun j v hv => (cell_keep hc10 o1 hn6 (hE5 j v hv))
 have hn6 := q_hn6
 have hM : MS (M) w10 := (hM.chg hc10)
 have hC := hC.trans hc10 (Ok.nil _ _)
 refine seg ha 3 [(1, .string (bstr a1)), (2, .pointer (some ⟨g3, 0, none⟩)), (5, .bool t8), (14, .agg (cA .u8 8 t10.1).toArray), (15, .int .i64 t10.2)] (by kernel_rfl) fun a ha => ?_
 refine al (cs := (cA .u8 8 (List.replicate 8 (0 : Int)))) (z := .agg (cA .u8 8 (List.replicate 8 (0 : Int))).toArray) ha (fun w => by kernel_rfl) rfl rfl rfl rfl fun a w11 g12 hN13 ha => ?_
 have o1 : Ok [] (M) w10.heap.size := Ok.nil _ _
 have o2 : Ok ([g12] ++ (M)) (M) w10.heap.size := (Ok.app (hN13.ok _) (Ok.refl _ _))
 have hG := hG.chg hN13.chg o1 o2
 have q_hn6 : g3 ∉ [g12] ++ (M) := fun h => (o2 g3 h).elim hn6 (fun h => absurd (lt_cell (hE5 0 _ rfl)) (Nat.not_lt.2 h))
 have hE5 : ∀ j v, (cA .u8 8 a0)[j]? = some v → w11.cell? ⟨g3, 0 + j, none⟩ = some v := fun j v hv => (cell_keep hN13.chg o1 hn6 (hE5 j v hv))
 have hn6 := q_hn6
 have p_i14_M : ∀ x ∈ [g12], x ∉ M := fun x hx hy => absurd (hM x (hy)) (Nat.not_lt.2 ((hN13.ge1) x hx))
 have e_i14 : ∀ x ∈ [g12], w.heap.size ≤ x := fun x hx => Nat.le_trans hC.size ((hN13.ge1) x hx)
 have hM : MS ([g12] ++ (M)) w11 := (MS.app hN13.ms (hM.chg hN13.chg))
 have hC := hC.trans hN13.chg (Ok.nil _ _)
 have hBg12 : Box w11 g12 (cA .u8 8 (List.replicate 8 (0 : Int))) := hN13.box
 refine stA (l := (cA .u8 8 t10.1)) ha rfl rfl rfl (by kernel_rfl) rfl rfl hBg12 rfl fun a w15 ha hb2 hc16 _ => ?_
 have o1 : Ok [g12] ([g12] ++ (M)) w11.heap.size := (fun _ h => .inl (ml h))
 have o2 : Ok ([g12] ++ (M)) ([g12] ++ (M)) w11.heap.size := (Ok.refl _ _)
 have hG := hG.chg hc16 o1 o2
 have q_hn6 : g3 ∉ [g12] ++ (M) := fun h => (o2 g3 h).elim hn6 (fun h => absurd (lt_cell (hE5 0 _ rfl)) (Nat.not_lt.2 h))
 have hE5 : ∀ j v, (cA .u8 8 a0)[j]? = some v → w15.cell? ⟨g3, 0 + j, none⟩ = some v := fun j v hv => (cell_keep hc16 o1 hn6 (hE5 j v hv))
 have hn6 := q_hn6
 have hM : MS ([g12] ++ (M)) w15 := (hM.chg hc16)
 have hC := hC.trans hc16 (fun x h => .inr (e_i14 x h))
 have hBg12 : Box w15 g12 (cA .u8 8 t10.1) := hb2
 refine seg ha 1 [(1, .string (bstr a1)), (2, .pointer (some ⟨g3, 0, none⟩)), (5, .bool t8), (6, .pointer (some ⟨g12, 0, none⟩)), (7, .int .i64 t10.2)] (by kernel_rfl) fun a ha => ?_
 refine hK9 _ _ ?_; try clear hK9 K9
 refine wp_seq_k fun K17 hK17 => ?_
 refine wp_region_lit ?_
 refine seg ha 1 [(2, .pointer (some ⟨g3, 0, none⟩)), (5, .bool t8), (6, .pointer (some ⟨g12, 0, none⟩)), (7, .int .i64 t10.2), (17, .string (bstr a1))] (by kernel_rfl) fun a ha => ?_
 obtain ⟨t18, H18, H⟩ := bind_some H
 refine cl ha (by rfl) (by kernel_rfl) (by rfl) (by rfl) (by rfl) (vineryref03_Parse.walk w15 _ hM a1 k _ H18) ?_
 rintro _ w18 ⟨rfl, hc18, hMn⟩ a ha
 have o1 : Ok [] ([g12] ++ (M)) w15.heap.size := Ok.nil _ _
 have o2 : Ok ([g12] ++ (M)) ([g12] ++ (M)) w15.heap.size := (Ok.refl _ _)
 have hG := hG.chg hc18 o1 o2
 have hBg12 := hBg12.chg hc18 (fun h => nomatch h)
 have q_hn6 : g3 ∉ [g12] ++ (M) := fun h => (o2 g3 h).elim hn6 (fun h => absurd (lt_cell (hE5 0 _ rfl)) (Nat.not_lt.2 h))
 have hE5 : ∀ j v, (cA .u8 8 a0)[j]? = some v → w18.cell? ⟨g3, 0 + j, none⟩ = some v := fun j v hv => (cell_keep hc18 o1 hn6 (hE5 j v hv))
 have hn6 := q_hn6
 have hM : MS ([g12] ++ (M)) w18 := (hM.chg hc18)
 have hC := hC.trans hc18 (Ok.nil _ _)
 refine seg ha 3 [(2, .pointer (some ⟨g3, 0, none⟩)), (5, .bool t8), (6, .pointer (some ⟨g12, 0, none⟩)), (7, .int .i64 t10.2), (19, .agg (cA .u8 8 t18.1).toArray), (20, .int .i64 t18.2)] (by kernel_rfl) fun a ha => ?_
 refine al (cs := (cA .u8 8 (List.replicate 8 (0 : Int)))) (z := .agg (cA .u8 8 (List.replicate 8 (0 : Int))).toArray) ha (fun w => by kernel_rfl) rfl rfl rfl rfl fun a w19 g20 hN21 ha => ?_
 have o1 : Ok [] ([g12] ++ (M)) w18.heap.size := Ok.nil _ _
 have o2 : Ok ([g20] ++ ([g12] ++ (M))) ([g12] ++ (M)) w18.heap.size := (Ok.app (hN21.ok _) (Ok.refl _ _))
 have hG := hG.chg hN21.chg o1 o2
 have hBg12 := hBg12.chg hN21.chg (fun h => nomatch h)
 have q_hn6 : g3 ∉ [g20] ++ ([g12] ++ (M)) := fun h => (o2 g3 h).elim hn6 (fun h => absurd (lt_cell (hE5 0 _ rfl)) (Nat.not_lt.2 h))
 have hE5 : ∀ j v, (cA .u8 8 a0)[j]? = some v → w19.cell? ⟨g3, 0 + j, none⟩ = some v := fun j v hv => (cell_keep hN21.chg o1 hn6 (hE5 j v hv))
 have hn6 := q_hn6
 have p_i22_i14 : ∀ x ∈ [g20], x ∉ ([g12]) := fun x hx hy => absurd (hM x (ml hy)) (Nat.not_lt.2 ((hN21.ge1) x hx))
 have p_i22_M : ∀ x ∈ [g20], x ∉ M := fun x hx hy => absurd (hM x (mr (hy))) (Nat.not_lt.2 ((hN21.ge1) x hx))
 have e_i22 : ∀ x ∈ [g20], w.heap.size ≤ x := fun x hx => Nat.le_trans hC.size ((hN21.ge1) x hx)
 have hM : MS ([g20] ++ ([g12] ++ (M))) w19 := (MS.app hN21.ms (hM.chg hN21.chg))
 have hC := hC.trans hN21.chg (Ok.nil _ _)
 have hBg20 : Box w19 g20 (cA .u8 8 (List.replicate 8 (0 : Int))) := hN21.box
 refine stA (l := (cA .u8 8 t18.1)) ha rfl rfl rfl (by kernel_rfl) rfl rfl hBg20 rfl fun a w23 ha hb2 hc24 _ => ?_
 have o1 : Ok [g20] ([g20] ++ ([g12] ++ (M))) w19.heap.size := (fun _ h => .inl (ml h))
 have o2 : Ok ([g20] ++ ([g12] ++ (M))) ([g20] ++ ([g12] ++ (M))) w19.heap.size := (Ok.refl _ _)
 have hG := hG.chg hc24 o1 o2
 have hBg12 := hBg12.chg hc24 ((fun x (hx : x ∈ [g12]) (hy : x ∈ [g20]) => p_i22_i14 x hy hx) g12 (by simp))
 have q_hn6 : g3 ∉ [g20] ++ ([g12] ++ (M)) := fun h => (o2 g3 h).elim hn6 (fun h => absurd (lt_cell (hE5 0 _ rfl)) (Nat.not_lt.2 h))
 have hE5 : ∀ j v, (cA .u8 8 a0)[j]? = some v → w23.cell? ⟨g3, 0 + j, none⟩ = some v := fun j v hv => (cell_keep hc24 o1 hn6 (hE5 j v hv))
 have hn6 := q_hn6
 have hM : MS ([g20] ++ ([g12] ++ (M))) w23 := (hM.chg hc24)
 have hC := hC.trans hc24 (fun x h => .inr (e_i22 x h))
 have hBg20 : Box w23 g20 (cA .u8 8 t18.1) := hb2
 refine seg ha 1 [(2, .pointer (some ⟨g3, 0, none⟩)), (5, .bool t8), (6, .pointer (some ⟨g12, 0, none⟩)), (7, .int .i64 t10.2), (8, .pointer (some ⟨g20, 0, none⟩)), (9, .int .i64 t18.2)] (by kernel_rfl) fun a ha => ?_
 refine hK17 _ _ ?_; try clear hK17 K17
 refine wp_seq_k fun K25 hK25 => ?_
 refine drq0 (fun w' => Chg [] w23 w') (by kernel_rfl) (by kernel_rfl) (fun _ h => h) ?_
 obtain ⟨s26, H26, H⟩ := bind_some H
 have J26 : ∀ (a : Act) (w26 : World), Has a Tryz.f3.ntmps [(4, .bool s26)] → (Box w26 g12 (cA .u8 8 t10.1)) → (Box w26 g20 (cA .u8 8 t18.1)) → (GF w26 ([g20] ++ ([g12] ++ (M)))) → (Chg [] w w26) → (MS ([g20] ++ ([g12] ++ (M))) w26) → K25 a w26 := by
  intro a w26 ha hBg12 hBg20 hG hC hM
  refine hK25 _ _ ?_; try clear hK25 K25
  refine wp_ret ?_
  try simp only [Exit.then, Exit.inBlock]
  have o1 : Ok [] ([g20] ++ ([g12] ++ (M))) w26.heap.size := Ok.nil _ _
  have o2 : Ok (M) ([g20] ++ ([g12] ++ (M))) w26.heap.size := (fun _ h => .inl (mr (mr (h))))
  have hG := hG.chg (Chg.refl [] _) o1 o2
  have hBg12 := hBg12.chg (Chg.refl [] _) (fun h => nomatch h)
  have hBg20 := hBg20.chg (Chg.refl [] _) (fun h => nomatch h)
  have hM : MS (M) w26 := (fun x h => hM.chg (Chg.refl [] _) x (mr (mr (h))))
  have hC := hC.trans (Chg.refl [] _) (Ok.nil _ _)
  obtain rfl := Option.some.inj H
  refine rt1 ha rfl rfl ?_
  exact ⟨rfl, hC, hM⟩
 have H := H26
 refine qp 0 (.bool t8) ha rfl rfl rfl (by kernel_rfl) fun a ha => ?_
 refine qp 0 (.bool t8) ha rfl rfl rfl (by kernel_rfl) fun a ha => ?_
 have ha := ha.sel (env' := [(22, .bool t8), (2, .pointer (some ⟨g3, 0, none⟩)), (6, .pointer (some ⟨g12, 0, none⟩)), (7, .int .i64 t10.2), (8, .pointer (some ⟨g20, 0, none⟩)), (9, .int .i64 t18.2)]) (by kernel_rfl)
 rcases Bool.eq_false_or_eq_true (t8) with hb27 | hb27
 ·have ha := ha.lit hb27
  have H := ite_t hb27 H
  refine qv (v := .agg (cA .u8 8 a0).toArray) ha rfl rfl rfl (fun w' hs => ldA_run (cs := (cA .u8 8 a0)) ha rfl (by kernel_rfl) (cells_sub (fun j v hv => hs.keep (hE5 j v hv)) (all := (cA .u8 8 a0)) [] [] (by kernel_rfl))) fun a ha => ?_
  obtain ⟨t28, H28, H⟩ := bind_some H
  refine qc (.string (bstr t28)) ha (by rfl) (by kernel_rfl) (by rfl) (by rfl) (by rfl) (fun w' hs => (rd_Text.walk w' [] (MS.nil _) (hG.chg (M' := []) hs (Ok.nil _ _) (Ok.nil _ _)) a0 k _ H28).mono fun v w'' ⟨hv, hc, _⟩ => ⟨hv, hs.trans hc (Ok.nil _ _)⟩) fun a ha => ?_
  refine qv (v := .agg (cA .u8 8 a0).toArray) ha rfl rfl rfl (fun w' hs => ldA_run (cs := (cA .u8 8 a0)) ha rfl (by kernel_rfl) (cells_sub (fun j v hv => hs.keep (hE5 j v hv)) (all := (cA .u8 8 a0)) [] [] (by kernel_rfl))) fun a ha => ?_
  obtain ⟨t29, H29, H⟩ := bind_some H
  refine qc (.string (bstr t29)) ha (by rfl) (by kernel_rfl) (by rfl) (by rfl) (by rfl) (fun w' hs => (vineryref03_Text.walk w' [] (MS.nil _) a0 k _ H29).mono fun v w'' ⟨hv, hc, _⟩ => ⟨hv, hs.trans hc (Ok.nil _ _)⟩) fun a ha => ?_
  refine qp 0 (.bool ((bstr t28).toList == (bstr t29).toList)) ha rfl rfl rfl (by kernel_rfl) fun a ha => ?_
  refine qp 3 (.bool ((bstr t28).toList == (bstr t29).toList)) ha rfl rfl rfl (by kernel_rfl) fun a ha => ?_
  refine qp 0 (.bool ((bstr t28).toList == (bstr t29).toList)) ha rfl rfl rfl (by kernel_rfl) fun a ha => ?_
  have ha := ha.sel (env' := [(29, .bool ((bstr t28).toList == (bstr t29).toList)), (6, .pointer (some ⟨g12, 0, none⟩)), (7, .int .i64 t10.2), (8, .pointer (some ⟨g20, 0, none⟩)), (9, .int .i64 t18.2)]) (by kernel_rfl)
  rcases Bool.eq_false_or_eq_true ((bstr t28).toList == (bstr t29).toList) with hb30 | hb30
  ·have ha := ha.lit hb30
   have H := ite_t hb30 H
   refine qv (v := .agg (cA .u8 8 t10.1).toArray) ha rfl rfl rfl (fun w' hs => ldA_run (cs := (cA .u8 8 t10.1)) ha rfl (by kernel_rfl) (cells_sub (Box.cells (Box.chg hBg12 hs (fun h => nomatch h))) (all := (cA .u8 8 t10.1)) [] [] (by kernel_rfl))) fun a ha => ?_
   refine qv (v := .agg (cA .u8 8 t18.1).toArray) ha rfl rfl rfl (fun w' hs => ldA_run (cs := (cA .u8 8 t18.1)) ha rfl (by kernel_rfl) (cells_sub (Box.cells (Box.chg hBg20 hs (fun h => nomatch h))) (all := (cA .u8 8 t18.1)) [] [] (by kernel_rfl))) fun a ha => ?_
   refine qv (v := .bool (eqA 8 t10.1 t18.1)) ha rfl rfl rfl (fun w' hs => eqs_run (r := (eqA 8 t10.1 t18.1)) (m := 9) ha rfl rfl (by kernel_rfl) rfl (by kernel_rfl) w') fun a ha => ?_
   refine qp 3 (.bool (eqA 8 t10.1 t18.1)) ha rfl rfl rfl (by kernel_rfl) fun a ha => ?_
   refine qp 0 (.bool (eqA 8 t10.1 t18.1)) ha rfl rfl rfl (by kernel_rfl) fun a ha => ?_
   have ha := ha.sel (env' := [(34, .bool (eqA 8 t10.1 t18.1)), (7, .int .i64 t10.2), (9, .int .i64 t18.2)]) (by kernel_rfl)
   rcases Bool.eq_false_or_eq_true ((eqA 8 t10.1 t18.1)) with hb31 | hb31
   ·have ha := ha.lit hb31
    have H := ite_t hb31 H
    refine qp 0 (.int .i64 t10.2) ha rfl rfl rfl (by kernel_rfl) fun a ha => ?_
    refine qp 0 (.int .i64 t18.2) ha rfl rfl rfl (by kernel_rfl) fun a ha => ?_
    refine qp 0 (.bool (t10.2 == t18.2)) ha rfl rfl rfl (by kernel_rfl) fun a ha => ?_
    refine qp 3 (.bool (t10.2 == t18.2)) ha rfl rfl rfl (by kernel_rfl) fun a ha => ?_
    refine qp 0 (.bool (t10.2 == t18.2)) ha rfl rfl rfl (by kernel_rfl) fun a ha => ?_
    refine wpQuiet_nil ?_
    intro w32 hc33
    have o1 : Ok [] ([g20] ++ ([g12] ++ (M))) w23.heap.size := Ok.nil _ _
    have o2 : Ok ([g20] ++ ([g12] ++ (M))) ([g20] ++ ([g12] ++ (M))) w23.heap.size := (Ok.refl _ _)
    have hG := hG.chg hc33 o1 o2
    have hBg12 := hBg12.chg hc33 (fun h => nomatch h)
    have hBg20 := hBg20.chg hc33 (fun h => nomatch h)
    have hM : MS ([g20] ++ ([g12] ++ (M))) w32 := (hM.chg hc33)
    have hC := hC.trans hc33 (Ok.nil _ _)
    refine wpl_end ?_
    obtain rfl := Option.some.inj H
    exact J26 _ _ (ha.sel (by kernel_rfl)) hBg12 hBg20 hG hC hM
   ·have ha := ha.lit hb31
    have H := ite_f hb31 H
    refine qo ha rfl rfl rfl fun a ha => ?_
    refine qo ha rfl rfl rfl fun a ha => ?_
    refine qo ha rfl rfl rfl fun a ha => ?_
    refine qp 4 (.bool false) ha rfl rfl rfl (by kernel_rfl) fun a ha => ?_
    refine qp 0 (.bool false) ha rfl rfl rfl (by kernel_rfl) fun a ha => ?_
    refine wpQuiet_nil ?_
    intro w34 hc35
    have o1 : Ok [] ([g20] ++ ([g12] ++ (M))) w23.heap.size := Ok.nil _ _
    have o2 : Ok ([g20] ++ ([g12] ++ (M))) ([g20] ++ ([g12] ++ (M))) w23.heap.size := (Ok.refl _ _)
    have hG := hG.chg hc35 o1 o2
    have hBg12 := hBg12.chg hc35 (fun h => nomatch h)
    have hBg20 := hBg20.chg hc35 (fun h => nomatch h)
    have hM : MS ([g20] ++ ([g12] ++ (M))) w34 := (hM.chg hc35)
    have hC := hC.trans hc35 (Ok.nil _ _)
    refine wpl_end ?_
    obtain rfl := Option.some.inj H
    exact J26 _ _ (ha.sel (by kernel_rfl)) hBg12 hBg20 hG hC hM
  ·have ha := ha.lit hb30
   have H := ite_f hb30 H
   refine qo ha rfl rfl rfl fun a ha => ?_
   refine qo ha rfl rfl rfl fun a ha => ?_
   refine qo ha rfl rfl rfl fun a ha => ?_
   refine qp 4 (.bool false) ha rfl rfl rfl (by kernel_rfl) fun a ha => ?_
   refine qp 0 (.bool false) ha rfl rfl rfl (by kernel_rfl) fun a ha => ?_
   refine qo ha rfl rfl rfl fun a ha => ?_
   refine qo ha rfl rfl rfl fun a ha => ?_
   refine qo ha rfl rfl rfl fun a ha => ?_
   refine qp 4 (.bool false) ha rfl rfl rfl (by kernel_rfl) fun a ha => ?_
   refine qp 0 (.bool false) ha rfl rfl rfl (by kernel_rfl) fun a ha => ?_
   refine wpQuiet_nil ?_
   intro w36 hc37
   have o1 : Ok [] ([g20] ++ ([g12] ++ (M))) w23.heap.size := Ok.nil _ _
   have o2 : Ok ([g20] ++ ([g12] ++ (M))) ([g20] ++ ([g12] ++ (M))) w23.heap.size := (Ok.refl _ _)
   have hG := hG.chg hc37 o1 o2
   have hBg12 := hBg12.chg hc37 (fun h => nomatch h)
   have hBg20 := hBg20.chg hc37 (fun h => nomatch h)
   have hM : MS ([g20] ++ ([g12] ++ (M))) w36 := (hM.chg hc37)
   have hC := hC.trans hc37 (Ok.nil _ _)
   refine wpl_end ?_
   obtain rfl := Option.some.inj H
   exact J26 _ _ (ha.sel (by kernel_rfl)) hBg12 hBg20 hG hC hM
 ·have ha := ha.lit hb27
  have H := ite_f hb27 H
  refine qo ha rfl rfl rfl fun a ha => ?_
  refine qo ha rfl rfl rfl fun a ha => ?_
  refine qo ha rfl rfl rfl fun a ha => ?_
  refine qo ha rfl rfl rfl fun a ha => ?_
  refine qo ha rfl rfl rfl fun a ha => ?_
  refine qp 4 (.bool false) ha rfl rfl rfl (by kernel_rfl) fun a ha => ?_
  refine qp 0 (.bool false) ha rfl rfl rfl (by kernel_rfl) fun a ha => ?_
  refine qo ha rfl rfl rfl fun a ha => ?_
  refine qo ha rfl rfl rfl fun a ha => ?_
  refine qo ha rfl rfl rfl fun a ha => ?_
  refine qp 4 (.bool false) ha rfl rfl rfl (by kernel_rfl) fun a ha => ?_
  refine qp 0 (.bool false) ha rfl rfl rfl (by kernel_rfl) fun a ha => ?_
  refine qo ha rfl rfl rfl fun a ha => ?_
  refine qo ha rfl rfl rfl fun a ha => ?_
  refine qo ha rfl rfl rfl fun a ha => ?_
  refine qp 4 (.bool false) ha rfl rfl rfl (by kernel_rfl) fun a ha => ?_
  refine qp 0 (.bool false) ha rfl rfl rfl (by kernel_rfl) fun a ha => ?_
  refine wpQuiet_nil ?_
  intro w38 hc39
  have o1 : Ok [] ([g20] ++ ([g12] ++ (M))) w23.heap.size := Ok.nil _ _
  have o2 : Ok ([g20] ++ ([g12] ++ (M))) ([g20] ++ ([g12] ++ (M))) w23.heap.size := (Ok.refl _ _)
  have hG := hG.chg hc39 o1 o2
  have hBg12 := hBg12.chg hc39 (fun h => nomatch h)
  have hBg20 := hBg20.chg hc39 (fun h => nomatch h)
  have q_hn6 : g3 ∉ [g20] ++ ([g12] ++ (M)) := fun h => (o2 g3 h).elim hn6 (fun h => absurd (lt_cell (hE5 0 _ rfl)) (Nat.not_lt.2 h))
  have hE5 : ∀ j v, (cA .u8 8 a0)[j]? = some v → w38.cell? ⟨g3, 0 + j, none⟩ = some v := fun j v hv => (cell_keep hc39 o1 hn6 (hE5 j v hv))
  have hn6 := q_hn6
  have hM : MS ([g20] ++ ([g12] ++ (M))) w38 := (hM.chg hc39)
  have hC := hC.trans hc39 (Ok.nil _ _)
  refine wpl_end ?_
  obtain rfl := Option.some.inj H
  exact J26 _ _ (ha.sel (by kernel_rfl)) hBg12 hBg20 hG hC hM
end Go.E
