/- What the functions that the law reaches compute, and the walks that show it. -/
import Derived.Test.YtoeenagdbjppgaaDoorEngO
import Derived.Test.YtoeenagdbjppgaaDoorProg
import Derived.Test.YtoeenagdbjppgaaDoorGenPmsiCodesP2
set_option linter.unusedVariables false
set_option linter.unusedSimpArgs false
namespace Go.E
open Go.RowKit Go.Proofs
def vineryref06_rough.f (k : Nat) (a0 : List Int) : Option (S_api_Tunnel) := (vineryref01_Open.f a0).bind fun t8 => (vineryref01_Reader_Num.f k t8 (1 : Int)).bind fun t13 => (vineryref01_Reader_Num.f k t13.2 (1 : Int)).bind fun t16 => (vineryref01_Reader_Take.f t16.2 (3 : Int)).bind fun t25 => (vineryref05_Read.f k t25.1).bind fun t28 => (vineryref01_Reader_Left.f t25.2).bind fun t33 => (if (t16.1 == (1 : Int)) = true then (vineryref01_Reader_Take.f t25.2 (4 : Int)).bind fun t39 => (vineryref01_Reader_Take.f t39.2 (2 : Int)).bind fun t43 => (vineryref01_Reader_Take.f t43.2 (2 : Int)).bind fun t47 => (if (t39.1.length + t47.1.length) * 1 ≤ 140737488355328 then (vineryref01_Reader_Take.f t47.2 (4 : Int)).bind fun t56 => (vineryref02_Of.f k t56.1).bind fun t59 => (((if (t16.1 == (2 : Int)) = true then some (true : Bool) else some (t16.1 == (7 : Int) : Bool))).bind fun s106 => (if s106 = true then (vineryref01_Reader_Take.f t56.2 (2 : Int)).bind fun t108 => some ((t108.2.B : List Int), (t108.2.At : Int), (t108.2.No : Bool)) else some ((t56.2.B : List Int), (t56.2.At : Int), (t56.2.No : Bool)))).bind fun s70 => ((vineryref01_Reader_Rest.f (⟨s70.1, s70.2.1, s70.2.2⟩ : S_vineryref01_Reader)).bind fun t83 => (if ((t39.1 ++ t47.1).length + t83.1.length) * 1 ≤ 140737488355328 then some ((t83.2.B : List Int), (t83.2.At : Int), (t83.2.No : Bool), (((t39.1 ++ t47.1) ++ t83.1) : List Int)) else none)).bind fun s75 => some (((⟨t13.1 == (1 : Int), t16.1, t28.1, t59.1, s75.2.2.2⟩ : S_api_Tunnel) : S_api_Tunnel)) else none) else ((if (t16.1 == (2 : Int)) = true then some (t16.1 == (2 : Int) : Bool) else some (t16.1 == (7 : Int) : Bool))).bind fun s113 => (if s113 = true then (vineryref01_Reader_Take.f t25.2 (3 : Int)).bind fun t116 => (vineryref01_Reader_Num.f k t116.2 (1 : Int)).bind fun t119 => (vineryref01_Reader_Take.f t119.2 t119.1).bind fun t122 => (vineryref02_Of.f k t122.1).bind fun t125 => (((if (t16.1 == (2 : Int)) = true then some (true : Bool) else some (t16.1 == (7 : Int) : Bool))).bind fun s172 => (if s172 = true then (vineryref01_Reader_Take.f t122.2 (2 : Int)).bind fun t174 => some ((t174.2.B : List Int), (t174.2.At : Int), (t174.2.No : Bool)) else some ((t122.2.B : List Int), (t122.2.At : Int), (t122.2.No : Bool)))).bind fun s136 => ((vineryref01_Reader_Rest.f (⟨s136.1, s136.2.1, s136.2.2⟩ : S_vineryref01_Reader)).bind fun t149 => (if (([] : List Int).length + t149.1.length) * 1 ≤ 140737488355328 then some ((t149.2.B : List Int), (t149.2.At : Int), (t149.2.No : Bool), ((([] : List Int) ++ t149.1) : List Int)) else none)).bind fun s141 => some (((⟨t13.1 == (1 : Int), t16.1, t28.1, t125.1, s141.2.2.2⟩ : S_api_Tunnel) : S_api_Tunnel)) else ((if (t16.1 == (3 : Int)) = true then some (t16.1 == (3 : Int) : Bool) else (if (t16.1 == (4 : Int)) = true then some (t16.1 == (4 : Int) : Bool) else some (t16.1 == (5 : Int) : Bool)))).bind fun s179 => (if s179 = true then (vineryref01_Reader_Take.f t25.2 (IntKind.i64.wrap (Int.tdiv t33 (2 : Int)))).bind fun t182 => (vineryref02_Of.f k t182.1).bind fun t185 => (((if (t16.1 == (2 : Int)) = true then some (true : Bool) else some (t16.1 == (7 : Int) : Bool))).bind fun s232 => (if s232 = true then (vineryref01_Reader_Take.f t182.2 (2 : Int)).bind fun t234 => some ((t234.2.B : List Int), (t234.2.At : Int), (t234.2.No : Bool)) else some ((t182.2.B : List Int), (t182.2.At : Int), (t182.2.No : Bool)))).bind fun s196 => ((vineryref01_Reader_Rest.f (⟨s196.1, s196.2.1, s196.2.2⟩ : S_vineryref01_Reader)).bind fun t209 => (if (([] : List Int).length + t209.1.length) * 1 ≤ 140737488355328 then some ((t209.2.B : List Int), (t209.2.At : Int), (t209.2.No : Bool), ((([] : List Int) ++ t209.1) : List Int)) else none)).bind fun s201 => some (((⟨t13.1 == (1 : Int), t16.1, t28.1, t185.1, s201.2.2.2⟩ : S_api_Tunnel) : S_api_Tunnel)) else (vineryref01_Reader_Take.f t25.2 t33).bind fun t239 => (vineryref02_Of.f k t239.1).bind fun t242 => (((if (t16.1 == (2 : Int)) = true then some (true : Bool) else some (t16.1 == (7 : Int) : Bool))).bind fun s289 => (if s289 = true then (vineryref01_Reader_Take.f t239.2 (2 : Int)).bind fun t291 => some ((t291.2.B : List Int), (t291.2.At : Int), (t291.2.No : Bool)) else some ((t239.2.B : List Int), (t239.2.At : Int), (t239.2.No : Bool)))).bind fun s253 => ((vineryref01_Reader_Rest.f (⟨s253.1, s253.2.1, s253.2.2⟩ : S_vineryref01_Reader)).bind fun t266 => (if (([] : List Int).length + t266.1.length) * 1 ≤ 140737488355328 then some ((t266.2.B : List Int), (t266.2.At : Int), (t266.2.No : Bool), ((([] : List Int) ++ t266.1) : List Int)) else none)).bind fun s258 => some (((⟨t13.1 == (1 : Int), t16.1, t28.1, t242.1, s258.2.2.2⟩ : S_api_Tunnel) : S_api_Tunnel)))))
set_option maxRecDepth 100000 in
theorem vineryref06_rough.walk (w : World) (M : List Nat) (hM : MS M w) (a0 : List Int) (ao1 : Option Addr) (cap1 : Nat) (f1 : RSl (rInt .u8) 5 w M ao1 cap1 a0) (k : Nat) (r : S_api_Tunnel) (H : vineryref06_rough.f k a0 = some r) :
    To Tryd.prog 52 [.slice ao1 a0.length cap1] w fun v w' => ∃ (ao301 : Option Addr) (cap301 : Nat), v = .agg (cS_api_Tunnel r ao301 cap301).toArray ∧ (Own (rInt .u8) 5 w' (blkL ao301 ++ (M)) ao301 cap301 r.Id) ∧ (∀ x ∈ blkL ao301, w.heap.size ≤ x) ∧ Chg [] w w' ∧ MS (blkL ao301 ++ (M)) w' := by
 unfold vineryref06_rough.f at H
 refine ent Tryd.func52 rfl [(0, .slice ao1 a0.length cap1)] rfl (by rfl) fun a ha => ?_
 have hC : Chg [] w w := Chg.refl _ _
 refine wp_seq_k fun K2 hK2 => ?_
 refine wp_region_lit ?_
 refine al (cs := (cS_api_Tunnel (⟨false, (0 : Int), (0 : Int), (⟨(0 : Int), (List.replicate 16 (0 : Int))⟩ : S_api_Addr), ([] : List Int)⟩ : S_api_Tunnel) none 0)) (z := .agg (cS_api_Tunnel (⟨false, (0 : Int), (0 : Int), (⟨(0 : Int), (List.replicate 16 (0 : Int))⟩ : S_api_Addr), ([] : List Int)⟩ : S_api_Tunnel) none 0).toArray) ha (fun w => by kernel_rfl) rfl rfl rfl rfl fun a w3 g4 hN5 ha => ?_
 have o1 : Ok [] (M) w.heap.size := Ok.nil _ _
 have o2 : Ok ([g4] ++ (M)) (M) w.heap.size := (Ok.app (hN5.ok _) (Ok.refl _ _))
 have f1 := f1.chg hN5.chg o1 o2
 have p_i6_M : ∀ x ∈ [g4], x ∉ M := fun x hx hy => absurd (hM x (hy)) (Nat.not_lt.2 ((hN5.ge1) x hx))
 have e_i6 : ∀ x ∈ [g4], w.heap.size ≤ x := fun x hx => Nat.le_trans hC.size ((hN5.ge1) x hx)
 have hM : MS ([g4] ++ (M)) w3 := (MS.app hN5.ms (hM.chg hN5.chg))
 have hC := hC.trans hN5.chg (Ok.nil _ _)
 have hBg4 : Box w3 g4 (cS_api_Tunnel (⟨false, (0 : Int), (0 : Int), (⟨(0 : Int), (List.replicate 16 (0 : Int))⟩ : S_api_Addr), ([] : List Int)⟩ : S_api_Tunnel) none 0) := hN5.box
 refine hK2 _ _ ?_; try clear hK2 K2
 refine wp_seq_k fun K7 hK7 => ?_
 refine wp_region_lit ?_
 refine seg ha 1 [(2, .pointer (some ⟨g4, 0, none⟩)), (13, .slice ao1 a0.length cap1)] (by kernel_rfl) fun a ha => ?_
 obtain ⟨t8, H8, H⟩ := bind_some H
 refine cl ha (by rfl) (by kernel_rfl) (by rfl) (by rfl) (by rfl) (vineryref01_Open.walk w3 _ hM a0 ao1 cap1 f1 _ H8) ?_
 rintro _ w8 ⟨g9, ao11, cap11, rfl, f11, hBg9, ne_i10, hc8, hMn⟩ a ha
 have o1 : Ok [] ([g4] ++ (M)) w3.heap.size := Ok.nil _ _
 have o2 : Ok ([g9] ++ ([g4] ++ (M))) ([g4] ++ (M)) w3.heap.size := (Ok.app (fun x h => .inr (ne_i10 x h)) (Ok.refl _ _))
 have f1 := f1.chg hc8 o1 o2
 have hBg4 := hBg4.chg hc8 (fun h => nomatch h)
 have p_i10_i6 : ∀ x ∈ [g9], x ∉ ([g4]) := fun x hx hy => absurd (hM x (ml hy)) (Nat.not_lt.2 (ne_i10 x hx))
 have p_i10_M : ∀ x ∈ [g9], x ∉ M := fun x hx hy => absurd (hM x (mr (hy))) (Nat.not_lt.2 (ne_i10 x hx))
 have e_i10 : ∀ x ∈ [g9], w.heap.size ≤ x := fun x hx => Nat.le_trans hC.size (ne_i10 x hx)
 have hM : MS ([g9] ++ ([g4] ++ (M))) w8 := (MS.app (fun x h => hMn x (ml h)) (hM.chg hc8))
 have hC := hC.trans hc8 (Ok.nil _ _)
 refine seg ha 1 [(2, .pointer (some ⟨g4, 0, none⟩)), (3, .pointer (some ⟨g9, 0, none⟩))] (by kernel_rfl) fun a ha => ?_
 refine hK7 _ _ ?_; try clear hK7 K7
 refine wp_seq_k fun K12 hK12 => ?_
 refine wp_region_lit ?_
 refine seg ha 1 [(2, .pointer (some ⟨g4, 0, none⟩)), (3, .pointer (some ⟨g9, 0, none⟩)), (15, .pointer (some ⟨g9, 0, none⟩))] (by kernel_rfl) fun a ha => ?_
 obtain ⟨t13, H13, H⟩ := bind_some H
 refine cl ha (by rfl) (by kernel_rfl) (by rfl) (by rfl) (by rfl) (vineryref01_Reader_Num.walk w8 _ hM g9 t8 ao11 cap11 f11 hBg9 (ml (List.mem_singleton.2 rfl)) (1 : Int) k _ H13) ?_
 rintro _ w13 ⟨ao14, cap14, rfl, f14, qhBg9, hc13, hMn⟩ a ha
 have o1 : Ok [g9] ([g9] ++ ([g4] ++ (M))) w8.heap.size := (fun _ h => .inl (ml h))
 have o2 : Ok ([g9] ++ ([g4] ++ (M))) ([g9] ++ ([g4] ++ (M))) w8.heap.size := (Ok.refl _ _)
 have f11 := f11.chg hc13 o1 o2
 have hBg4 := hBg4.chg hc13 ((fun x (hx : x ∈ [g4]) (hy : x ∈ [g9]) => p_i10_i6 x hy hx) g4 (by simp))
 have hM : MS ([g9] ++ ([g4] ++ (M))) w13 := (hM.chg hc13)
 have hC := hC.trans hc13 (fun x h => .inr (e_i10 x h))
 have hBg9 := qhBg9
 refine seg ha 1 [(2, .pointer (some ⟨g4, 0, none⟩)), (3, .pointer (some ⟨g9, 0, none⟩)), (4, .int .i64 t13.1)] (by kernel_rfl) fun a ha => ?_
 refine hK12 _ _ ?_; try clear hK12 K12
 refine wp_seq_k fun K15 hK15 => ?_
 refine wp_region_lit ?_
 refine seg ha 3 [(2, .pointer (some ⟨g4, 0, none⟩)), (3, .pointer (some ⟨g9, 0, none⟩)), (18, .bool (t13.1 == (1 : Int))), (19, .pointer (some ⟨g9, 0, none⟩))] (by kernel_rfl) fun a ha => ?_
 obtain ⟨t16, H16, H⟩ := bind_some H
 refine cl ha (by rfl) (by kernel_rfl) (by rfl) (by rfl) (by rfl) (vineryref01_Reader_Num.walk w13 _ hM g9 t13.2 ao14 cap14 f14 hBg9 (ml (List.mem_singleton.2 rfl)) (1 : Int) k _ H16) ?_
 rintro _ w16 ⟨ao17, cap17, rfl, f17, qhBg9, hc16, hMn⟩ a ha
 have o1 : Ok [g9] ([g9] ++ ([g4] ++ (M))) w13.heap.size := (fun _ h => .inl (ml h))
 have o2 : Ok ([g9] ++ ([g4] ++ (M))) ([g9] ++ ([g4] ++ (M))) w13.heap.size := (Ok.refl _ _)
 have f14 := f14.chg hc16 o1 o2
 have hBg4 := hBg4.chg hc16 ((fun x (hx : x ∈ [g4]) (hy : x ∈ [g9]) => p_i10_i6 x hy hx) g4 (by simp))
 have hM : MS ([g9] ++ ([g4] ++ (M))) w16 := (hM.chg hc16)
 have hC := hC.trans hc16 (fun x h => .inr (e_i10 x h))
 have hBg9 := qhBg9
 refine opk (v := .agg (cS_api_Tunnel (⟨t13.1 == (1 : Int), t16.1, (0 : Int), (⟨(0 : Int), (List.replicate 16 (0 : Int))⟩ : S_api_Addr), ([] : List Int)⟩ : S_api_Tunnel) none 0).toArray) ha rfl rfl rfl rfl rfl (fun w => by kernel_rfl) fun a ha => ?_
 refine al (cs := (cS_api_Tunnel (⟨false, (0 : Int), (0 : Int), (⟨(0 : Int), (List.replicate 16 (0 : Int))⟩ : S_api_Addr), ([] : List Int)⟩ : S_api_Tunnel) none 0)) (z := .agg (cS_api_Tunnel (⟨false, (0 : Int), (0 : Int), (⟨(0 : Int), (List.replicate 16 (0 : Int))⟩ : S_api_Addr), ([] : List Int)⟩ : S_api_Tunnel) none 0).toArray) ha (fun w => by kernel_rfl) rfl rfl rfl rfl fun a w18 g19 hN20 ha => ?_
 have o1 : Ok [] ([g9] ++ ([g4] ++ (M))) w16.heap.size := Ok.nil _ _
 have o2 : Ok ([g19] ++ ([g9] ++ ([g4] ++ (M)))) ([g9] ++ ([g4] ++ (M))) w16.heap.size := (Ok.app (hN20.ok _) (Ok.refl _ _))
 have f17 := f17.chg hN20.chg o1 o2
 have hBg4 := hBg4.chg hN20.chg (fun h => nomatch h)
 have hBg9 := hBg9.chg hN20.chg (fun h => nomatch h)
 have p_i21_i10 : ∀ x ∈ [g19], x ∉ ([g9]) := fun x hx hy => absurd (hM x (ml hy)) (Nat.not_lt.2 ((hN20.ge1) x hx))
 have p_i21_i6 : ∀ x ∈ [g19], x ∉ ([g4]) := fun x hx hy => absurd (hM x (mr (ml hy))) (Nat.not_lt.2 ((hN20.ge1) x hx))
 have p_i21_M : ∀ x ∈ [g19], x ∉ M := fun x hx hy => absurd (hM x (mr (mr (hy)))) (Nat.not_lt.2 ((hN20.ge1) x hx))
 have e_i21 : ∀ x ∈ [g19], w.heap.size ≤ x := fun x hx => Nat.le_trans hC.size ((hN20.ge1) x hx)
 have hM : MS ([g19] ++ ([g9] ++ ([g4] ++ (M)))) w18 := (MS.app hN20.ms (hM.chg hN20.chg))
 have hC := hC.trans hN20.chg (Ok.nil _ _)
 have hBg19 : Box w18 g19 (cS_api_Tunnel (⟨false, (0 : Int), (0 : Int), (⟨(0 : Int), (List.replicate 16 (0 : Int))⟩ : S_api_Addr), ([] : List Int)⟩ : S_api_Tunnel) none 0) := hN20.box
 refine stA (l := (cS_api_Tunnel (⟨t13.1 == (1 : Int), t16.1, (0 : Int), (⟨(0 : Int), (List.replicate 16 (0 : Int))⟩ : S_api_Addr), ([] : List Int)⟩ : S_api_Tunnel) none 0)) ha rfl rfl rfl (by kernel_rfl) rfl rfl hBg19 rfl fun a w22 ha hb2 hc23 _ => ?_
 have o1 : Ok [g19] ([g19] ++ ([g9] ++ ([g4] ++ (M)))) w18.heap.size := (fun _ h => .inl (ml h))
 have o2 : Ok ([g19] ++ ([g9] ++ ([g4] ++ (M)))) ([g19] ++ ([g9] ++ ([g4] ++ (M)))) w18.heap.size := (Ok.refl _ _)
 have f17 := f17.chg hc23 o1 o2
 have hBg4 := hBg4.chg hc23 ((fun x (hx : x ∈ [g4]) (hy : x ∈ [g19]) => p_i21_i6 x hy hx) g4 (by simp))
 have hBg9 := hBg9.chg hc23 ((fun x (hx : x ∈ [g9]) (hy : x ∈ [g19]) => p_i21_i10 x hy hx) g9 (by simp))
 have hM : MS ([g19] ++ ([g9] ++ ([g4] ++ (M)))) w22 := (hM.chg hc23)
 have hC := hC.trans hc23 (fun x h => .inr (e_i21 x h))
 have hBg19 : Box w22 g19 (cS_api_Tunnel (⟨t13.1 == (1 : Int), t16.1, (0 : Int), (⟨(0 : Int), (List.replicate 16 (0 : Int))⟩ : S_api_Addr), ([] : List Int)⟩ : S_api_Tunnel) none 0) := hb2
 refine hK15 _ _ ?_; try clear hK15 K15
 refine wp_seq_k fun K24 hK24 => ?_
 refine wp_region_lit ?_
 refine seg ha 1 [(2, .pointer (some ⟨g4, 0, none⟩)), (3, .pointer (some ⟨g9, 0, none⟩)), (5, .pointer (some ⟨g19, 0, none⟩)), (23, .pointer (some ⟨g9, 0, none⟩))] (by kernel_rfl) fun a ha => ?_
 obtain ⟨t25, H25, H⟩ := bind_some H
 refine cl ha (by rfl) (by kernel_rfl) (by rfl) (by rfl) (by rfl) (vineryref01_Reader_Take.walk w22 _ hM g9 t16.2 ao17 cap17 f17 hBg9 (mr (ml (List.mem_singleton.2 rfl))) (3 : Int) _ H25) ?_
 rintro _ w25 ⟨ao26, cap26, ao27, cap27, rfl, f26, f27, qhBg9, ne_i26, hc25, hMn⟩ a ha
 have o1 : Ok [g9] ([g19] ++ ([g9] ++ ([g4] ++ (M)))) w22.heap.size := (fun _ h => .inl (mr (ml h)))
 have o2 : Ok (blkL ao26 ++ ([g19] ++ ([g9] ++ ([g4] ++ (M))))) ([g19] ++ ([g9] ++ ([g4] ++ (M)))) w22.heap.size := (Ok.app (fun x h => .inr (ne_i26 x h)) (Ok.refl _ _))
 have f17 := f17.chg hc25 o1 o2
 have hBg4 := hBg4.chg hc25 ((fun x (hx : x ∈ [g4]) (hy : x ∈ [g9]) => p_i10_i6 x hy hx) g4 (by simp))
 have hBg19 := hBg19.chg hc25 (p_i21_i10 g19 (by simp))
 have p_i26_i21 : ∀ x ∈ blkL ao26, x ∉ ([g19]) := fun x hx hy => absurd (hM x (ml hy)) (Nat.not_lt.2 (ne_i26 x hx))
 have p_i26_i10 : ∀ x ∈ blkL ao26, x ∉ ([g9]) := fun x hx hy => absurd (hM x (mr (ml hy))) (Nat.not_lt.2 (ne_i26 x hx))
 have p_i26_i6 : ∀ x ∈ blkL ao26, x ∉ ([g4]) := fun x hx hy => absurd (hM x (mr (mr (ml hy)))) (Nat.not_lt.2 (ne_i26 x hx))
 have p_i26_M : ∀ x ∈ blkL ao26, x ∉ M := fun x hx hy => absurd (hM x (mr (mr (mr (hy))))) (Nat.not_lt.2 (ne_i26 x hx))
 have e_i26 : ∀ x ∈ blkL ao26, w.heap.size ≤ x := fun x hx => Nat.le_trans hC.size (ne_i26 x hx)
 have hM : MS (blkL ao26 ++ ([g19] ++ ([g9] ++ ([g4] ++ (M))))) w25 := (MS.app (fun x h => hMn x (ml h)) (hM.chg hc25))
 have hC := hC.trans hc25 (fun x h => .inr (e_i10 x h))
 have hBg9 := qhBg9
 have hML : MS ([g19] ++ ([g9] ++ ([g4] ++ (M)))) w25 := MS.rest hM (fun _ h => (List.mem_append.1 h).elim (fun h => mr (ml h)) (fun h => (List.mem_append.1 h).elim (fun h => mr (mr (ml h))) (fun h => (List.mem_append.1 h).elim (fun h => mr (mr (mr (ml h)))) (fun h => mr (mr (mr (mr (h))))))))
 have oL : Ok ([g19] ++ ([g9] ++ ([g4] ++ (M)))) (blkL ao26 ++ ([g19] ++ ([g9] ++ ([g4] ++ (M))))) w25.heap.size := (fun _ h => .inl (mr (h)))
 obtain ⟨t28, H28, H⟩ := bind_some H
 refine cl ha (by rfl) (by kernel_rfl) (by rfl) (by rfl) (by rfl) (vineryref05_Read.walk w25 _ hML t25.1 ao26 cap26 (Own.toRSl (M' := [g19] ++ ([g9] ++ ([g4] ++ (M)))) f26 oL (fun x hx hm => (List.mem_append.1 hm).elim (fun h => p_i26_i21 x hx h) (fun h => (List.mem_append.1 h).elim (fun h => p_i26_i10 x hx h) (fun h => (List.mem_append.1 h).elim (fun h => p_i26_i6 x hx h) (fun h => p_i26_M x hx h))))) k _ H28) ?_
 rintro _ w28 ⟨rfl, hc28, hMn⟩ a ha
 have o1 : Ok [] (blkL ao26 ++ ([g19] ++ ([g9] ++ ([g4] ++ (M))))) w25.heap.size := Ok.nil _ _
 have o2 : Ok (blkL ao26 ++ ([g19] ++ ([g9] ++ ([g4] ++ (M))))) (blkL ao26 ++ ([g19] ++ ([g9] ++ ([g4] ++ (M))))) w25.heap.size := (Ok.refl _ _)
 have f26 := f26.chg hc28 o1 o2 (fun _ _ h => nomatch h) (fun _ h => ml h)
 have f27 := f27.chg hc28 o1 o2
 have hBg4 := hBg4.chg hc28 (fun h => nomatch h)
 have hBg9 := hBg9.chg hc28 (fun h => nomatch h)
 have hBg19 := hBg19.chg hc28 (fun h => nomatch h)
 have hM : MS (blkL ao26 ++ ([g19] ++ ([g9] ++ ([g4] ++ (M))))) w28 := (hM.chg hc28)
 have hC := hC.trans hc28 (Ok.nil _ _)
 refine seg ha 7 [(2, .pointer (some ⟨g4, 0, none⟩)), (3, .pointer (some ⟨g9, 0, none⟩)), (5, .pointer (some ⟨g19, 0, none⟩)), (6, .int .i64 t28.1)] (by kernel_rfl) fun a ha => ?_
 refine hK24 _ _ ?_; try clear hK24 K24
 refine wp_seq_k fun K29 hK29 => ?_
 refine wp_region_lit ?_
 refine seg ha 2 [(2, .pointer (some ⟨g4, 0, none⟩)), (3, .pointer (some ⟨g9, 0, none⟩)), (5, .pointer (some ⟨g19, 0, none⟩)), (29, .int .i64 t28.1), (30, .pointer (some ⟨g19, 2, none⟩))] (by kernel_rfl) fun a ha => ?_
 refine st ha rfl rfl rfl (by kernel_rfl) rfl rfl hBg19 (Nat.le_of_ble_eq_true (by kernel_rfl)) fun a w30 ha hb2 hc31 _ => ?_
 have o1 : Ok [g19] (blkL ao26 ++ ([g19] ++ ([g9] ++ ([g4] ++ (M))))) w28.heap.size := (fun _ h => .inl (mr (ml h)))
 have o2 : Ok (blkL ao26 ++ ([g19] ++ ([g9] ++ ([g4] ++ (M))))) (blkL ao26 ++ ([g19] ++ ([g9] ++ ([g4] ++ (M))))) w28.heap.size := (Ok.refl _ _)
 have f27 := f27.chg hc31 o1 o2
 have hBg4 := hBg4.chg hc31 ((fun x (hx : x ∈ [g4]) (hy : x ∈ [g19]) => p_i21_i6 x hy hx) g4 (by simp))
 have hBg9 := hBg9.chg hc31 ((fun x (hx : x ∈ [g9]) (hy : x ∈ [g19]) => p_i21_i10 x hy hx) g9 (by simp))
 have hM : MS (blkL ao26 ++ ([g19] ++ ([g9] ++ ([g4] ++ (M))))) w30 := (hM.chg hc31)
 have hC := hC.trans hc31 (fun x h => .inr (e_i21 x h))
 have hBg19 : Box w30 g19 (cS_api_Tunnel (⟨t13.1 == (1 : Int), t16.1, t28.1, (⟨(0 : Int), (List.replicate 16 (0 : Int))⟩ : S_api_Addr), ([] : List Int)⟩ : S_api_Tunnel) none 0) := hb2
 refine hK29 _ _ ?_; try clear hK29 K29
 refine wp_seq_k fun K32 hK32 => ?_
 refine wp_region_lit ?_
 refine seg ha 1 [(2, .pointer (some ⟨g4, 0, none⟩)), (3, .pointer (some ⟨g9, 0, none⟩)), (5, .pointer (some ⟨g19, 0, none⟩)), (31, .pointer (some ⟨g9, 0, none⟩))] (by kernel_rfl) fun a ha => ?_
 obtain ⟨t33, H33, H⟩ := bind_some H
 refine cl ha (by rfl) (by kernel_rfl) (by rfl) (by rfl) (by rfl) (vineryref01_Reader_Left.walk w30 _ hM g9 t25.2 ao27 cap27 f27 hBg9 (mr (mr (ml (List.mem_singleton.2 rfl)))) _ H33) ?_
 rintro _ w33 ⟨rfl, hc33, hMn⟩ a ha
 have o1 : Ok [] (blkL ao26 ++ ([g19] ++ ([g9] ++ ([g4] ++ (M))))) w30.heap.size := Ok.nil _ _
 have o2 : Ok (blkL ao26 ++ ([g19] ++ ([g9] ++ ([g4] ++ (M))))) (blkL ao26 ++ ([g19] ++ ([g9] ++ ([g4] ++ (M))))) w30.heap.size := (Ok.refl _ _)
 have f27 := f27.chg hc33 o1 o2
 have hBg4 := hBg4.chg hc33 (fun h => nomatch h)
 have hBg9 := hBg9.chg hc33 (fun h => nomatch h)
 have hBg19 := hBg19.chg hc33 (fun h => nomatch h)
 have hM : MS (blkL ao26 ++ ([g19] ++ ([g9] ++ ([g4] ++ (M))))) w33 := (hM.chg hc33)
 have hC := hC.trans hc33 (Ok.nil _ _)
 refine seg ha 1 [(2, .pointer (some ⟨g4, 0, none⟩)), (3, .pointer (some ⟨g9, 0, none⟩)), (5, .pointer (some ⟨g19, 0, none⟩)), (9, .int .i64 t33)] (by kernel_rfl) fun a ha => ?_
 refine hK32 _ _ ?_; try clear hK32 K32
 refine wp_seq_k fun K34 hK34 => ?_
 refine wp_seq_k fun K35 hK35 => ?_
 refine wp_region_lit ?_
 refine seg ha 1 [(2, .pointer (some ⟨g4, 0, none⟩)), (3, .pointer (some ⟨g9, 0, none⟩)), (5, .pointer (some ⟨g19, 0, none⟩)), (9, .int .i64 t33), (33, .pointer (some ⟨g19, 1, none⟩))] (by kernel_rfl) fun a ha => ?_
 refine ld (v := .int .i64 t16.1) ha rfl (by kernel_rfl) rfl rfl rfl (hBg19.cell' (o := 1) rfl (by kernel_rfl)) fun a ha => ?_
 refine hK35 _ _ ?_; try clear hK35 K35
 refine wp_block ?_
 refine wp_seq_k fun K36 hK36 => ?_
 refine wp_region_lit ?_
 refine seg ha 2 [(2, .pointer (some ⟨g4, 0, none⟩)), (3, .pointer (some ⟨g9, 0, none⟩)), (5, .pointer (some ⟨g19, 0, none⟩)), (9, .int .i64 t33), (34, .int .i64 t16.1), (35, .bool (t16.1 == (1 : Int)))] (by kernel_rfl) fun a ha => ?_
 refine hK36 _ _ ?_; try clear hK36 K36
 refine cnd ha rfl (fun hc37 => ?_) (fun hc37 => ?_)
 ·have H := ite_t hc37 H
  refine wp_seq_k fun K38 hK38 => ?_
  refine wp_region_lit ?_
  refine seg ha 1 [(2, .pointer (some ⟨g4, 0, none⟩)), (3, .pointer (some ⟨g9, 0, none⟩)), (5, .pointer (some ⟨g19, 0, none⟩)), (37, .pointer (some ⟨g9, 0, none⟩))] (by kernel_rfl) fun a ha => ?_
  obtain ⟨t39, H39, H⟩ := bind_some H
  refine cl ha (by rfl) (by kernel_rfl) (by rfl) (by rfl) (by rfl) (vineryref01_Reader_Take.walk w33 _ hM g9 t25.2 ao27 cap27 f27 hBg9 (mr (mr (ml (List.mem_singleton.2 rfl)))) (4 : Int) _ H39) ?_
  rintro _ w39 ⟨ao40, cap40, ao41, cap41, rfl, f40, f41, qhBg9, ne_i40, hc39, hMn⟩ a ha
  have o1 : Ok [g9] (blkL ao26 ++ ([g19] ++ ([g9] ++ ([g4] ++ (M))))) w33.heap.size := (fun _ h => .inl (mr (mr (ml h))))
  have o2 : Ok (blkL ao40 ++ (blkL ao26 ++ ([g19] ++ ([g9] ++ ([g4] ++ (M)))))) (blkL ao26 ++ ([g19] ++ ([g9] ++ ([g4] ++ (M))))) w33.heap.size := (Ok.app (fun x h => .inr (ne_i40 x h)) (Ok.refl _ _))
  have f27 := f27.chg hc39 o1 o2
  have hBg4 := hBg4.chg hc39 ((fun x (hx : x ∈ [g4]) (hy : x ∈ [g9]) => p_i10_i6 x hy hx) g4 (by simp))
  have hBg19 := hBg19.chg hc39 (p_i21_i10 g19 (by simp))
  have p_i40_i26 : ∀ x ∈ blkL ao40, x ∉ (blkL ao26) := fun x hx hy => absurd (hM x (ml hy)) (Nat.not_lt.2 (ne_i40 x hx))
  have p_i40_i21 : ∀ x ∈ blkL ao40, x ∉ ([g19]) := fun x hx hy => absurd (hM x (mr (ml hy))) (Nat.not_lt.2 (ne_i40 x hx))
  have p_i40_i10 : ∀ x ∈ blkL ao40, x ∉ ([g9]) := fun x hx hy => absurd (hM x (mr (mr (ml hy)))) (Nat.not_lt.2 (ne_i40 x hx))
  have p_i40_i6 : ∀ x ∈ blkL ao40, x ∉ ([g4]) := fun x hx hy => absurd (hM x (mr (mr (mr (ml hy))))) (Nat.not_lt.2 (ne_i40 x hx))
  have p_i40_M : ∀ x ∈ blkL ao40, x ∉ M := fun x hx hy => absurd (hM x (mr (mr (mr (mr (hy)))))) (Nat.not_lt.2 (ne_i40 x hx))
  have e_i40 : ∀ x ∈ blkL ao40, w.heap.size ≤ x := fun x hx => Nat.le_trans hC.size (ne_i40 x hx)
  have hM : MS (blkL ao40 ++ (blkL ao26 ++ ([g19] ++ ([g9] ++ ([g4] ++ (M)))))) w39 := (MS.app (fun x h => hMn x (ml h)) (hM.chg hc39))
  have hC := hC.trans hc39 (fun x h => .inr (e_i10 x h))
  have hBg9 := qhBg9
  refine seg ha 1 [(2, .pointer (some ⟨g4, 0, none⟩)), (3, .pointer (some ⟨g9, 0, none⟩)), (5, .pointer (some ⟨g19, 0, none⟩)), (10, .slice ao40 t39.1.length cap40)] (by kernel_rfl) fun a ha => ?_
  refine hK38 _ _ ?_; try clear hK38 K38
  refine wp_seq_k fun K42 hK42 => ?_
  refine wp_region_lit ?_
  refine seg ha 1 [(2, .pointer (some ⟨g4, 0, none⟩)), (3, .pointer (some ⟨g9, 0, none⟩)), (5, .pointer (some ⟨g19, 0, none⟩)), (10, .slice ao40 t39.1.length cap40), (39, .pointer (some ⟨g9, 0, none⟩))] (by kernel_rfl) fun a ha => ?_
  obtain ⟨t43, H43, H⟩ := bind_some H
  refine cl ha (by rfl) (by kernel_rfl) (by rfl) (by rfl) (by rfl) (vineryref01_Reader_Take.walk w39 _ hM g9 t39.2 ao41 cap41 f41 hBg9 (mr (mr (mr (ml (List.mem_singleton.2 rfl))))) (2 : Int) _ H43) ?_
  rintro _ w43 ⟨ao44, cap44, ao45, cap45, rfl, f44, f45, qhBg9, ne_i44, hc43, hMn⟩ a ha
  have o1 : Ok [g9] (blkL ao40 ++ (blkL ao26 ++ ([g19] ++ ([g9] ++ ([g4] ++ (M)))))) w39.heap.size := (fun _ h => .inl (mr (mr (mr (ml h)))))
  have o2 : Ok (blkL ao44 ++ (blkL ao40 ++ (blkL ao26 ++ ([g19] ++ ([g9] ++ ([g4] ++ (M))))))) (blkL ao40 ++ (blkL ao26 ++ ([g19] ++ ([g9] ++ ([g4] ++ (M)))))) w39.heap.size := (Ok.app (fun x h => .inr (ne_i44 x h)) (Ok.refl _ _))
  have f40 := f40.chg hc43 o1 o2 p_i40_i10 (fun _ h => mr (ml h))
  have f41 := f41.chg hc43 o1 o2
  have hBg4 := hBg4.chg hc43 ((fun x (hx : x ∈ [g4]) (hy : x ∈ [g9]) => p_i10_i6 x hy hx) g4 (by simp))
  have hBg19 := hBg19.chg hc43 (p_i21_i10 g19 (by simp))
  have p_i44_i40 : ∀ x ∈ blkL ao44, x ∉ (blkL ao40) := fun x hx hy => absurd (hM x (ml hy)) (Nat.not_lt.2 (ne_i44 x hx))
  have p_i44_i26 : ∀ x ∈ blkL ao44, x ∉ (blkL ao26) := fun x hx hy => absurd (hM x (mr (ml hy))) (Nat.not_lt.2 (ne_i44 x hx))
  have p_i44_i21 : ∀ x ∈ blkL ao44, x ∉ ([g19]) := fun x hx hy => absurd (hM x (mr (mr (ml hy)))) (Nat.not_lt.2 (ne_i44 x hx))
  have p_i44_i10 : ∀ x ∈ blkL ao44, x ∉ ([g9]) := fun x hx hy => absurd (hM x (mr (mr (mr (ml hy))))) (Nat.not_lt.2 (ne_i44 x hx))
  have p_i44_i6 : ∀ x ∈ blkL ao44, x ∉ ([g4]) := fun x hx hy => absurd (hM x (mr (mr (mr (mr (ml hy)))))) (Nat.not_lt.2 (ne_i44 x hx))
  have p_i44_M : ∀ x ∈ blkL ao44, x ∉ M := fun x hx hy => absurd (hM x (mr (mr (mr (mr (mr (hy))))))) (Nat.not_lt.2 (ne_i44 x hx))
  have e_i44 : ∀ x ∈ blkL ao44, w.heap.size ≤ x := fun x hx => Nat.le_trans hC.size (ne_i44 x hx)
  have hM : MS (blkL ao44 ++ (blkL ao40 ++ (blkL ao26 ++ ([g19] ++ ([g9] ++ ([g4] ++ (M))))))) w43 := (MS.app (fun x h => hMn x (ml h)) (hM.chg hc43))
  have hC := hC.trans hc43 (fun x h => .inr (e_i10 x h))
  have hBg9 := qhBg9
  refine hK42 _ _ ?_; try clear hK42 K42
  refine wp_seq_k fun K46 hK46 => ?_
  refine wp_region_lit ?_
  refine seg ha 2 [(2, .pointer (some ⟨g4, 0, none⟩)), (3, .pointer (some ⟨g9, 0, none⟩)), (5, .pointer (some ⟨g19, 0, none⟩)), (41, .slice ao40 t39.1.length cap40), (42, .pointer (some ⟨g9, 0, none⟩))] (by kernel_rfl) fun a ha => ?_
  obtain ⟨t47, H47, H⟩ := bind_some H
  refine cl ha (by rfl) (by kernel_rfl) (by rfl) (by rfl) (by rfl) (vineryref01_Reader_Take.walk w43 _ hM g9 t43.2 ao45 cap45 f45 hBg9 (mr (mr (mr (mr (ml (List.mem_singleton.2 rfl)))))) (2 : Int) _ H47) ?_
  rintro _ w47 ⟨ao48, cap48, ao49, cap49, rfl, f48, f49, qhBg9, ne_i48, hc47, hMn⟩ a ha
  have o1 : Ok [g9] (blkL ao44 ++ (blkL ao40 ++ (blkL ao26 ++ ([g19] ++ ([g9] ++ ([g4] ++ (M))))))) w43.heap.size := (fun _ h => .inl (mr (mr (mr (mr (ml h))))))
  have o2 : Ok (blkL ao48 ++ (blkL ao44 ++ (blkL ao40 ++ (blkL ao26 ++ ([g19] ++ ([g9] ++ ([g4] ++ (M)))))))) (blkL ao44 ++ (blkL ao40 ++ (blkL ao26 ++ ([g19] ++ ([g9] ++ ([g4] ++ (M))))))) w43.heap.size := (Ok.app (fun x h => .inr (ne_i48 x h)) (Ok.refl _ _))
  have f40 := f40.chg hc47 o1 o2 p_i40_i10 (fun _ h => mr (mr (ml h)))
  have f45 := f45.chg hc47 o1 o2
  have hBg4 := hBg4.chg hc47 ((fun x (hx : x ∈ [g4]) (hy : x ∈ [g9]) => p_i10_i6 x hy hx) g4 (by simp))
  have hBg19 := hBg19.chg hc47 (p_i21_i10 g19 (by simp))
  have p_i48_i44 : ∀ x ∈ blkL ao48, x ∉ (blkL ao44) := fun x hx hy => absurd (hM x (ml hy)) (Nat.not_lt.2 (ne_i48 x hx))
  have p_i48_i40 : ∀ x ∈ blkL ao48, x ∉ (blkL ao40) := fun x hx hy => absurd (hM x (mr (ml hy))) (Nat.not_lt.2 (ne_i48 x hx))
  have p_i48_i26 : ∀ x ∈ blkL ao48, x ∉ (blkL ao26) := fun x hx hy => absurd (hM x (mr (mr (ml hy)))) (Nat.not_lt.2 (ne_i48 x hx))
  have p_i48_i21 : ∀ x ∈ blkL ao48, x ∉ ([g19]) := fun x hx hy => absurd (hM x (mr (mr (mr (ml hy))))) (Nat.not_lt.2 (ne_i48 x hx))
  have p_i48_i10 : ∀ x ∈ blkL ao48, x ∉ ([g9]) := fun x hx hy => absurd (hM x (mr (mr (mr (mr (ml hy)))))) (Nat.not_lt.2 (ne_i48 x hx))
  have p_i48_i6 : ∀ x ∈ blkL ao48, x ∉ ([g4]) := fun x hx hy => absurd (hM x (mr (mr (mr (mr (mr (ml hy))))))) (Nat.not_lt.2 (ne_i48 x hx))
  have p_i48_M : ∀ x ∈ blkL ao48, x ∉ M := fun x hx hy => absurd (hM x (mr (mr (mr (mr (mr (mr (hy)))))))) (Nat.not_lt.2 (ne_i48 x hx))
  have e_i48 : ∀ x ∈ blkL ao48, w.heap.size ≤ x := fun x hx => Nat.le_trans hC.size (ne_i48 x hx)
  have hM : MS (blkL ao48 ++ (blkL ao44 ++ (blkL ao40 ++ (blkL ao26 ++ ([g19] ++ ([g9] ++ ([g4] ++ (M)))))))) w47 := (MS.app (fun x h => hMn x (ml h)) (hM.chg hc47))
  have hC := hC.trans hc47 (fun x h => .inr (e_i10 x h))
  have hBg9 := qhBg9
  obtain ⟨hx50, H⟩ := ite_some H
  refine app (r := (rInt .u8)) (xs := t39.1) (ys := t47.1) ha (ElemT.mk' (bytes := 1) (by kernel_rfl)) rfl rfl rfl rfl rfl f40 f48.src hx50 (by decide) fun a w51 ao52 cap52 hO52 hc52 hk52 hl52 ha => ?_
  have o1 : Ok (blkL ao40) (blkL ao48 ++ (blkL ao44 ++ (blkL ao40 ++ (blkL ao26 ++ ([g19] ++ ([g9] ++ ([g4] ++ (M)))))))) w47.heap.size := (fun _ h => .inl (mr (mr (ml h))))
  have o2 : Ok (blkL ao52 ++ (blkL ao48 ++ (blkL ao44 ++ (blkL ao26 ++ ([g19] ++ ([g9] ++ ([g4] ++ (M)))))))) (blkL ao48 ++ (blkL ao44 ++ (blkL ao40 ++ (blkL ao26 ++ ([g19] ++ ([g9] ++ ([g4] ++ (M)))))))) w47.heap.size := (Ok.app (Ok.to hk52 (fun _ h => mr (mr (ml h)))) (Ok.app (fun _ h => .inl (ml h)) (Ok.app (fun _ h => .inl (mr (ml h))) (fun _ h => .inl (mr (mr (mr (h))))))))
  have f48 := f48.chg hc52 o1 o2 p_i48_i40 (fun _ h => mr (ml h))
  have f49 := f49.chg hc52 o1 o2
  have hBg4 := hBg4.chg hc52 ((fun x (hx : x ∈ [g4]) (hy : x ∈ blkL ao40) => p_i40_i6 x hy hx) g4 (by simp))
  have hBg9 := hBg9.chg hc52 ((fun x (hx : x ∈ [g9]) (hy : x ∈ blkL ao40) => p_i40_i10 x hy hx) g9 (by simp))
  have hBg19 := hBg19.chg hc52 ((fun x (hx : x ∈ [g19]) (hy : x ∈ blkL ao40) => p_i40_i21 x hy hx) g19 (by simp))
  have p_i52_i48 : ∀ x ∈ blkL ao52, x ∉ (blkL ao48) := fun x hx hy => (hk52 x hx).elim (fun h => (fun x hx hy => p_i48_i40 x hy hx) x h hy) (fun h => absurd (hM x (ml hy)) (Nat.not_lt.2 h))
  have p_i52_i44 : ∀ x ∈ blkL ao52, x ∉ (blkL ao44) := fun x hx hy => (hk52 x hx).elim (fun h => (fun x hx hy => p_i44_i40 x hy hx) x h hy) (fun h => absurd (hM x (mr (ml hy))) (Nat.not_lt.2 h))
  have p_i52_i26 : ∀ x ∈ blkL ao52, x ∉ (blkL ao26) := fun x hx hy => (hk52 x hx).elim (fun h => p_i40_i26 x h hy) (fun h => absurd (hM x (mr (mr (mr (ml hy))))) (Nat.not_lt.2 h))
  have p_i52_i21 : ∀ x ∈ blkL ao52, x ∉ ([g19]) := fun x hx hy => (hk52 x hx).elim (fun h => p_i40_i21 x h hy) (fun h => absurd (hM x (mr (mr (mr (mr (ml hy)))))) (Nat.not_lt.2 h))
  have p_i52_i10 : ∀ x ∈ blkL ao52, x ∉ ([g9]) := fun x hx hy => (hk52 x hx).elim (fun h => p_i40_i10 x h hy) (fun h => absurd (hM x (mr (mr (mr (mr (mr (ml hy))))))) (Nat.not_lt.2 h))
  have p_i52_i6 : ∀ x ∈ blkL ao52, x ∉ ([g4]) := fun x hx hy => (hk52 x hx).elim (fun h => p_i40_i6 x h hy) (fun h => absurd (hM x (mr (mr (mr (mr (mr (mr (ml hy)))))))) (Nat.not_lt.2 h))
  have p_i52_M : ∀ x ∈ blkL ao52, x ∉ M := fun x hx hy => (hk52 x hx).elim (fun h => p_i40_M x h hy) (fun h => absurd (hM x (mr (mr (mr (mr (mr (mr (mr (hy))))))))) (Nat.not_lt.2 h))
  have e_i52 : ∀ x ∈ blkL ao52, w.heap.size ≤ x := fun x hx => (hk52 x hx).elim (e_i40 x) (Nat.le_trans hC.size)
  have hM : MS (blkL ao52 ++ (blkL ao48 ++ (blkL ao44 ++ (blkL ao26 ++ ([g19] ++ ([g9] ++ ([g4] ++ (M)))))))) w51 := (MS.app hl52 (MS.app (fun x h => hM.chg hc52 x (ml h)) (MS.app (fun x h => hM.chg hc52 x (mr (ml h))) (fun x h => hM.chg hc52 x (mr (mr (mr (h))))))))
  have hC := hC.trans hc52 (fun x h => .inr (e_i40 x h))
  have f52 := hO52.chg (M' := blkL ao52 ++ (blkL ao48 ++ (blkL ao44 ++ (blkL ao26 ++ ([g19] ++ ([g9] ++ ([g4] ++ (M)))))))) (Chg.refl [] _) (Ok.nil _ _) (Ok.app (fun _ h => .inl (ml h)) (Ok.to (Ok.app (fun _ h => .inl (ml h)) (Ok.app (fun _ h => .inl (mr (ml h))) (fun _ h => .inl (mr (mr (mr (h))))))) (fun _ h => mr h))) (fun _ _ h => nomatch h) (fun _ h => ml h)
  refine seg ha 1 [(2, .pointer (some ⟨g4, 0, none⟩)), (3, .pointer (some ⟨g9, 0, none⟩)), (5, .pointer (some ⟨g19, 0, none⟩)), (44, .slice ao52 (t39.1 ++ t47.1).length cap52), (45, .pointer (some ⟨g19, 20, none⟩))] (by kernel_rfl) fun a ha => ?_
  refine st ha rfl rfl rfl (by kernel_rfl) rfl rfl hBg19 (Nat.le_of_ble_eq_true (by kernel_rfl)) fun a w53 ha hb2 hc54 _ => ?_
  have o1 : Ok [g19] (blkL ao52 ++ (blkL ao48 ++ (blkL ao44 ++ (blkL ao26 ++ ([g19] ++ ([g9] ++ ([g4] ++ (M)))))))) w51.heap.size := (fun _ h => .inl (mr (mr (mr (mr (ml h))))))
  have o2 : Ok (blkL ao52 ++ (blkL ao48 ++ (blkL ao44 ++ (blkL ao26 ++ ([g19] ++ ([g9] ++ ([g4] ++ (M)))))))) (blkL ao52 ++ (blkL ao48 ++ (blkL ao44 ++ (blkL ao26 ++ ([g19] ++ ([g9] ++ ([g4] ++ (M)))))))) w51.heap.size := (Ok.refl _ _)
  have f52 := f52.chg hc54 o1 o2 p_i52_i21 (fun _ h => ml h)
  have f49 := f49.chg hc54 o1 o2
  have hBg4 := hBg4.chg hc54 ((fun x (hx : x ∈ [g4]) (hy : x ∈ [g19]) => p_i21_i6 x hy hx) g4 (by simp))
  have hBg9 := hBg9.chg hc54 ((fun x (hx : x ∈ [g9]) (hy : x ∈ [g19]) => p_i21_i10 x hy hx) g9 (by simp))
  have hM : MS (blkL ao52 ++ (blkL ao48 ++ (blkL ao44 ++ (blkL ao26 ++ ([g19] ++ ([g9] ++ ([g4] ++ (M)))))))) w53 := (hM.chg hc54)
  have hC := hC.trans hc54 (fun x h => .inr (e_i21 x h))
  have hBg19 : Box w53 g19 (cS_api_Tunnel (⟨t13.1 == (1 : Int), t16.1, t28.1, (⟨(0 : Int), (List.replicate 16 (0 : Int))⟩ : S_api_Addr), (t39.1 ++ t47.1)⟩ : S_api_Tunnel) ao52 cap52) := hb2
  refine hK46 _ _ ?_; try clear hK46 K46
  refine wp_region_lit ?_
  refine seg ha 1 [(2, .pointer (some ⟨g4, 0, none⟩)), (3, .pointer (some ⟨g9, 0, none⟩)), (5, .pointer (some ⟨g19, 0, none⟩)), (9, .int .i64 (4 : Int))] (by kernel_rfl) fun a ha => ?_
  refine hK34 _ _ ?_; try clear hK34 K34
  refine wp_seq_k fun K55 hK55 => ?_
  refine wp_region_lit ?_
  refine seg ha 2 [(2, .pointer (some ⟨g4, 0, none⟩)), (3, .pointer (some ⟨g9, 0, none⟩)), (5, .pointer (some ⟨g19, 0, none⟩)), (60, .pointer (some ⟨g9, 0, none⟩)), (61, .int .i64 (4 : Int))] (by kernel_rfl) fun a ha => ?_
  obtain ⟨t56, H56, H⟩ := bind_some H
  refine cl ha (by rfl) (by kernel_rfl) (by rfl) (by rfl) (by rfl) (vineryref01_Reader_Take.walk w53 _ hM g9 t47.2 ao49 cap49 f49 hBg9 (mr (mr (mr (mr (mr (ml (List.mem_singleton.2 rfl))))))) (4 : Int) _ H56) ?_
  rintro _ w56 ⟨ao57, cap57, ao58, cap58, rfl, f57, f58, qhBg9, ne_i57, hc56, hMn⟩ a ha
  have o1 : Ok [g9] (blkL ao52 ++ (blkL ao48 ++ (blkL ao44 ++ (blkL ao26 ++ ([g19] ++ ([g9] ++ ([g4] ++ (M)))))))) w53.heap.size := (fun _ h => .inl (mr (mr (mr (mr (mr (ml h)))))))
  have o2 : Ok (blkL ao57 ++ (blkL ao52 ++ (blkL ao48 ++ (blkL ao44 ++ (blkL ao26 ++ ([g19] ++ ([g9] ++ ([g4] ++ (M))))))))) (blkL ao52 ++ (blkL ao48 ++ (blkL ao44 ++ (blkL ao26 ++ ([g19] ++ ([g9] ++ ([g4] ++ (M)))))))) w53.heap.size := (Ok.app (fun x h => .inr (ne_i57 x h)) (Ok.refl _ _))
  have f49 := f49.chg hc56 o1 o2
  have f52 := f52.chg hc56 o1 o2 p_i52_i10 (fun _ h => mr (ml h))
  have hBg4 := hBg4.chg hc56 ((fun x (hx : x ∈ [g4]) (hy : x ∈ [g9]) => p_i10_i6 x hy hx) g4 (by simp))
  have hBg19 := hBg19.chg hc56 (p_i21_i10 g19 (by simp))
  have p_i57_i52 : ∀ x ∈ blkL ao57, x ∉ (blkL ao52) := fun x hx hy => absurd (hM x (ml hy)) (Nat.not_lt.2 (ne_i57 x hx))
  have p_i57_i48 : ∀ x ∈ blkL ao57, x ∉ (blkL ao48) := fun x hx hy => absurd (hM x (mr (ml hy))) (Nat.not_lt.2 (ne_i57 x hx))
  have p_i57_i44 : ∀ x ∈ blkL ao57, x ∉ (blkL ao44) := fun x hx hy => absurd (hM x (mr (mr (ml hy)))) (Nat.not_lt.2 (ne_i57 x hx))
  have p_i57_i26 : ∀ x ∈ blkL ao57, x ∉ (blkL ao26) := fun x hx hy => absurd (hM x (mr (mr (mr (ml hy))))) (Nat.not_lt.2 (ne_i57 x hx))
  have p_i57_i21 : ∀ x ∈ blkL ao57, x ∉ ([g19]) := fun x hx hy => absurd (hM x (mr (mr (mr (mr (ml hy)))))) (Nat.not_lt.2 (ne_i57 x hx))
  have p_i57_i10 : ∀ x ∈ blkL ao57, x ∉ ([g9]) := fun x hx hy => absurd (hM x (mr (mr (mr (mr (mr (ml hy))))))) (Nat.not_lt.2 (ne_i57 x hx))
  have p_i57_i6 : ∀ x ∈ blkL ao57, x ∉ ([g4]) := fun x hx hy => absurd (hM x (mr (mr (mr (mr (mr (mr (ml hy)))))))) (Nat.not_lt.2 (ne_i57 x hx))
  have p_i57_M : ∀ x ∈ blkL ao57, x ∉ M := fun x hx hy => absurd (hM x (mr (mr (mr (mr (mr (mr (mr (hy))))))))) (Nat.not_lt.2 (ne_i57 x hx))
  have e_i57 : ∀ x ∈ blkL ao57, w.heap.size ≤ x := fun x hx => Nat.le_trans hC.size (ne_i57 x hx)
  have hM : MS (blkL ao57 ++ (blkL ao52 ++ (blkL ao48 ++ (blkL ao44 ++ (blkL ao26 ++ ([g19] ++ ([g9] ++ ([g4] ++ (M))))))))) w56 := (MS.app (fun x h => hMn x (ml h)) (hM.chg hc56))
  have hC := hC.trans hc56 (fun x h => .inr (e_i10 x h))
  have hBg9 := qhBg9
  have hML : MS (blkL ao52 ++ (blkL ao48 ++ (blkL ao44 ++ (blkL ao26 ++ ([g19] ++ ([g9] ++ ([g4] ++ (M)))))))) w56 := MS.rest hM (fun _ h => (List.mem_append.1 h).elim (fun h => mr (ml h)) (fun h => (List.mem_append.1 h).elim (fun h => mr (mr (ml h))) (fun h => (List.mem_append.1 h).elim (fun h => mr (mr (mr (ml h)))) (fun h => (List.mem_append.1 h).elim (fun h => mr (mr (mr (mr (ml h))))) (fun h => (List.mem_append.1 h).elim (fun h => mr (mr (mr (mr (mr (ml h)))))) (fun h => (List.mem_append.1 h).elim (fun h => mr (mr (mr (mr (mr (mr (ml h))))))) (fun h => (List.mem_append.1 h).elim (fun h => mr (mr (mr (mr (mr (mr (mr (ml h)))))))) (fun h => mr (mr (mr (mr (mr (mr (mr (mr (h))))))))))))))))
  have oL : Ok (blkL ao52 ++ (blkL ao48 ++ (blkL ao44 ++ (blkL ao26 ++ ([g19] ++ ([g9] ++ ([g4] ++ (M)))))))) (blkL ao57 ++ (blkL ao52 ++ (blkL ao48 ++ (blkL ao44 ++ (blkL ao26 ++ ([g19] ++ ([g9] ++ ([g4] ++ (M))))))))) w56.heap.size := (fun _ h => .inl (mr (h)))
  obtain ⟨t59, H59, H⟩ := bind_some H
  refine cl ha (by rfl) (by kernel_rfl) (by rfl) (by rfl) (by rfl) (vineryref02_Of.walk w56 _ hML t56.1 ao57 cap57 (Own.toRSl (M' := blkL ao52 ++ (blkL ao48 ++ (blkL ao44 ++ (blkL ao26 ++ ([g19] ++ ([g9] ++ ([g4] ++ (M)))))))) f57 oL (fun x hx hm => (List.mem_append.1 hm).elim (fun h => p_i57_i52 x hx h) (fun h => (List.mem_append.1 h).elim (fun h => p_i57_i48 x hx h) (fun h => (List.mem_append.1 h).elim (fun h => p_i57_i44 x hx h) (fun h => (List.mem_append.1 h).elim (fun h => p_i57_i26 x hx h) (fun h => (List.mem_append.1 h).elim (fun h => p_i57_i21 x hx h) (fun h => (List.mem_append.1 h).elim (fun h => p_i57_i10 x hx h) (fun h => (List.mem_append.1 h).elim (fun h => p_i57_i6 x hx h) (fun h => p_i57_M x hx h))))))))) k _ H59) ?_
  rintro _ w59 ⟨rfl, hc59, hMn⟩ a ha
  have o1 : Ok [] (blkL ao57 ++ (blkL ao52 ++ (blkL ao48 ++ (blkL ao44 ++ (blkL ao26 ++ ([g19] ++ ([g9] ++ ([g4] ++ (M))))))))) w56.heap.size := Ok.nil _ _
  have o2 : Ok (blkL ao57 ++ (blkL ao52 ++ (blkL ao48 ++ (blkL ao44 ++ (blkL ao26 ++ ([g19] ++ ([g9] ++ ([g4] ++ (M))))))))) (blkL ao57 ++ (blkL ao52 ++ (blkL ao48 ++ (blkL ao44 ++ (blkL ao26 ++ ([g19] ++ ([g9] ++ ([g4] ++ (M))))))))) w56.heap.size := (Ok.refl _ _)
  have f57 := f57.chg hc59 o1 o2 (fun _ _ h => nomatch h) (fun _ h => ml h)
  have f58 := f58.chg hc59 o1 o2
  have f52 := f52.chg hc59 o1 o2 (fun _ _ h => nomatch h) (fun _ h => mr (ml h))
  have hBg4 := hBg4.chg hc59 (fun h => nomatch h)
  have hBg9 := hBg9.chg hc59 (fun h => nomatch h)
  have hBg19 := hBg19.chg hc59 (fun h => nomatch h)
  have hM : MS (blkL ao57 ++ (blkL ao52 ++ (blkL ao48 ++ (blkL ao44 ++ (blkL ao26 ++ ([g19] ++ ([g9] ++ ([g4] ++ (M))))))))) w59 := (hM.chg hc59)
  have hC := hC.trans hc59 (Ok.nil _ _)
  refine seg ha 3 [(2, .pointer (some ⟨g4, 0, none⟩)), (3, .pointer (some ⟨g9, 0, none⟩)), (5, .pointer (some ⟨g19, 0, none⟩)), (64, .agg (cS_api_Addr t59.1).toArray), (65, .int .i64 t59.2)] (by kernel_rfl) fun a ha => ?_
  refine al (cs := (cS_api_Addr (⟨(0 : Int), (List.replicate 16 (0 : Int))⟩ : S_api_Addr))) (z := .agg (cS_api_Addr (⟨(0 : Int), (List.replicate 16 (0 : Int))⟩ : S_api_Addr)).toArray) ha (fun w => by kernel_rfl) rfl rfl rfl rfl fun a w60 g61 hN62 ha => ?_
  have o1 : Ok [] (blkL ao57 ++ (blkL ao52 ++ (blkL ao48 ++ (blkL ao44 ++ (blkL ao26 ++ ([g19] ++ ([g9] ++ ([g4] ++ (M))))))))) w59.heap.size := Ok.nil _ _
  have o2 : Ok ([g61] ++ (blkL ao57 ++ (blkL ao52 ++ (blkL ao48 ++ (blkL ao44 ++ (blkL ao26 ++ ([g19] ++ ([g9] ++ ([g4] ++ (M)))))))))) (blkL ao57 ++ (blkL ao52 ++ (blkL ao48 ++ (blkL ao44 ++ (blkL ao26 ++ ([g19] ++ ([g9] ++ ([g4] ++ (M))))))))) w59.heap.size := (Ok.app (hN62.ok _) (Ok.refl _ _))
  have f58 := f58.chg hN62.chg o1 o2
  have f52 := f52.chg hN62.chg o1 o2 (fun _ _ h => nomatch h) (fun _ h => mr (mr (ml h)))
  have hBg4 := hBg4.chg hN62.chg (fun h => nomatch h)
  have hBg9 := hBg9.chg hN62.chg (fun h => nomatch h)
  have hBg19 := hBg19.chg hN62.chg (fun h => nomatch h)
  have p_i63_i57 : ∀ x ∈ [g61], x ∉ (blkL ao57) := fun x hx hy => absurd (hM x (ml hy)) (Nat.not_lt.2 ((hN62.ge1) x hx))
  have p_i63_i52 : ∀ x ∈ [g61], x ∉ (blkL ao52) := fun x hx hy => absurd (hM x (mr (ml hy))) (Nat.not_lt.2 ((hN62.ge1) x hx))
  have p_i63_i48 : ∀ x ∈ [g61], x ∉ (blkL ao48) := fun x hx hy => absurd (hM x (mr (mr (ml hy)))) (Nat.not_lt.2 ((hN62.ge1) x hx))
  have p_i63_i44 : ∀ x ∈ [g61], x ∉ (blkL ao44) := fun x hx hy => absurd (hM x (mr (mr (mr (ml hy))))) (Nat.not_lt.2 ((hN62.ge1) x hx))
  have p_i63_i26 : ∀ x ∈ [g61], x ∉ (blkL ao26) := fun x hx hy => absurd (hM x (mr (mr (mr (mr (ml hy)))))) (Nat.not_lt.2 ((hN62.ge1) x hx))
  have p_i63_i21 : ∀ x ∈ [g61], x ∉ ([g19]) := fun x hx hy => absurd (hM x (mr (mr (mr (mr (mr (ml hy))))))) (Nat.not_lt.2 ((hN62.ge1) x hx))
  have p_i63_i10 : ∀ x ∈ [g61], x ∉ ([g9]) := fun x hx hy => absurd (hM x (mr (mr (mr (mr (mr (mr (ml hy)))))))) (Nat.not_lt.2 ((hN62.ge1) x hx))
  have p_i63_i6 : ∀ x ∈ [g61], x ∉ ([g4]) := fun x hx hy => absurd (hM x (mr (mr (mr (mr (mr (mr (mr (ml hy))))))))) (Nat.not_lt.2 ((hN62.ge1) x hx))
  have p_i63_M : ∀ x ∈ [g61], x ∉ M := fun x hx hy => absurd (hM x (mr (mr (mr (mr (mr (mr (mr (mr (hy)))))))))) (Nat.not_lt.2 ((hN62.ge1) x hx))
  have e_i63 : ∀ x ∈ [g61], w.heap.size ≤ x := fun x hx => Nat.le_trans hC.size ((hN62.ge1) x hx)
  have hM : MS ([g61] ++ (blkL ao57 ++ (blkL ao52 ++ (blkL ao48 ++ (blkL ao44 ++ (blkL ao26 ++ ([g19] ++ ([g9] ++ ([g4] ++ (M)))))))))) w60 := (MS.app hN62.ms (hM.chg hN62.chg))
  have hC := hC.trans hN62.chg (Ok.nil _ _)
  have hBg61 : Box w60 g61 (cS_api_Addr (⟨(0 : Int), (List.replicate 16 (0 : Int))⟩ : S_api_Addr)) := hN62.box
  refine stA (l := (cS_api_Addr t59.1)) ha rfl rfl rfl (by kernel_rfl) rfl rfl hBg61 rfl fun a w64 ha hb2 hc65 _ => ?_
  have o1 : Ok [g61] ([g61] ++ (blkL ao57 ++ (blkL ao52 ++ (blkL ao48 ++ (blkL ao44 ++ (blkL ao26 ++ ([g19] ++ ([g9] ++ ([g4] ++ (M)))))))))) w60.heap.size := (fun _ h => .inl (ml h))
  have o2 : Ok ([g61] ++ (blkL ao57 ++ (blkL ao52 ++ (blkL ao48 ++ (blkL ao44 ++ (blkL ao26 ++ ([g19] ++ ([g9] ++ ([g4] ++ (M)))))))))) ([g61] ++ (blkL ao57 ++ (blkL ao52 ++ (blkL ao48 ++ (blkL ao44 ++ (blkL ao26 ++ ([g19] ++ ([g9] ++ ([g4] ++ (M)))))))))) w60.heap.size := (Ok.refl _ _)
  have f58 := f58.chg hc65 o1 o2
  have f52 := f52.chg hc65 o1 o2 (fun x (hx : x ∈ blkL ao52) (hy : x ∈ [g61]) => p_i63_i52 x hy hx) (fun _ h => mr (mr (ml h)))
  have hBg4 := hBg4.chg hc65 ((fun x (hx : x ∈ [g4]) (hy : x ∈ [g61]) => p_i63_i6 x hy hx) g4 (by simp))
  have hBg9 := hBg9.chg hc65 ((fun x (hx : x ∈ [g9]) (hy : x ∈ [g61]) => p_i63_i10 x hy hx) g9 (by simp))
  have hBg19 := hBg19.chg hc65 ((fun x (hx : x ∈ [g19]) (hy : x ∈ [g61]) => p_i63_i21 x hy hx) g19 (by simp))
  have hM : MS ([g61] ++ (blkL ao57 ++ (blkL ao52 ++ (blkL ao48 ++ (blkL ao44 ++ (blkL ao26 ++ ([g19] ++ ([g9] ++ ([g4] ++ (M)))))))))) w64 := (hM.chg hc65)
  have hC := hC.trans hc65 (fun x h => .inr (e_i63 x h))
  have hBg61 : Box w64 g61 (cS_api_Addr t59.1) := hb2
  refine seg ha 1 [(2, .pointer (some ⟨g4, 0, none⟩)), (3, .pointer (some ⟨g9, 0, none⟩)), (5, .pointer (some ⟨g19, 0, none⟩)), (11, .pointer (some ⟨g61, 0, none⟩))] (by kernel_rfl) fun a ha => ?_
  refine hK55 _ _ ?_; try clear hK55 K55
  refine wp_seq_k fun K66 hK66 => ?_
  refine wp_region_lit ?_
  refine ldA (cs := (cS_api_Addr t59.1)) ha rfl (by kernel_rfl) rfl rfl rfl (cells_sub (Box.cells hBg61) (all := (cS_api_Addr t59.1)) [] [] (by kernel_rfl)) fun a ha => ?_
  refine seg ha 1 [(2, .pointer (some ⟨g4, 0, none⟩)), (3, .pointer (some ⟨g9, 0, none⟩)), (5, .pointer (some ⟨g19, 0, none⟩)), (66, .agg (cS_api_Addr t59.1).toArray), (67, .pointer (some ⟨g19, 3, none⟩))] (by kernel_rfl) fun a ha => ?_
  refine stA (l := (cS_api_Addr t59.1)) ha rfl rfl rfl (by kernel_rfl) rfl rfl hBg19 rfl fun a w67 ha hb2 hc68 _ => ?_
  have o1 : Ok [g19] ([g61] ++ (blkL ao57 ++ (blkL ao52 ++ (blkL ao48 ++ (blkL ao44 ++ (blkL ao26 ++ ([g19] ++ ([g9] ++ ([g4] ++ (M)))))))))) w64.heap.size := (fun _ h => .inl (mr (mr (mr (mr (mr (mr (ml h))))))))
  have o2 : Ok ([g61] ++ (blkL ao57 ++ (blkL ao52 ++ (blkL ao48 ++ (blkL ao44 ++ (blkL ao26 ++ ([g19] ++ ([g9] ++ ([g4] ++ (M)))))))))) ([g61] ++ (blkL ao57 ++ (blkL ao52 ++ (blkL ao48 ++ (blkL ao44 ++ (blkL ao26 ++ ([g19] ++ ([g9] ++ ([g4] ++ (M)))))))))) w64.heap.size := (Ok.refl _ _)
  have f58 := f58.chg hc68 o1 o2
  have f52 := f52.chg hc68 o1 o2 p_i52_i21 (fun _ h => mr (mr (ml h)))
  have hBg4 := hBg4.chg hc68 ((fun x (hx : x ∈ [g4]) (hy : x ∈ [g19]) => p_i21_i6 x hy hx) g4 (by simp))
  have hBg9 := hBg9.chg hc68 ((fun x (hx : x ∈ [g9]) (hy : x ∈ [g19]) => p_i21_i10 x hy hx) g9 (by simp))
  have hBg61 := hBg61.chg hc68 (p_i63_i21 g61 (by simp))
  have hM : MS ([g61] ++ (blkL ao57 ++ (blkL ao52 ++ (blkL ao48 ++ (blkL ao44 ++ (blkL ao26 ++ ([g19] ++ ([g9] ++ ([g4] ++ (M)))))))))) w67 := (hM.chg hc68)
  have hC := hC.trans hc68 (fun x h => .inr (e_i21 x h))
  have hBg19 : Box w67 g19 (cS_api_Tunnel (⟨t13.1 == (1 : Int), t16.1, t28.1, t59.1, (t39.1 ++ t47.1)⟩ : S_api_Tunnel) ao52 cap52) := hb2
  refine hK66 _ _ ?_; try clear hK66 K66
  refine wp_seq_k fun K69 hK69 => ?_
  obtain ⟨s70, H70, H⟩ := bind_some H
  have J70 : ∀ (a : Act) (w70 : World) (ao71 : Option Addr) (cap71 : Nat), Has a Tryd.f52.ntmps [(2, .pointer (some ⟨g4, 0, none⟩)), (3, .pointer (some ⟨g9, 0, none⟩)), (5, .pointer (some ⟨g19, 0, none⟩))] → (RSl (rInt .u8) 5 w70 ([g61] ++ (blkL ao52 ++ ([g19] ++ ([g9] ++ ([g4] ++ (M)))))) ao71 cap71 s70.1) → (Own (rInt .u8) 5 w70 ([g61] ++ (blkL ao52 ++ ([g19] ++ ([g9] ++ ([g4] ++ (M)))))) ao52 cap52 (t39.1 ++ t47.1)) → (Box w70 g4 (cS_api_Tunnel (⟨false, (0 : Int), (0 : Int), (⟨(0 : Int), (List.replicate 16 (0 : Int))⟩ : S_api_Addr), ([] : List Int)⟩ : S_api_Tunnel) none 0)) → (Box w70 g9 (cS_vineryref01_Reader (⟨s70.1, s70.2.1, s70.2.2⟩ : S_vineryref01_Reader) ao71 cap71)) → (Box w70 g19 (cS_api_Tunnel (⟨t13.1 == (1 : Int), t16.1, t28.1, t59.1, (t39.1 ++ t47.1)⟩ : S_api_Tunnel) ao52 cap52)) → (Box w70 g61 (cS_api_Addr t59.1)) → (Chg [] w w70) → (MS ([g61] ++ (blkL ao52 ++ ([g19] ++ ([g9] ++ ([g4] ++ (M)))))) w70) → K69 a w70 := by
   intro a w70 ao71 cap71 ha f71 f52 hBg4 hBg9 hBg19 hBg61 hC hM
   refine hK69 _ _ ?_; try clear hK69 K69
   refine wp_seq_k fun K72 hK72 => ?_
   have z_f71 := f71
   have z_hBg4 := hBg4
   have z_hBg61 := hBg61
   have okS : Ok ([g9] ++ blkL ao52 ++ [g19]) ([g61] ++ (blkL ao52 ++ ([g19] ++ ([g9] ++ ([g4] ++ (M)))))) w70.heap.size := (Ok.app (Ok.app (fun _ h => .inl (mr (mr (mr (ml h))))) (fun _ h => .inl (mr (ml h)))) (fun _ h => .inl (mr (mr (ml h)))))
   refine drw (fun w' => Chg ([g9] ++ blkL ao52 ++ [g19]) w70 w') (by kernel_rfl) fun w73 hc74 _ => ?_
   have hS : Chg ([g9] ++ blkL ao52 ++ [g19]) w70 w73 := (Chg.refl ([g9] ++ blkL ao52 ++ [g19]) _).trans hc74 (Ok.nil _ _)
   have o1 : Ok [] ([g61] ++ (blkL ao52 ++ ([g19] ++ ([g9] ++ ([g4] ++ (M)))))) w70.heap.size := Ok.nil _ _
   have o2 : Ok ([g61] ++ (blkL ao52 ++ ([g19] ++ ([g9] ++ ([g4] ++ (M)))))) ([g61] ++ (blkL ao52 ++ ([g19] ++ ([g9] ++ ([g4] ++ (M)))))) w70.heap.size := (Ok.refl _ _)
   have f71 := f71.chg hc74 o1 o2
   have f52 := f52.chg hc74 o1 o2 (fun _ _ h => nomatch h) (fun _ h => mr (ml h))
   have hBg4 := hBg4.chg hc74 (fun h => nomatch h)
   have hBg9 := hBg9.chg hc74 (fun h => nomatch h)
   have hBg19 := hBg19.chg hc74 (fun h => nomatch h)
   have hBg61 := hBg61.chg hc74 (fun h => nomatch h)
   have hM : MS ([g61] ++ (blkL ao52 ++ ([g19] ++ ([g9] ++ ([g4] ++ (M)))))) w73 := (hM.chg hc74)
   have hC := hC.trans hc74 (Ok.nil _ _)
   obtain ⟨s75, H75, H⟩ := bind_some H
   have J75 : ∀ (a : Act) (w75 : World) (ao76 : Option Addr) (cap76 : Nat) (ao77 : Option Addr) (cap77 : Nat), Has a Tryd.f52.ntmps [(2, .pointer (some ⟨g4, 0, none⟩)), (5, .pointer (some ⟨g19, 0, none⟩))] → (RSl (rInt .u8) 5 w75 (blkL ao77 ++ ([g61] ++ ([g19] ++ ([g9] ++ ([g4] ++ (M)))))) ao76 cap76 s75.1) → (Own (rInt .u8) 5 w75 (blkL ao77 ++ ([g61] ++ ([g19] ++ ([g9] ++ ([g4] ++ (M)))))) ao77 cap77 s75.2.2.2) → (Box w75 g4 (cS_api_Tunnel (⟨false, (0 : Int), (0 : Int), (⟨(0 : Int), (List.replicate 16 (0 : Int))⟩ : S_api_Addr), ([] : List Int)⟩ : S_api_Tunnel) none 0)) → (Box w75 g9 (cS_vineryref01_Reader (⟨s75.1, s75.2.1, s75.2.2.1⟩ : S_vineryref01_Reader) ao76 cap76)) → (Box w75 g19 (cS_api_Tunnel (⟨t13.1 == (1 : Int), t16.1, t28.1, t59.1, s75.2.2.2⟩ : S_api_Tunnel) ao77 cap77)) → (Box w75 g61 (cS_api_Addr t59.1)) → (∀ x ∈ blkL ao77, w.heap.size ≤ x) → (∀ x ∈ blkL ao77, x ∉ [g61]) → (∀ x ∈ blkL ao77, x ∉ [g19]) → (∀ x ∈ blkL ao77, x ∉ [g9]) → (∀ x ∈ blkL ao77, x ∉ [g4]) → (∀ x ∈ blkL ao77, x ∉ M) → (Chg [] w w75) → (MS (blkL ao77 ++ ([g61] ++ ([g19] ++ ([g9] ++ ([g4] ++ (M)))))) w75) → K72 a w75 := by
    intro a w75 ao76 cap76 ao77 cap77 ha f76 f77 hBg4 hBg9 hBg19 hBg61 e_i77 p_i77_i63 p_i77_i21 p_i77_i10 p_i77_i6 p_i77_M hC hM
    refine hK72 _ _ ?_; try clear hK72 K72
    refine wp_seq_k fun K78 hK78 => ?_
    refine wp_region_lit ?_
    refine ldA (cs := (cS_api_Tunnel (⟨t13.1 == (1 : Int), t16.1, t28.1, t59.1, s75.2.2.2⟩ : S_api_Tunnel) ao77 cap77)) ha rfl (by kernel_rfl) rfl rfl rfl (cells_sub (Box.cells hBg19) (all := (cS_api_Tunnel (⟨t13.1 == (1 : Int), t16.1, t28.1, t59.1, s75.2.2.2⟩ : S_api_Tunnel) ao77 cap77)) [] [] (by kernel_rfl)) fun a ha => ?_
    refine stA (l := (cS_api_Tunnel (⟨t13.1 == (1 : Int), t16.1, t28.1, t59.1, s75.2.2.2⟩ : S_api_Tunnel) ao77 cap77)) ha rfl rfl rfl (by kernel_rfl) rfl rfl hBg4 rfl fun a w79 ha hb2 hc80 _ => ?_
    have o1 : Ok [g4] (blkL ao77 ++ ([g61] ++ ([g19] ++ ([g9] ++ ([g4] ++ (M)))))) w75.heap.size := (fun _ h => .inl (mr (mr (mr (mr (ml h))))))
    have o2 : Ok (blkL ao77 ++ ([g61] ++ ([g19] ++ ([g9] ++ ([g4] ++ (M)))))) (blkL ao77 ++ ([g61] ++ ([g19] ++ ([g9] ++ ([g4] ++ (M)))))) w75.heap.size := (Ok.refl _ _)
    have f77 := f77.chg hc80 o1 o2 p_i77_i6 (fun _ h => ml h)
    have f76 := f76.chg hc80 o1 o2
    have hBg9 := hBg9.chg hc80 (p_i10_i6 g9 (by simp))
    have hBg19 := hBg19.chg hc80 (p_i21_i6 g19 (by simp))
    have hBg61 := hBg61.chg hc80 (p_i63_i6 g61 (by simp))
    have hM : MS (blkL ao77 ++ ([g61] ++ ([g19] ++ ([g9] ++ ([g4] ++ (M)))))) w79 := (hM.chg hc80)
    have hC := hC.trans hc80 (fun x h => .inr (e_i6 x h))
    have hBg4 : Box w79 g4 (cS_api_Tunnel (⟨t13.1 == (1 : Int), t16.1, t28.1, t59.1, s75.2.2.2⟩ : S_api_Tunnel) ao77 cap77) := hb2
    refine hK78 _ _ ?_; try clear hK78 K78
    refine wp_ret ?_
    try simp only [Exit.then, Exit.inBlock]
    have o1 : Ok [] (blkL ao77 ++ ([g61] ++ ([g19] ++ ([g9] ++ ([g4] ++ (M)))))) w79.heap.size := Ok.nil _ _
    have o2 : Ok (blkL ao77 ++ (M)) (blkL ao77 ++ ([g61] ++ ([g19] ++ ([g9] ++ ([g4] ++ (M)))))) w79.heap.size := (Ok.app (fun _ h => .inl (ml h)) (fun _ h => .inl (mr (mr (mr (mr (mr (h))))))))
    have f77 := f77.chg (Chg.refl [] _) o1 o2 (fun _ _ h => nomatch h) (fun _ h => ml h)
    have f76 := f76.chg (Chg.refl [] _) o1 o2
    have hBg4 := hBg4.chg (Chg.refl [] _) (fun h => nomatch h)
    have hBg9 := hBg9.chg (Chg.refl [] _) (fun h => nomatch h)
    have hBg19 := hBg19.chg (Chg.refl [] _) (fun h => nomatch h)
    have hBg61 := hBg61.chg (Chg.refl [] _) (fun h => nomatch h)
    have hM : MS (blkL ao77 ++ (M)) w79 := (MS.app (fun x h => hM.chg (Chg.refl [] _) x (ml h)) (fun x h => hM.chg (Chg.refl [] _) x (mr (mr (mr (mr (mr (h))))))))
    have hC := hC.trans (Chg.refl [] _) (Ok.nil _ _)
    obtain rfl := Option.some.inj H
    refine rtr ha (res1 rfl (roA ha rfl hBg4 (by kernel_rfl))) ?_
    exact ⟨ao77, cap77, rfl, f77, e_i77, hC, hM⟩
   have H := H75
   refine tkpz 0 0 (.pointer (some ⟨g19, 20, none⟩)) ha (s := hS) (q := fun a ha => ?_)
   refine tkpz 2 0 (.pointer (some ⟨g9, 0, none⟩)) ha (s := hS) (q := fun a ha => ?_)
   refine acs [1, 3] (by kernel_rfl) (by simp) fun i hi => ?_
   simp only [List.mem_cons, List.not_mem_nil, or_false] at hi
   rcases hi with rfl | rfl
   ·refine ⟨_, rfl, fun K81 hK81 => ?_⟩
    refine ld (v := .slice ao52 (t39.1 ++ t47.1).length cap52) ha rfl (by kernel_rfl) rfl rfl rfl (hBg19.cell' (o := 20) rfl (by kernel_rfl)) fun a ha => ?_
    refine ae hK81 hS ?_; clear hK81 K81
    refine ac 3 (by kernel_rfl) (by rfl) fun K82 hK82 => ?_
    obtain ⟨t83, H83, H⟩ := bind_some H
    refine cl ha (by rfl) (by kernel_rfl) (by rfl) (by rfl) (by rfl) (vineryref01_Reader_Rest.walk w73 _ hM g9 (⟨s70.1, s70.2.1, s70.2.2⟩ : S_vineryref01_Reader) ao71 cap71 f71 hBg9 (mr (mr (mr (ml (List.mem_singleton.2 rfl))))) _ H83) ?_
    rintro _ w83 ⟨ao84, cap84, ao85, cap85, rfl, f84, f85, qhBg9, ne_iD000084, hc83, hMn⟩ a ha
    have o1 : Ok [g9] ([g61] ++ (blkL ao52 ++ ([g19] ++ ([g9] ++ ([g4] ++ (M)))))) w73.heap.size := (fun _ h => .inl (mr (mr (mr (ml h)))))
    have o2 : Ok (blkL ao84 ++ ([g61] ++ (blkL ao52 ++ ([g19] ++ ([g9] ++ ([g4] ++ (M))))))) ([g61] ++ (blkL ao52 ++ ([g19] ++ ([g9] ++ ([g4] ++ (M)))))) w73.heap.size := (Ok.app (fun x h => .inr (ne_iD000084 x h)) (Ok.refl _ _))
    have f52 := f52.chg hc83 o1 o2 p_i52_i10 (fun _ h => mr (mr (ml h)))
    have f71 := f71.chg hc83 o1 o2
    have hBg4 := hBg4.chg hc83 ((fun x (hx : x ∈ [g4]) (hy : x ∈ [g9]) => p_i10_i6 x hy hx) g4 (by simp))
    have hBg19 := hBg19.chg hc83 (p_i21_i10 g19 (by simp))
    have hBg61 := hBg61.chg hc83 (p_i63_i10 g61 (by simp))
    have p_iD000084_i63 : ∀ x ∈ blkL ao84, x ∉ ([g61]) := fun x hx hy => absurd (hM x (ml hy)) (Nat.not_lt.2 (ne_iD000084 x hx))
    have p_iD000084_i52 : ∀ x ∈ blkL ao84, x ∉ (blkL ao52) := fun x hx hy => absurd (hM x (mr (ml hy))) (Nat.not_lt.2 (ne_iD000084 x hx))
    have p_iD000084_i21 : ∀ x ∈ blkL ao84, x ∉ ([g19]) := fun x hx hy => absurd (hM x (mr (mr (ml hy)))) (Nat.not_lt.2 (ne_iD000084 x hx))
    have p_iD000084_i10 : ∀ x ∈ blkL ao84, x ∉ ([g9]) := fun x hx hy => absurd (hM x (mr (mr (mr (ml hy))))) (Nat.not_lt.2 (ne_iD000084 x hx))
    have p_iD000084_i6 : ∀ x ∈ blkL ao84, x ∉ ([g4]) := fun x hx hy => absurd (hM x (mr (mr (mr (mr (ml hy)))))) (Nat.not_lt.2 (ne_iD000084 x hx))
    have p_iD000084_M : ∀ x ∈ blkL ao84, x ∉ M := fun x hx hy => absurd (hM x (mr (mr (mr (mr (mr (hy))))))) (Nat.not_lt.2 (ne_iD000084 x hx))
    have e_iD000084 : ∀ x ∈ blkL ao84, w.heap.size ≤ x := fun x hx => Nat.le_trans hC.size (ne_iD000084 x hx)
    have hM : MS (blkL ao84 ++ ([g61] ++ (blkL ao52 ++ ([g19] ++ ([g9] ++ ([g4] ++ (M))))))) w83 := (MS.app (fun x h => hMn x (ml h)) (hM.chg hc83))
    have hC := hC.trans hc83 (fun x h => .inr (e_i10 x h))
    have d_iD000084 : Ok (blkL ao84) ([g9] ++ blkL ao52 ++ [g19]) w70.heap.size := fun x hx => .inr (Nat.le_trans hS.size (ne_iD000084 x hx))
    have hS := hS.trans hc83 (fun x h => .inl ((List.mem_append_left _ (List.mem_append_left _ h))))
    have hBg9 := qhBg9
    refine ae hK82 hS ?_; clear hK82 K82
    refine ac 4 (by kernel_rfl) (by rfl) fun K86 hK86 => ?_
    obtain ⟨hx87, H⟩ := ite_some H
    refine app (r := (rInt .u8)) (xs := (t39.1 ++ t47.1)) (ys := t83.1) ha (ElemT.mk' (bytes := 1) (by kernel_rfl)) rfl rfl rfl rfl rfl f52 f84.src hx87 (by decide) fun a w88 ao89 cap89 hO89 hc89 hk89 hl89 ha => ?_
    have o1 : Ok (blkL ao52) (blkL ao84 ++ ([g61] ++ (blkL ao52 ++ ([g19] ++ ([g9] ++ ([g4] ++ (M))))))) w83.heap.size := (fun _ h => .inl (mr (mr (ml h))))
    have o2 : Ok (blkL ao89 ++ (blkL ao84 ++ ([g61] ++ ([g19] ++ ([g9] ++ ([g4] ++ (M))))))) (blkL ao84 ++ ([g61] ++ (blkL ao52 ++ ([g19] ++ ([g9] ++ ([g4] ++ (M))))))) w83.heap.size := (Ok.app (Ok.to hk89 (fun _ h => mr (mr (ml h)))) (Ok.app (fun _ h => .inl (ml h)) (Ok.app (fun _ h => .inl (mr (ml h))) (fun _ h => .inl (mr (mr (mr (h))))))))
    have f84 := f84.chg hc89 o1 o2 p_iD000084_i52 (fun _ h => mr (ml h))
    have f85 := f85.chg hc89 o1 o2
    have hBg4 := hBg4.chg hc89 ((fun x (hx : x ∈ [g4]) (hy : x ∈ blkL ao52) => p_i52_i6 x hy hx) g4 (by simp))
    have hBg9 := hBg9.chg hc89 ((fun x (hx : x ∈ [g9]) (hy : x ∈ blkL ao52) => p_i52_i10 x hy hx) g9 (by simp))
    have hBg19 := hBg19.chg hc89 ((fun x (hx : x ∈ [g19]) (hy : x ∈ blkL ao52) => p_i52_i21 x hy hx) g19 (by simp))
    have hBg61 := hBg61.chg hc89 (p_i63_i52 g61 (by simp))
    have p_iD000089_iD000084 : ∀ x ∈ blkL ao89, x ∉ (blkL ao84) := fun x hx hy => (hk89 x hx).elim (fun h => (fun x hx hy => p_iD000084_i52 x hy hx) x h hy) (fun h => absurd (hM x (ml hy)) (Nat.not_lt.2 h))
    have p_iD000089_i63 : ∀ x ∈ blkL ao89, x ∉ ([g61]) := fun x hx hy => (hk89 x hx).elim (fun h => (fun x hx hy => p_i63_i52 x hy hx) x h hy) (fun h => absurd (hM x (mr (ml hy))) (Nat.not_lt.2 h))
    have p_iD000089_i21 : ∀ x ∈ blkL ao89, x ∉ ([g19]) := fun x hx hy => (hk89 x hx).elim (fun h => p_i52_i21 x h hy) (fun h => absurd (hM x (mr (mr (mr (ml hy))))) (Nat.not_lt.2 h))
    have p_iD000089_i10 : ∀ x ∈ blkL ao89, x ∉ ([g9]) := fun x hx hy => (hk89 x hx).elim (fun h => p_i52_i10 x h hy) (fun h => absurd (hM x (mr (mr (mr (mr (ml hy)))))) (Nat.not_lt.2 h))
    have p_iD000089_i6 : ∀ x ∈ blkL ao89, x ∉ ([g4]) := fun x hx hy => (hk89 x hx).elim (fun h => p_i52_i6 x h hy) (fun h => absurd (hM x (mr (mr (mr (mr (mr (ml hy))))))) (Nat.not_lt.2 h))
    have p_iD000089_M : ∀ x ∈ blkL ao89, x ∉ M := fun x hx hy => (hk89 x hx).elim (fun h => p_i52_M x h hy) (fun h => absurd (hM x (mr (mr (mr (mr (mr (mr (hy)))))))) (Nat.not_lt.2 h))
    have e_iD000089 : ∀ x ∈ blkL ao89, w.heap.size ≤ x := fun x hx => (hk89 x hx).elim (e_i52 x) (Nat.le_trans hC.size)
    have hM : MS (blkL ao89 ++ (blkL ao84 ++ ([g61] ++ ([g19] ++ ([g9] ++ ([g4] ++ (M))))))) w88 := (MS.app hl89 (MS.app (fun x h => hM.chg hc89 x (ml h)) (MS.app (fun x h => hM.chg hc89 x (mr (ml h))) (fun x h => hM.chg hc89 x (mr (mr (mr (h))))))))
    have hC := hC.trans hc89 (fun x h => .inr (e_i52 x h))
    have d_iD000089 : Ok (blkL ao89) ([g9] ++ blkL ao52 ++ [g19]) w70.heap.size := fun x hx => (hk89 x hx).elim (fun h => .inl ((List.mem_append_left _ (List.mem_append_right _ h)))) (fun h => .inr (Nat.le_trans hS.size h))
    have hS := hS.trans hc89 (fun x h => .inl ((List.mem_append_left _ (List.mem_append_right _ h))))
    have f89 := hO89.chg (M' := blkL ao89 ++ (blkL ao84 ++ ([g61] ++ ([g19] ++ ([g9] ++ ([g4] ++ (M))))))) (Chg.refl [] _) (Ok.nil _ _) (Ok.app (fun _ h => .inl (ml h)) (Ok.to (Ok.app (fun _ h => .inl (ml h)) (Ok.app (fun _ h => .inl (mr (ml h))) (fun _ h => .inl (mr (mr (mr (h))))))) (fun _ h => mr h))) (fun _ _ h => nomatch h) (fun _ h => ml h)
    refine ae hK86 hS ?_; clear hK86 K86
    refine tkpz 5 0 (.pointer (some ⟨g19, 20, none⟩)) ha (s := hS) (q := fun a ha => ?_)
    refine ac 6 (by kernel_rfl) (by rfl) fun K90 hK90 => ?_
    refine st ha rfl rfl rfl (by kernel_rfl) rfl rfl hBg19 (Nat.le_of_ble_eq_true (by kernel_rfl)) fun a w91 ha hb2 hc92 _ => ?_
    have o1 : Ok [g19] (blkL ao89 ++ (blkL ao84 ++ ([g61] ++ ([g19] ++ ([g9] ++ ([g4] ++ (M))))))) w88.heap.size := (fun _ h => .inl (mr (mr (mr (ml h)))))
    have o2 : Ok (blkL ao89 ++ (blkL ao84 ++ ([g61] ++ ([g19] ++ ([g9] ++ ([g4] ++ (M))))))) (blkL ao89 ++ (blkL ao84 ++ ([g61] ++ ([g19] ++ ([g9] ++ ([g4] ++ (M))))))) w88.heap.size := (Ok.refl _ _)
    have f84 := f84.chg hc92 o1 o2 p_iD000084_i21 (fun _ h => mr (ml h))
    have f89 := f89.chg hc92 o1 o2 p_iD000089_i21 (fun _ h => ml h)
    have f85 := f85.chg hc92 o1 o2
    have hBg4 := hBg4.chg hc92 ((fun x (hx : x ∈ [g4]) (hy : x ∈ [g19]) => p_i21_i6 x hy hx) g4 (by simp))
    have hBg9 := hBg9.chg hc92 ((fun x (hx : x ∈ [g9]) (hy : x ∈ [g19]) => p_i21_i10 x hy hx) g9 (by simp))
    have hBg61 := hBg61.chg hc92 (p_i63_i21 g61 (by simp))
    have hM : MS (blkL ao89 ++ (blkL ao84 ++ ([g61] ++ ([g19] ++ ([g9] ++ ([g4] ++ (M))))))) w91 := (hM.chg hc92)
    have hC := hC.trans hc92 (fun x h => .inr (e_i21 x h))
    have hS := hS.trans hc92 (fun x h => .inl ((List.mem_append_right _ h)))
    have hBg19 : Box w91 g19 (cS_api_Tunnel (⟨t13.1 == (1 : Int), t16.1, t28.1, t59.1, ((t39.1 ++ t47.1) ++ t83.1)⟩ : S_api_Tunnel) ao89 cap89) := hb2
    refine ae hK90 hS ?_; clear hK90 K90
    refine dn (by kernel_rfl) ?_
    obtain rfl := Option.some.inj H
    have o1 : Ok [] (blkL ao89 ++ (blkL ao84 ++ ([g61] ++ ([g19] ++ ([g9] ++ ([g4] ++ (M))))))) w91.heap.size := Ok.nil _ _
    have o2 : Ok (blkL ao89 ++ ([g61] ++ ([g19] ++ ([g9] ++ ([g4] ++ (M)))))) (blkL ao89 ++ (blkL ao84 ++ ([g61] ++ ([g19] ++ ([g9] ++ ([g4] ++ (M))))))) w91.heap.size := (Ok.app (fun _ h => .inl (ml h)) (fun _ h => .inl (mr (mr (h)))))
    have f85 := f85.chg (Chg.refl [] _) o1 o2
    have f89 := f89.chg (Chg.refl [] _) o1 o2 (fun _ _ h => nomatch h) (fun _ h => ml h)
    have hBg4 := hBg4.chg (Chg.refl [] _) (fun h => nomatch h)
    have hBg9 := hBg9.chg (Chg.refl [] _) (fun h => nomatch h)
    have hBg19 := hBg19.chg (Chg.refl [] _) (fun h => nomatch h)
    have hBg61 := hBg61.chg (Chg.refl [] _) (fun h => nomatch h)
    have hM : MS (blkL ao89 ++ ([g61] ++ ([g19] ++ ([g9] ++ ([g4] ++ (M)))))) w91 := (MS.app (fun x h => hM.chg (Chg.refl [] _) x (ml h)) (fun x h => hM.chg (Chg.refl [] _) x (mr (mr (h)))))
    have hC := hC.trans (Chg.refl [] _) (Ok.nil _ _)
    exact J75 _ _ ao85 cap85 ao89 cap89 (ha.sel (by kernel_rfl)) f85 f89 hBg4 hBg9 hBg19 hBg61 e_iD000089 p_iD000089_i63 p_iD000089_i21 p_iD000089_i10 p_iD000089_i6 p_iD000089_M hC hM
   ·refine ⟨_, rfl, fun K93 hK93 => ?_⟩
    obtain ⟨t94, H94, H⟩ := bind_some H
    refine cl ha (by rfl) (by kernel_rfl) (by rfl) (by rfl) (by rfl) (vineryref01_Reader_Rest.walk w73 _ hM g9 (⟨s70.1, s70.2.1, s70.2.2⟩ : S_vineryref01_Reader) ao71 cap71 f71 hBg9 (mr (mr (mr (ml (List.mem_singleton.2 rfl))))) _ H94) ?_
    rintro _ w94 ⟨ao95, cap95, ao96, cap96, rfl, f95, f96, qhBg9, ne_iD000095, hc94, hMn⟩ a ha
    have o1 : Ok [g9] ([g61] ++ (blkL ao52 ++ ([g19] ++ ([g9] ++ ([g4] ++ (M)))))) w73.heap.size := (fun _ h => .inl (mr (mr (mr (ml h)))))
    have o2 : Ok (blkL ao95 ++ ([g61] ++ (blkL ao52 ++ ([g19] ++ ([g9] ++ ([g4] ++ (M))))))) ([g61] ++ (blkL ao52 ++ ([g19] ++ ([g9] ++ ([g4] ++ (M)))))) w73.heap.size := (Ok.app (fun x h => .inr (ne_iD000095 x h)) (Ok.refl _ _))
    have f71 := f71.chg hc94 o1 o2
    have f52 := f52.chg hc94 o1 o2 p_i52_i10 (fun _ h => mr (mr (ml h)))
    have hBg4 := hBg4.chg hc94 ((fun x (hx : x ∈ [g4]) (hy : x ∈ [g9]) => p_i10_i6 x hy hx) g4 (by simp))
    have hBg19 := hBg19.chg hc94 (p_i21_i10 g19 (by simp))
    have hBg61 := hBg61.chg hc94 (p_i63_i10 g61 (by simp))
    have p_iD000095_i63 : ∀ x ∈ blkL ao95, x ∉ ([g61]) := fun x hx hy => absurd (hM x (ml hy)) (Nat.not_lt.2 (ne_iD000095 x hx))
    have p_iD000095_i52 : ∀ x ∈ blkL ao95, x ∉ (blkL ao52) := fun x hx hy => absurd (hM x (mr (ml hy))) (Nat.not_lt.2 (ne_iD000095 x hx))
    have p_iD000095_i21 : ∀ x ∈ blkL ao95, x ∉ ([g19]) := fun x hx hy => absurd (hM x (mr (mr (ml hy)))) (Nat.not_lt.2 (ne_iD000095 x hx))
    have p_iD000095_i10 : ∀ x ∈ blkL ao95, x ∉ ([g9]) := fun x hx hy => absurd (hM x (mr (mr (mr (ml hy))))) (Nat.not_lt.2 (ne_iD000095 x hx))
    have p_iD000095_i6 : ∀ x ∈ blkL ao95, x ∉ ([g4]) := fun x hx hy => absurd (hM x (mr (mr (mr (mr (ml hy)))))) (Nat.not_lt.2 (ne_iD000095 x hx))
    have p_iD000095_M : ∀ x ∈ blkL ao95, x ∉ M := fun x hx hy => absurd (hM x (mr (mr (mr (mr (mr (hy))))))) (Nat.not_lt.2 (ne_iD000095 x hx))
    have e_iD000095 : ∀ x ∈ blkL ao95, w.heap.size ≤ x := fun x hx => Nat.le_trans hC.size (ne_iD000095 x hx)
    have hM : MS (blkL ao95 ++ ([g61] ++ (blkL ao52 ++ ([g19] ++ ([g9] ++ ([g4] ++ (M))))))) w94 := (MS.app (fun x h => hMn x (ml h)) (hM.chg hc94))
    have hC := hC.trans hc94 (fun x h => .inr (e_i10 x h))
    have d_iD000095 : Ok (blkL ao95) ([g9] ++ blkL ao52 ++ [g19]) w70.heap.size := fun x hx => .inr (Nat.le_trans hS.size (ne_iD000095 x hx))
    have hS := hS.trans hc94 (fun x h => .inl ((List.mem_append_left _ (List.mem_append_left _ h))))
    have hBg9 := qhBg9
    refine ae hK93 hS ?_; clear hK93 K93
    refine ac 1 (by kernel_rfl) (by rfl) fun K97 hK97 => ?_
    refine ld (v := .slice ao52 (t39.1 ++ t47.1).length cap52) ha rfl (by kernel_rfl) rfl rfl rfl (hBg19.cell' (o := 20) rfl (by kernel_rfl)) fun a ha => ?_
    refine ae hK97 hS ?_; clear hK97 K97
    refine ac 4 (by kernel_rfl) (by rfl) fun K98 hK98 => ?_
    obtain ⟨hx99, H⟩ := ite_some H
    refine app (r := (rInt .u8)) (xs := (t39.1 ++ t47.1)) (ys := t94.1) ha (ElemT.mk' (bytes := 1) (by kernel_rfl)) rfl rfl rfl rfl rfl f52 f95.src hx99 (by decide) fun a w100 ao101 cap101 hO101 hc101 hk101 hl101 ha => ?_
    have o1 : Ok (blkL ao52) (blkL ao95 ++ ([g61] ++ (blkL ao52 ++ ([g19] ++ ([g9] ++ ([g4] ++ (M))))))) w94.heap.size := (fun _ h => .inl (mr (mr (ml h))))
    have o2 : Ok (blkL ao101 ++ (blkL ao95 ++ ([g61] ++ ([g19] ++ ([g9] ++ ([g4] ++ (M))))))) (blkL ao95 ++ ([g61] ++ (blkL ao52 ++ ([g19] ++ ([g9] ++ ([g4] ++ (M))))))) w94.heap.size := (Ok.app (Ok.to hk101 (fun _ h => mr (mr (ml h)))) (Ok.app (fun _ h => .inl (ml h)) (Ok.app (fun _ h => .inl (mr (ml h))) (fun _ h => .inl (mr (mr (mr (h))))))))
    have f95 := f95.chg hc101 o1 o2 p_iD000095_i52 (fun _ h => mr (ml h))
    have f96 := f96.chg hc101 o1 o2
    have hBg4 := hBg4.chg hc101 ((fun x (hx : x ∈ [g4]) (hy : x ∈ blkL ao52) => p_i52_i6 x hy hx) g4 (by simp))
    have hBg9 := hBg9.chg hc101 ((fun x (hx : x ∈ [g9]) (hy : x ∈ blkL ao52) => p_i52_i10 x hy hx) g9 (by simp))
    have hBg19 := hBg19.chg hc101 ((fun x (hx : x ∈ [g19]) (hy : x ∈ blkL ao52) => p_i52_i21 x hy hx) g19 (by simp))
    have hBg61 := hBg61.chg hc101 (p_i63_i52 g61 (by simp))
    have p_iD000101_iD000095 : ∀ x ∈ blkL ao101, x ∉ (blkL ao95) := fun x hx hy => (hk101 x hx).elim (fun h => (fun x hx hy => p_iD000095_i52 x hy hx) x h hy) (fun h => absurd (hM x (ml hy)) (Nat.not_lt.2 h))
    have p_iD000101_i63 : ∀ x ∈ blkL ao101, x ∉ ([g61]) := fun x hx hy => (hk101 x hx).elim (fun h => (fun x hx hy => p_i63_i52 x hy hx) x h hy) (fun h => absurd (hM x (mr (ml hy))) (Nat.not_lt.2 h))
    have p_iD000101_i21 : ∀ x ∈ blkL ao101, x ∉ ([g19]) := fun x hx hy => (hk101 x hx).elim (fun h => p_i52_i21 x h hy) (fun h => absurd (hM x (mr (mr (mr (ml hy))))) (Nat.not_lt.2 h))
    have p_iD000101_i10 : ∀ x ∈ blkL ao101, x ∉ ([g9]) := fun x hx hy => (hk101 x hx).elim (fun h => p_i52_i10 x h hy) (fun h => absurd (hM x (mr (mr (mr (mr (ml hy)))))) (Nat.not_lt.2 h))
    have p_iD000101_i6 : ∀ x ∈ blkL ao101, x ∉ ([g4]) := fun x hx hy => (hk101 x hx).elim (fun h => p_i52_i6 x h hy) (fun h => absurd (hM x (mr (mr (mr (mr (mr (ml hy))))))) (Nat.not_lt.2 h))
    have p_iD000101_M : ∀ x ∈ blkL ao101, x ∉ M := fun x hx hy => (hk101 x hx).elim (fun h => p_i52_M x h hy) (fun h => absurd (hM x (mr (mr (mr (mr (mr (mr (hy)))))))) (Nat.not_lt.2 h))
    have e_iD000101 : ∀ x ∈ blkL ao101, w.heap.size ≤ x := fun x hx => (hk101 x hx).elim (e_i52 x) (Nat.le_trans hC.size)
    have hM : MS (blkL ao101 ++ (blkL ao95 ++ ([g61] ++ ([g19] ++ ([g9] ++ ([g4] ++ (M))))))) w100 := (MS.app hl101 (MS.app (fun x h => hM.chg hc101 x (ml h)) (MS.app (fun x h => hM.chg hc101 x (mr (ml h))) (fun x h => hM.chg hc101 x (mr (mr (mr (h))))))))
    have hC := hC.trans hc101 (fun x h => .inr (e_i52 x h))
    have d_iD000101 : Ok (blkL ao101) ([g9] ++ blkL ao52 ++ [g19]) w70.heap.size := fun x hx => (hk101 x hx).elim (fun h => .inl ((List.mem_append_left _ (List.mem_append_right _ h)))) (fun h => .inr (Nat.le_trans hS.size h))
    have hS := hS.trans hc101 (fun x h => .inl ((List.mem_append_left _ (List.mem_append_right _ h))))
    have f101 := hO101.chg (M' := blkL ao101 ++ (blkL ao95 ++ ([g61] ++ ([g19] ++ ([g9] ++ ([g4] ++ (M))))))) (Chg.refl [] _) (Ok.nil _ _) (Ok.app (fun _ h => .inl (ml h)) (Ok.to (Ok.app (fun _ h => .inl (ml h)) (Ok.app (fun _ h => .inl (mr (ml h))) (fun _ h => .inl (mr (mr (mr (h))))))) (fun _ h => mr h))) (fun _ _ h => nomatch h) (fun _ h => ml h)
    refine ae hK98 hS ?_; clear hK98 K98
    refine tkpz 5 0 (.pointer (some ⟨g19, 20, none⟩)) ha (s := hS) (q := fun a ha => ?_)
    refine ac 6 (by kernel_rfl) (by rfl) fun K102 hK102 => ?_
    refine st ha rfl rfl rfl (by kernel_rfl) rfl rfl hBg19 (Nat.le_of_ble_eq_true (by kernel_rfl)) fun a w103 ha hb2 hc104 _ => ?_
    have o1 : Ok [g19] (blkL ao101 ++ (blkL ao95 ++ ([g61] ++ ([g19] ++ ([g9] ++ ([g4] ++ (M))))))) w100.heap.size := (fun _ h => .inl (mr (mr (mr (ml h)))))
    have o2 : Ok (blkL ao101 ++ (blkL ao95 ++ ([g61] ++ ([g19] ++ ([g9] ++ ([g4] ++ (M))))))) (blkL ao101 ++ (blkL ao95 ++ ([g61] ++ ([g19] ++ ([g9] ++ ([g4] ++ (M))))))) w100.heap.size := (Ok.refl _ _)
    have f95 := f95.chg hc104 o1 o2 p_iD000095_i21 (fun _ h => mr (ml h))
    have f101 := f101.chg hc104 o1 o2 p_iD000101_i21 (fun _ h => ml h)
    have f96 := f96.chg hc104 o1 o2
    have hBg4 := hBg4.chg hc104 ((fun x (hx : x ∈ [g4]) (hy : x ∈ [g19]) => p_i21_i6 x hy hx) g4 (by simp))
    have hBg9 := hBg9.chg hc104 ((fun x (hx : x ∈ [g9]) (hy : x ∈ [g19]) => p_i21_i10 x hy hx) g9 (by simp))
    have hBg61 := hBg61.chg hc104 (p_i63_i21 g61 (by simp))
    have hM : MS (blkL ao101 ++ (blkL ao95 ++ ([g61] ++ ([g19] ++ ([g9] ++ ([g4] ++ (M))))))) w103 := (hM.chg hc104)
    have hC := hC.trans hc104 (fun x h => .inr (e_i21 x h))
    have hS := hS.trans hc104 (fun x h => .inl ((List.mem_append_right _ h)))
    have hBg19 : Box w103 g19 (cS_api_Tunnel (⟨t13.1 == (1 : Int), t16.1, t28.1, t59.1, ((t39.1 ++ t47.1) ++ t94.1)⟩ : S_api_Tunnel) ao101 cap101) := hb2
    refine ae hK102 hS ?_; clear hK102 K102
    refine dn (by kernel_rfl) ?_
    obtain rfl := Option.some.inj H
    have o1 : Ok [] (blkL ao101 ++ (blkL ao95 ++ ([g61] ++ ([g19] ++ ([g9] ++ ([g4] ++ (M))))))) w103.heap.size := Ok.nil _ _
    have o2 : Ok (blkL ao101 ++ ([g61] ++ ([g19] ++ ([g9] ++ ([g4] ++ (M)))))) (blkL ao101 ++ (blkL ao95 ++ ([g61] ++ ([g19] ++ ([g9] ++ ([g4] ++ (M))))))) w103.heap.size := (Ok.app (fun _ h => .inl (ml h)) (fun _ h => .inl (mr (mr (h)))))
    have f96 := f96.chg (Chg.refl [] _) o1 o2
    have f101 := f101.chg (Chg.refl [] _) o1 o2 (fun _ _ h => nomatch h) (fun _ h => ml h)
    have hBg4 := hBg4.chg (Chg.refl [] _) (fun h => nomatch h)
    have hBg9 := hBg9.chg (Chg.refl [] _) (fun h => nomatch h)
    have hBg19 := hBg19.chg (Chg.refl [] _) (fun h => nomatch h)
    have hBg61 := hBg61.chg (Chg.refl [] _) (fun h => nomatch h)
    have hM : MS (blkL ao101 ++ ([g61] ++ ([g19] ++ ([g9] ++ ([g4] ++ (M)))))) w103 := (MS.app (fun x h => hM.chg (Chg.refl [] _) x (ml h)) (fun x h => hM.chg (Chg.refl [] _) x (mr (mr (h)))))
    have hC := hC.trans (Chg.refl [] _) (Ok.nil _ _)
    exact J75 _ _ ao96 cap96 ao101 cap101 (ha.sel (by kernel_rfl)) f96 f101 hBg4 hBg9 hBg19 hBg61 e_iD000101 p_iD000101_i63 p_iD000101_i21 p_iD000101_i10 p_iD000101_i6 p_iD000101_M hC hM
  have H := H70
  refine wp_seq_k fun K105 hK105 => ?_
  refine wp_region_lit ?_
  obtain ⟨s106, H106, H⟩ := bind_some H
  have J106 : ∀ (a : Act) (w106 : World), Has a Tryd.f52.ntmps [(2, .pointer (some ⟨g4, 0, none⟩)), (3, .pointer (some ⟨g9, 0, none⟩)), (5, .pointer (some ⟨g19, 0, none⟩)), (75, .bool s106)] → (RSl (rInt .u8) 5 w106 ([g61] ++ (blkL ao52 ++ ([g19] ++ ([g9] ++ ([g4] ++ (M)))))) ao58 cap58 t56.2.B) → (Own (rInt .u8) 5 w106 ([g61] ++ (blkL ao52 ++ ([g19] ++ ([g9] ++ ([g4] ++ (M)))))) ao52 cap52 (t39.1 ++ t47.1)) → (Box w106 g4 (cS_api_Tunnel (⟨false, (0 : Int), (0 : Int), (⟨(0 : Int), (List.replicate 16 (0 : Int))⟩ : S_api_Addr), ([] : List Int)⟩ : S_api_Tunnel) none 0)) → (Box w106 g9 (cS_vineryref01_Reader t56.2 ao58 cap58)) → (Box w106 g19 (cS_api_Tunnel (⟨t13.1 == (1 : Int), t16.1, t28.1, t59.1, (t39.1 ++ t47.1)⟩ : S_api_Tunnel) ao52 cap52)) → (Box w106 g61 (cS_api_Addr t59.1)) → (Chg [] w w106) → (MS ([g61] ++ (blkL ao52 ++ ([g19] ++ ([g9] ++ ([g4] ++ (M)))))) w106) → K105 a w106 := by
   intro a w106 ha f58 f52 hBg4 hBg9 hBg19 hBg61 hC hM
   refine hK105 _ _ ?_; try clear hK105 K105
   refine cnd ha rfl (fun hc107 => ?_) (fun hc107 => ?_)
   ·have H := ite_t hc107 H
    refine wp_region_lit ?_
    refine seg ha 1 [(2, .pointer (some ⟨g4, 0, none⟩)), (3, .pointer (some ⟨g9, 0, none⟩)), (5, .pointer (some ⟨g19, 0, none⟩)), (76, .pointer (some ⟨g9, 0, none⟩))] (by kernel_rfl) fun a ha => ?_
    obtain ⟨t108, H108, H⟩ := bind_some H
    refine cl ha (by rfl) (by kernel_rfl) (by rfl) (by rfl) (by rfl) (vineryref01_Reader_Take.walk w106 _ hM g9 t56.2 ao58 cap58 f58 hBg9 (mr (mr (mr (ml (List.mem_singleton.2 rfl))))) (2 : Int) _ H108) ?_
    rintro _ w108 ⟨ao109, cap109, ao110, cap110, rfl, f109, f110, qhBg9, ne_i109, hc108, hMn⟩ a ha
    have o1 : Ok [g9] ([g61] ++ (blkL ao52 ++ ([g19] ++ ([g9] ++ ([g4] ++ (M)))))) w106.heap.size := (fun _ h => .inl (mr (mr (mr (ml h)))))
    have o2 : Ok (blkL ao109 ++ ([g61] ++ (blkL ao52 ++ ([g19] ++ ([g9] ++ ([g4] ++ (M))))))) ([g61] ++ (blkL ao52 ++ ([g19] ++ ([g9] ++ ([g4] ++ (M)))))) w106.heap.size := (Ok.app (fun x h => .inr (ne_i109 x h)) (Ok.refl _ _))
    have f58 := f58.chg hc108 o1 o2
    have f52 := f52.chg hc108 o1 o2 p_i52_i10 (fun _ h => mr (mr (ml h)))
    have hBg4 := hBg4.chg hc108 ((fun x (hx : x ∈ [g4]) (hy : x ∈ [g9]) => p_i10_i6 x hy hx) g4 (by simp))
    have hBg19 := hBg19.chg hc108 (p_i21_i10 g19 (by simp))
    have hBg61 := hBg61.chg hc108 (p_i63_i10 g61 (by simp))
    have p_i109_i63 : ∀ x ∈ blkL ao109, x ∉ ([g61]) := fun x hx hy => absurd (hM x (ml hy)) (Nat.not_lt.2 (ne_i109 x hx))
    have p_i109_i52 : ∀ x ∈ blkL ao109, x ∉ (blkL ao52) := fun x hx hy => absurd (hM x (mr (ml hy))) (Nat.not_lt.2 (ne_i109 x hx))
    have p_i109_i21 : ∀ x ∈ blkL ao109, x ∉ ([g19]) := fun x hx hy => absurd (hM x (mr (mr (ml hy)))) (Nat.not_lt.2 (ne_i109 x hx))
    have p_i109_i10 : ∀ x ∈ blkL ao109, x ∉ ([g9]) := fun x hx hy => absurd (hM x (mr (mr (mr (ml hy))))) (Nat.not_lt.2 (ne_i109 x hx))
    have p_i109_i6 : ∀ x ∈ blkL ao109, x ∉ ([g4]) := fun x hx hy => absurd (hM x (mr (mr (mr (mr (ml hy)))))) (Nat.not_lt.2 (ne_i109 x hx))
    have p_i109_M : ∀ x ∈ blkL ao109, x ∉ M := fun x hx hy => absurd (hM x (mr (mr (mr (mr (mr (hy))))))) (Nat.not_lt.2 (ne_i109 x hx))
    have e_i109 : ∀ x ∈ blkL ao109, w.heap.size ≤ x := fun x hx => Nat.le_trans hC.size (ne_i109 x hx)
    have hM : MS (blkL ao109 ++ ([g61] ++ (blkL ao52 ++ ([g19] ++ ([g9] ++ ([g4] ++ (M))))))) w108 := (MS.app (fun x h => hMn x (ml h)) (hM.chg hc108))
    have hC := hC.trans hc108 (fun x h => .inr (e_i10 x h))
    have hBg9 := qhBg9
    obtain rfl := Option.some.inj H
    have o1 : Ok [] (blkL ao109 ++ ([g61] ++ (blkL ao52 ++ ([g19] ++ ([g9] ++ ([g4] ++ (M))))))) w108.heap.size := Ok.nil _ _
    have o2 : Ok ([g61] ++ (blkL ao52 ++ ([g19] ++ ([g9] ++ ([g4] ++ (M)))))) (blkL ao109 ++ ([g61] ++ (blkL ao52 ++ ([g19] ++ ([g9] ++ ([g4] ++ (M))))))) w108.heap.size := (fun _ h => .inl (mr (h)))
    have f110 := f110.chg (Chg.refl [] _) o1 o2
    have f52 := f52.chg (Chg.refl [] _) o1 o2 (fun _ _ h => nomatch h) (fun _ h => mr (ml h))
    have hBg4 := hBg4.chg (Chg.refl [] _) (fun h => nomatch h)
    have hBg9 := hBg9.chg (Chg.refl [] _) (fun h => nomatch h)
    have hBg19 := hBg19.chg (Chg.refl [] _) (fun h => nomatch h)
    have hBg61 := hBg61.chg (Chg.refl [] _) (fun h => nomatch h)
    have hM : MS ([g61] ++ (blkL ao52 ++ ([g19] ++ ([g9] ++ ([g4] ++ (M)))))) w108 := (fun x h => hM.chg (Chg.refl [] _) x (mr (h)))
    have hC := hC.trans (Chg.refl [] _) (Ok.nil _ _)
    exact J70 _ _ ao110 cap110 (ha.sel (by kernel_rfl)) f110 f52 hBg4 hBg9 hBg19 hBg61 hC hM
   ·have H := ite_f hc107 H
    refine wp_skip ?_
    obtain rfl := Option.some.inj H
    exact J70 _ _ ao58 cap58 (ha.sel (by kernel_rfl)) f58 f52 hBg4 hBg9 hBg19 hBg61 hC hM
  have H := H106
  refine seg ha 1 [(2, .pointer (some ⟨g4, 0, none⟩)), (3, .pointer (some ⟨g9, 0, none⟩)), (5, .pointer (some ⟨g19, 0, none⟩)), (68, .pointer (some ⟨g19, 1, none⟩))] (by kernel_rfl) fun a ha => ?_
  refine ld (v := .int .i64 t16.1) ha rfl (by kernel_rfl) rfl rfl rfl (hBg19.cell' (o := 1) rfl (by kernel_rfl)) fun a ha => ?_
  refine seg ha 2 [(71, .bool (t16.1 == (2 : Int))), (2, .pointer (some ⟨g4, 0, none⟩)), (3, .pointer (some ⟨g9, 0, none⟩)), (5, .pointer (some ⟨g19, 0, none⟩))] (by kernel_rfl) fun a ha => ?_
  rcases Bool.eq_false_or_eq_true (t16.1 == (2 : Int)) with hb111 | hb111
  ·have ha := ha.lit hb111
   have H := ite_t hb111 H
   refine sgh ha 4 [1, 1, 1, 3] [(2, .pointer (some ⟨g4, 0, none⟩)), (3, .pointer (some ⟨g9, 0, none⟩)), (5, .pointer (some ⟨g19, 0, none⟩)), (75, .bool true)] (by kernel_rfl) fun a ha => ?_
   obtain rfl := Option.some.inj H
   have o1 : Ok [] ([g61] ++ (blkL ao57 ++ (blkL ao52 ++ (blkL ao48 ++ (blkL ao44 ++ (blkL ao26 ++ ([g19] ++ ([g9] ++ ([g4] ++ (M)))))))))) w67.heap.size := Ok.nil _ _
   have o2 : Ok ([g61] ++ (blkL ao52 ++ ([g19] ++ ([g9] ++ ([g4] ++ (M)))))) ([g61] ++ (blkL ao57 ++ (blkL ao52 ++ (blkL ao48 ++ (blkL ao44 ++ (blkL ao26 ++ ([g19] ++ ([g9] ++ ([g4] ++ (M)))))))))) w67.heap.size := (Ok.app (fun _ h => .inl (ml h)) (Ok.app (fun _ h => .inl (mr (mr (ml h)))) (fun _ h => .inl (mr (mr (mr (mr (mr (mr (h))))))))))
   have f58 := f58.chg (Chg.refl [] _) o1 o2
   have f52 := f52.chg (Chg.refl [] _) o1 o2 (fun _ _ h => nomatch h) (fun _ h => mr (ml h))
   have hBg4 := hBg4.chg (Chg.refl [] _) (fun h => nomatch h)
   have hBg9 := hBg9.chg (Chg.refl [] _) (fun h => nomatch h)
   have hBg19 := hBg19.chg (Chg.refl [] _) (fun h => nomatch h)
   have hBg61 := hBg61.chg (Chg.refl [] _) (fun h => nomatch h)
   have hM : MS ([g61] ++ (blkL ao52 ++ ([g19] ++ ([g9] ++ ([g4] ++ (M)))))) w67 := (MS.app (fun x h => hM.chg (Chg.refl [] _) x (ml h)) (MS.app (fun x h => hM.chg (Chg.refl [] _) x (mr (mr (ml h)))) (fun x h => hM.chg (Chg.refl [] _) x (mr (mr (mr (mr (mr (mr (h))))))))))
   have hC := hC.trans (Chg.refl [] _) (Ok.nil _ _)
   exact J106 _ _ (ha.sel (by kernel_rfl)) f58 f52 hBg4 hBg9 hBg19 hBg61 hC hM
  ·have ha := ha.lit hb111
   have H := ite_f hb111 H
   refine sgh ha 1 [2] [(2, .pointer (some ⟨g4, 0, none⟩)), (3, .pointer (some ⟨g9, 0, none⟩)), (5, .pointer (some ⟨g19, 0, none⟩)), (71, .bool false), (72, .pointer (some ⟨g19, 1, none⟩))] (by kernel_rfl) fun a ha => ?_
   refine ld (v := .int .i64 t16.1) ha rfl (by kernel_rfl) rfl rfl rfl (hBg19.cell' (o := 1) rfl (by kernel_rfl)) fun a ha => ?_
   refine sgh ha 2 [2, 4] [(2, .pointer (some ⟨g4, 0, none⟩)), (3, .pointer (some ⟨g9, 0, none⟩)), (5, .pointer (some ⟨g19, 0, none⟩)), (75, .bool (t16.1 == (7 : Int)))] (by kernel_rfl) fun a ha => ?_
   obtain rfl := Option.some.inj H
   have o1 : Ok [] ([g61] ++ (blkL ao57 ++ (blkL ao52 ++ (blkL ao48 ++ (blkL ao44 ++ (blkL ao26 ++ ([g19] ++ ([g9] ++ ([g4] ++ (M)))))))))) w67.heap.size := Ok.nil _ _
   have o2 : Ok ([g61] ++ (blkL ao52 ++ ([g19] ++ ([g9] ++ ([g4] ++ (M)))))) ([g61] ++ (blkL ao57 ++ (blkL ao52 ++ (blkL ao48 ++ (blkL ao44 ++ (blkL ao26 ++ ([g19] ++ ([g9] ++ ([g4] ++ (M)))))))))) w67.heap.size := (Ok.app (fun _ h => .inl (ml h)) (Ok.app (fun _ h => .inl (mr (mr (ml h)))) (fun _ h => .inl (mr (mr (mr (mr (mr (mr (h))))))))))
   have f58 := f58.chg (Chg.refl [] _) o1 o2
   have f52 := f52.chg (Chg.refl [] _) o1 o2 (fun _ _ h => nomatch h) (fun _ h => mr (ml h))
   have hBg4 := hBg4.chg (Chg.refl [] _) (fun h => nomatch h)
   have hBg9 := hBg9.chg (Chg.refl [] _) (fun h => nomatch h)
   have hBg19 := hBg19.chg (Chg.refl [] _) (fun h => nomatch h)
   have hBg61 := hBg61.chg (Chg.refl [] _) (fun h => nomatch h)
   have hM : MS ([g61] ++ (blkL ao52 ++ ([g19] ++ ([g9] ++ ([g4] ++ (M)))))) w67 := (MS.app (fun x h => hM.chg (Chg.refl [] _) x (ml h)) (MS.app (fun x h => hM.chg (Chg.refl [] _) x (mr (mr (ml h)))) (fun x h => hM.chg (Chg.refl [] _) x (mr (mr (mr (mr (mr (mr (h))))))))))
   have hC := hC.trans (Chg.refl [] _) (Ok.nil _ _)
   exact J106 _ _ (ha.sel (by kernel_rfl)) f58 f52 hBg4 hBg9 hBg19 hBg61 hC hM
 ·have H := ite_f hc37 H
  refine wp_seq_k fun K112 hK112 => ?_
  obtain ⟨s113, H113, H⟩ := bind_some H
  have J113 : ∀ (a : Act) (w113 : World), Has a Tryd.f52.ntmps [(2, .pointer (some ⟨g4, 0, none⟩)), (3, .pointer (some ⟨g9, 0, none⟩)), (5, .pointer (some ⟨g19, 0, none⟩)), (9, .int .i64 t33), (34, .int .i64 t16.1), (46, .bool s113)] → (RSl (rInt .u8) 5 w113 ([g19] ++ ([g9] ++ ([g4] ++ (M)))) ao27 cap27 t25.2.B) → (Box w113 g4 (cS_api_Tunnel (⟨false, (0 : Int), (0 : Int), (⟨(0 : Int), (List.replicate 16 (0 : Int))⟩ : S_api_Addr), ([] : List Int)⟩ : S_api_Tunnel) none 0)) → (Box w113 g9 (cS_vineryref01_Reader t25.2 ao27 cap27)) → (Box w113 g19 (cS_api_Tunnel (⟨t13.1 == (1 : Int), t16.1, t28.1, (⟨(0 : Int), (List.replicate 16 (0 : Int))⟩ : S_api_Addr), ([] : List Int)⟩ : S_api_Tunnel) none 0)) → (Chg [] w w113) → (MS ([g19] ++ ([g9] ++ ([g4] ++ (M)))) w113) → K112 a w113 := by
   intro a w113 ha f27 hBg4 hBg9 hBg19 hC hM
   refine hK112 _ _ ?_; try clear hK112 K112
   refine cnd ha rfl (fun hc114 => ?_) (fun hc114 => ?_)
   ·have H := ite_t hc114 H
    refine wp_seq_k fun K115 hK115 => ?_
    refine wp_region_lit ?_
    refine seg ha 1 [(2, .pointer (some ⟨g4, 0, none⟩)), (3, .pointer (some ⟨g9, 0, none⟩)), (5, .pointer (some ⟨g19, 0, none⟩)), (49, .pointer (some ⟨g9, 0, none⟩))] (by kernel_rfl) fun a ha => ?_
    obtain ⟨t116, H116, H⟩ := bind_some H
    refine cl ha (by rfl) (by kernel_rfl) (by rfl) (by rfl) (by rfl) (vineryref01_Reader_Take.walk w113 _ hM g9 t25.2 ao27 cap27 f27 hBg9 (mr (ml (List.mem_singleton.2 rfl))) (3 : Int) _ H116) ?_
    rintro _ w116 ⟨ao117, cap117, ao118, cap118, rfl, f117, f118, qhBg9, ne_i117, hc116, hMn⟩ a ha
    have o1 : Ok [g9] ([g19] ++ ([g9] ++ ([g4] ++ (M)))) w113.heap.size := (fun _ h => .inl (mr (ml h)))
    have o2 : Ok (blkL ao117 ++ ([g19] ++ ([g9] ++ ([g4] ++ (M))))) ([g19] ++ ([g9] ++ ([g4] ++ (M)))) w113.heap.size := (Ok.app (fun x h => .inr (ne_i117 x h)) (Ok.refl _ _))
    have f27 := f27.chg hc116 o1 o2
    have hBg4 := hBg4.chg hc116 ((fun x (hx : x ∈ [g4]) (hy : x ∈ [g9]) => p_i10_i6 x hy hx) g4 (by simp))
    have hBg19 := hBg19.chg hc116 (p_i21_i10 g19 (by simp))
    have p_i117_i21 : ∀ x ∈ blkL ao117, x ∉ ([g19]) := fun x hx hy => absurd (hM x (ml hy)) (Nat.not_lt.2 (ne_i117 x hx))
    have p_i117_i10 : ∀ x ∈ blkL ao117, x ∉ ([g9]) := fun x hx hy => absurd (hM x (mr (ml hy))) (Nat.not_lt.2 (ne_i117 x hx))
    have p_i117_i6 : ∀ x ∈ blkL ao117, x ∉ ([g4]) := fun x hx hy => absurd (hM x (mr (mr (ml hy)))) (Nat.not_lt.2 (ne_i117 x hx))
    have p_i117_M : ∀ x ∈ blkL ao117, x ∉ M := fun x hx hy => absurd (hM x (mr (mr (mr (hy))))) (Nat.not_lt.2 (ne_i117 x hx))
    have e_i117 : ∀ x ∈ blkL ao117, w.heap.size ≤ x := fun x hx => Nat.le_trans hC.size (ne_i117 x hx)
    have hM : MS (blkL ao117 ++ ([g19] ++ ([g9] ++ ([g4] ++ (M))))) w116 := (MS.app (fun x h => hMn x (ml h)) (hM.chg hc116))
    have hC := hC.trans hc116 (fun x h => .inr (e_i10 x h))
    have hBg9 := qhBg9
    refine hK115 _ _ ?_; try clear hK115 K115
    refine wp_region_lit ?_
    refine seg ha 1 [(2, .pointer (some ⟨g4, 0, none⟩)), (3, .pointer (some ⟨g9, 0, none⟩)), (5, .pointer (some ⟨g19, 0, none⟩)), (51, .pointer (some ⟨g9, 0, none⟩))] (by kernel_rfl) fun a ha => ?_
    obtain ⟨t119, H119, H⟩ := bind_some H
    refine cl ha (by rfl) (by kernel_rfl) (by rfl) (by rfl) (by rfl) (vineryref01_Reader_Num.walk w116 _ hM g9 t116.2 ao118 cap118 f118 hBg9 (mr (mr (ml (List.mem_singleton.2 rfl)))) (1 : Int) k _ H119) ?_
    rintro _ w119 ⟨ao120, cap120, rfl, f120, qhBg9, hc119, hMn⟩ a ha
    have o1 : Ok [g9] (blkL ao117 ++ ([g19] ++ ([g9] ++ ([g4] ++ (M))))) w116.heap.size := (fun _ h => .inl (mr (mr (ml h))))
    have o2 : Ok (blkL ao117 ++ ([g19] ++ ([g9] ++ ([g4] ++ (M))))) (blkL ao117 ++ ([g19] ++ ([g9] ++ ([g4] ++ (M))))) w116.heap.size := (Ok.refl _ _)
    have f118 := f118.chg hc119 o1 o2
    have hBg4 := hBg4.chg hc119 ((fun x (hx : x ∈ [g4]) (hy : x ∈ [g9]) => p_i10_i6 x hy hx) g4 (by simp))
    have hBg19 := hBg19.chg hc119 (p_i21_i10 g19 (by simp))
    have hM : MS (blkL ao117 ++ ([g19] ++ ([g9] ++ ([g4] ++ (M))))) w119 := (hM.chg hc119)
    have hC := hC.trans hc119 (fun x h => .inr (e_i10 x h))
    have hBg9 := qhBg9
    refine seg ha 1 [(2, .pointer (some ⟨g4, 0, none⟩)), (3, .pointer (some ⟨g9, 0, none⟩)), (5, .pointer (some ⟨g19, 0, none⟩)), (9, .int .i64 t119.1)] (by kernel_rfl) fun a ha => ?_
    refine hK34 _ _ ?_; try clear hK34 K34
    refine wp_seq_k fun K121 hK121 => ?_
    refine wp_region_lit ?_
    refine seg ha 2 [(2, .pointer (some ⟨g4, 0, none⟩)), (3, .pointer (some ⟨g9, 0, none⟩)), (5, .pointer (some ⟨g19, 0, none⟩)), (60, .pointer (some ⟨g9, 0, none⟩)), (61, .int .i64 t119.1)] (by kernel_rfl) fun a ha => ?_
    obtain ⟨t122, H122, H⟩ := bind_some H
    refine cl ha (by rfl) (by kernel_rfl) (by rfl) (by rfl) (by rfl) (vineryref01_Reader_Take.walk w119 _ hM g9 t119.2 ao120 cap120 f120 hBg9 (mr (mr (ml (List.mem_singleton.2 rfl)))) t119.1 _ H122) ?_
    rintro _ w122 ⟨ao123, cap123, ao124, cap124, rfl, f123, f124, qhBg9, ne_i123, hc122, hMn⟩ a ha
    have o1 : Ok [g9] (blkL ao117 ++ ([g19] ++ ([g9] ++ ([g4] ++ (M))))) w119.heap.size := (fun _ h => .inl (mr (mr (ml h))))
    have o2 : Ok (blkL ao123 ++ (blkL ao117 ++ ([g19] ++ ([g9] ++ ([g4] ++ (M)))))) (blkL ao117 ++ ([g19] ++ ([g9] ++ ([g4] ++ (M))))) w119.heap.size := (Ok.app (fun x h => .inr (ne_i123 x h)) (Ok.refl _ _))
    have f120 := f120.chg hc122 o1 o2
    have hBg4 := hBg4.chg hc122 ((fun x (hx : x ∈ [g4]) (hy : x ∈ [g9]) => p_i10_i6 x hy hx) g4 (by simp))
    have hBg19 := hBg19.chg hc122 (p_i21_i10 g19 (by simp))
    have p_i123_i117 : ∀ x ∈ blkL ao123, x ∉ (blkL ao117) := fun x hx hy => absurd (hM x (ml hy)) (Nat.not_lt.2 (ne_i123 x hx))
    have p_i123_i21 : ∀ x ∈ blkL ao123, x ∉ ([g19]) := fun x hx hy => absurd (hM x (mr (ml hy))) (Nat.not_lt.2 (ne_i123 x hx))
    have p_i123_i10 : ∀ x ∈ blkL ao123, x ∉ ([g9]) := fun x hx hy => absurd (hM x (mr (mr (ml hy)))) (Nat.not_lt.2 (ne_i123 x hx))
    have p_i123_i6 : ∀ x ∈ blkL ao123, x ∉ ([g4]) := fun x hx hy => absurd (hM x (mr (mr (mr (ml hy))))) (Nat.not_lt.2 (ne_i123 x hx))
    have p_i123_M : ∀ x ∈ blkL ao123, x ∉ M := fun x hx hy => absurd (hM x (mr (mr (mr (mr (hy)))))) (Nat.not_lt.2 (ne_i123 x hx))
    have e_i123 : ∀ x ∈ blkL ao123, w.heap.size ≤ x := fun x hx => Nat.le_trans hC.size (ne_i123 x hx)
    have hM : MS (blkL ao123 ++ (blkL ao117 ++ ([g19] ++ ([g9] ++ ([g4] ++ (M)))))) w122 := (MS.app (fun x h => hMn x (ml h)) (hM.chg hc122))
    have hC := hC.trans hc122 (fun x h => .inr (e_i10 x h))
    have hBg9 := qhBg9
    have hML : MS (blkL ao117 ++ ([g19] ++ ([g9] ++ ([g4] ++ (M))))) w122 := MS.rest hM (fun _ h => (List.mem_append.1 h).elim (fun h => mr (ml h)) (fun h => (List.mem_append.1 h).elim (fun h => mr (mr (ml h))) (fun h => (List.mem_append.1 h).elim (fun h => mr (mr (mr (ml h)))) (fun h => (List.mem_append.1 h).elim (fun h => mr (mr (mr (mr (ml h))))) (fun h => mr (mr (mr (mr (mr (h))))))))))
    have oL : Ok (blkL ao117 ++ ([g19] ++ ([g9] ++ ([g4] ++ (M))))) (blkL ao123 ++ (blkL ao117 ++ ([g19] ++ ([g9] ++ ([g4] ++ (M)))))) w122.heap.size := (fun _ h => .inl (mr (h)))
    obtain ⟨t125, H125, H⟩ := bind_some H
    refine cl ha (by rfl) (by kernel_rfl) (by rfl) (by rfl) (by rfl) (vineryref02_Of.walk w122 _ hML t122.1 ao123 cap123 (Own.toRSl (M' := blkL ao117 ++ ([g19] ++ ([g9] ++ ([g4] ++ (M))))) f123 oL (fun x hx hm => (List.mem_append.1 hm).elim (fun h => p_i123_i117 x hx h) (fun h => (List.mem_append.1 h).elim (fun h => p_i123_i21 x hx h) (fun h => (List.mem_append.1 h).elim (fun h => p_i123_i10 x hx h) (fun h => (List.mem_append.1 h).elim (fun h => p_i123_i6 x hx h) (fun h => p_i123_M x hx h)))))) k _ H125) ?_
    rintro _ w125 ⟨rfl, hc125, hMn⟩ a ha
    have o1 : Ok [] (blkL ao123 ++ (blkL ao117 ++ ([g19] ++ ([g9] ++ ([g4] ++ (M)))))) w122.heap.size := Ok.nil _ _
    have o2 : Ok (blkL ao123 ++ (blkL ao117 ++ ([g19] ++ ([g9] ++ ([g4] ++ (M)))))) (blkL ao123 ++ (blkL ao117 ++ ([g19] ++ ([g9] ++ ([g4] ++ (M)))))) w122.heap.size := (Ok.refl _ _)
    have f123 := f123.chg hc125 o1 o2 (fun _ _ h => nomatch h) (fun _ h => ml h)
    have f124 := f124.chg hc125 o1 o2
    have hBg4 := hBg4.chg hc125 (fun h => nomatch h)
    have hBg9 := hBg9.chg hc125 (fun h => nomatch h)
    have hBg19 := hBg19.chg hc125 (fun h => nomatch h)
    have hM : MS (blkL ao123 ++ (blkL ao117 ++ ([g19] ++ ([g9] ++ ([g4] ++ (M)))))) w125 := (hM.chg hc125)
    have hC := hC.trans hc125 (Ok.nil _ _)
    refine seg ha 3 [(2, .pointer (some ⟨g4, 0, none⟩)), (3, .pointer (some ⟨g9, 0, none⟩)), (5, .pointer (some ⟨g19, 0, none⟩)), (64, .agg (cS_api_Addr t125.1).toArray), (65, .int .i64 t125.2)] (by kernel_rfl) fun a ha => ?_
    refine al (cs := (cS_api_Addr (⟨(0 : Int), (List.replicate 16 (0 : Int))⟩ : S_api_Addr))) (z := .agg (cS_api_Addr (⟨(0 : Int), (List.replicate 16 (0 : Int))⟩ : S_api_Addr)).toArray) ha (fun w => by kernel_rfl) rfl rfl rfl rfl fun a w126 g127 hN128 ha => ?_
    have o1 : Ok [] (blkL ao123 ++ (blkL ao117 ++ ([g19] ++ ([g9] ++ ([g4] ++ (M)))))) w125.heap.size := Ok.nil _ _
    have o2 : Ok ([g127] ++ (blkL ao123 ++ (blkL ao117 ++ ([g19] ++ ([g9] ++ ([g4] ++ (M))))))) (blkL ao123 ++ (blkL ao117 ++ ([g19] ++ ([g9] ++ ([g4] ++ (M)))))) w125.heap.size := (Ok.app (hN128.ok _) (Ok.refl _ _))
    have f124 := f124.chg hN128.chg o1 o2
    have hBg4 := hBg4.chg hN128.chg (fun h => nomatch h)
    have hBg9 := hBg9.chg hN128.chg (fun h => nomatch h)
    have hBg19 := hBg19.chg hN128.chg (fun h => nomatch h)
    have p_i129_i123 : ∀ x ∈ [g127], x ∉ (blkL ao123) := fun x hx hy => absurd (hM x (ml hy)) (Nat.not_lt.2 ((hN128.ge1) x hx))
    have p_i129_i117 : ∀ x ∈ [g127], x ∉ (blkL ao117) := fun x hx hy => absurd (hM x (mr (ml hy))) (Nat.not_lt.2 ((hN128.ge1) x hx))
    have p_i129_i21 : ∀ x ∈ [g127], x ∉ ([g19]) := fun x hx hy => absurd (hM x (mr (mr (ml hy)))) (Nat.not_lt.2 ((hN128.ge1) x hx))
    have p_i129_i10 : ∀ x ∈ [g127], x ∉ ([g9]) := fun x hx hy => absurd (hM x (mr (mr (mr (ml hy))))) (Nat.not_lt.2 ((hN128.ge1) x hx))
    have p_i129_i6 : ∀ x ∈ [g127], x ∉ ([g4]) := fun x hx hy => absurd (hM x (mr (mr (mr (mr (ml hy)))))) (Nat.not_lt.2 ((hN128.ge1) x hx))
    have p_i129_M : ∀ x ∈ [g127], x ∉ M := fun x hx hy => absurd (hM x (mr (mr (mr (mr (mr (hy))))))) (Nat.not_lt.2 ((hN128.ge1) x hx))
    have e_i129 : ∀ x ∈ [g127], w.heap.size ≤ x := fun x hx => Nat.le_trans hC.size ((hN128.ge1) x hx)
    have hM : MS ([g127] ++ (blkL ao123 ++ (blkL ao117 ++ ([g19] ++ ([g9] ++ ([g4] ++ (M))))))) w126 := (MS.app hN128.ms (hM.chg hN128.chg))
    have hC := hC.trans hN128.chg (Ok.nil _ _)
    have hBg127 : Box w126 g127 (cS_api_Addr (⟨(0 : Int), (List.replicate 16 (0 : Int))⟩ : S_api_Addr)) := hN128.box
    refine stA (l := (cS_api_Addr t125.1)) ha rfl rfl rfl (by kernel_rfl) rfl rfl hBg127 rfl fun a w130 ha hb2 hc131 _ => ?_
    have o1 : Ok [g127] ([g127] ++ (blkL ao123 ++ (blkL ao117 ++ ([g19] ++ ([g9] ++ ([g4] ++ (M))))))) w126.heap.size := (fun _ h => .inl (ml h))
    have o2 : Ok ([g127] ++ (blkL ao123 ++ (blkL ao117 ++ ([g19] ++ ([g9] ++ ([g4] ++ (M))))))) ([g127] ++ (blkL ao123 ++ (blkL ao117 ++ ([g19] ++ ([g9] ++ ([g4] ++ (M))))))) w126.heap.size := (Ok.refl _ _)
    have f124 := f124.chg hc131 o1 o2
    have hBg4 := hBg4.chg hc131 ((fun x (hx : x ∈ [g4]) (hy : x ∈ [g127]) => p_i129_i6 x hy hx) g4 (by simp))
    have hBg9 := hBg9.chg hc131 ((fun x (hx : x ∈ [g9]) (hy : x ∈ [g127]) => p_i129_i10 x hy hx) g9 (by simp))
    have hBg19 := hBg19.chg hc131 ((fun x (hx : x ∈ [g19]) (hy : x ∈ [g127]) => p_i129_i21 x hy hx) g19 (by simp))
    have hM : MS ([g127] ++ (blkL ao123 ++ (blkL ao117 ++ ([g19] ++ ([g9] ++ ([g4] ++ (M))))))) w130 := (hM.chg hc131)
    have hC := hC.trans hc131 (fun x h => .inr (e_i129 x h))
    have hBg127 : Box w130 g127 (cS_api_Addr t125.1) := hb2
    refine seg ha 1 [(2, .pointer (some ⟨g4, 0, none⟩)), (3, .pointer (some ⟨g9, 0, none⟩)), (5, .pointer (some ⟨g19, 0, none⟩)), (11, .pointer (some ⟨g127, 0, none⟩))] (by kernel_rfl) fun a ha => ?_
    refine hK121 _ _ ?_; try clear hK121 K121
    refine wp_seq_k fun K132 hK132 => ?_
    refine wp_region_lit ?_
    refine ldA (cs := (cS_api_Addr t125.1)) ha rfl (by kernel_rfl) rfl rfl rfl (cells_sub (Box.cells hBg127) (all := (cS_api_Addr t125.1)) [] [] (by kernel_rfl)) fun a ha => ?_
    refine seg ha 1 [(2, .pointer (some ⟨g4, 0, none⟩)), (3, .pointer (some ⟨g9, 0, none⟩)), (5, .pointer (some ⟨g19, 0, none⟩)), (66, .agg (cS_api_Addr t125.1).toArray), (67, .pointer (some ⟨g19, 3, none⟩))] (by kernel_rfl) fun a ha => ?_
    refine stA (l := (cS_api_Addr t125.1)) ha rfl rfl rfl (by kernel_rfl) rfl rfl hBg19 rfl fun a w133 ha hb2 hc134 _ => ?_
    have o1 : Ok [g19] ([g127] ++ (blkL ao123 ++ (blkL ao117 ++ ([g19] ++ ([g9] ++ ([g4] ++ (M))))))) w130.heap.size := (fun _ h => .inl (mr (mr (mr (ml h)))))
    have o2 : Ok ([g127] ++ (blkL ao123 ++ (blkL ao117 ++ ([g19] ++ ([g9] ++ ([g4] ++ (M))))))) ([g127] ++ (blkL ao123 ++ (blkL ao117 ++ ([g19] ++ ([g9] ++ ([g4] ++ (M))))))) w130.heap.size := (Ok.refl _ _)
    have f124 := f124.chg hc134 o1 o2
    have hBg4 := hBg4.chg hc134 ((fun x (hx : x ∈ [g4]) (hy : x ∈ [g19]) => p_i21_i6 x hy hx) g4 (by simp))
    have hBg9 := hBg9.chg hc134 ((fun x (hx : x ∈ [g9]) (hy : x ∈ [g19]) => p_i21_i10 x hy hx) g9 (by simp))
    have hBg127 := hBg127.chg hc134 (p_i129_i21 g127 (by simp))
    have hM : MS ([g127] ++ (blkL ao123 ++ (blkL ao117 ++ ([g19] ++ ([g9] ++ ([g4] ++ (M))))))) w133 := (hM.chg hc134)
    have hC := hC.trans hc134 (fun x h => .inr (e_i21 x h))
    have hBg19 : Box w133 g19 (cS_api_Tunnel (⟨t13.1 == (1 : Int), t16.1, t28.1, t125.1, ([] : List Int)⟩ : S_api_Tunnel) none 0) := hb2
    refine hK132 _ _ ?_; try clear hK132 K132
    refine wp_seq_k fun K135 hK135 => ?_
    obtain ⟨s136, H136, H⟩ := bind_some H
    have J136 : ∀ (a : Act) (w136 : World) (ao137 : Option Addr) (cap137 : Nat), Has a Tryd.f52.ntmps [(2, .pointer (some ⟨g4, 0, none⟩)), (3, .pointer (some ⟨g9, 0, none⟩)), (5, .pointer (some ⟨g19, 0, none⟩))] → (RSl (rInt .u8) 5 w136 ([g127] ++ ([g19] ++ ([g9] ++ ([g4] ++ (M))))) ao137 cap137 s136.1) → (Box w136 g4 (cS_api_Tunnel (⟨false, (0 : Int), (0 : Int), (⟨(0 : Int), (List.replicate 16 (0 : Int))⟩ : S_api_Addr), ([] : List Int)⟩ : S_api_Tunnel) none 0)) → (Box w136 g9 (cS_vineryref01_Reader (⟨s136.1, s136.2.1, s136.2.2⟩ : S_vineryref01_Reader) ao137 cap137)) → (Box w136 g19 (cS_api_Tunnel (⟨t13.1 == (1 : Int), t16.1, t28.1, t125.1, ([] : List Int)⟩ : S_api_Tunnel) none 0)) → (Box w136 g127 (cS_api_Addr t125.1)) → (Chg [] w w136) → (MS ([g127] ++ ([g19] ++ ([g9] ++ ([g4] ++ (M))))) w136) → K135 a w136 := by
     intro a w136 ao137 cap137 ha f137 hBg4 hBg9 hBg19 hBg127 hC hM
     refine hK135 _ _ ?_; try clear hK135 K135
     refine wp_seq_k fun K138 hK138 => ?_
     have z_f137 := f137
     have z_hBg4 := hBg4
     have z_hBg127 := hBg127
     have okS : Ok ([g9] ++ [g19]) ([g127] ++ ([g19] ++ ([g9] ++ ([g4] ++ (M))))) w136.heap.size := (Ok.app (fun _ h => .inl (mr (mr (ml h)))) (fun _ h => .inl (mr (ml h))))
     refine drw (fun w' => Chg ([g9] ++ [g19]) w136 w') (by kernel_rfl) fun w139 hc140 _ => ?_
     have hS : Chg ([g9] ++ [g19]) w136 w139 := (Chg.refl ([g9] ++ [g19]) _).trans hc140 (Ok.nil _ _)
     have o1 : Ok [] ([g127] ++ ([g19] ++ ([g9] ++ ([g4] ++ (M))))) w136.heap.size := Ok.nil _ _
     have o2 : Ok ([g127] ++ ([g19] ++ ([g9] ++ ([g4] ++ (M))))) ([g127] ++ ([g19] ++ ([g9] ++ ([g4] ++ (M))))) w136.heap.size := (Ok.refl _ _)
     have f137 := f137.chg hc140 o1 o2
     have hBg4 := hBg4.chg hc140 (fun h => nomatch h)
     have hBg9 := hBg9.chg hc140 (fun h => nomatch h)
     have hBg19 := hBg19.chg hc140 (fun h => nomatch h)
     have hBg127 := hBg127.chg hc140 (fun h => nomatch h)
     have hM : MS ([g127] ++ ([g19] ++ ([g9] ++ ([g4] ++ (M))))) w139 := (hM.chg hc140)
     have hC := hC.trans hc140 (Ok.nil _ _)
     obtain ⟨s141, H141, H⟩ := bind_some H
     have J141 : ∀ (a : Act) (w141 : World) (ao142 : Option Addr) (cap142 : Nat) (ao143 : Option Addr) (cap143 : Nat), Has a Tryd.f52.ntmps [(2, .pointer (some ⟨g4, 0, none⟩)), (5, .pointer (some ⟨g19, 0, none⟩))] → (RSl (rInt .u8) 5 w141 (blkL ao143 ++ ([g127] ++ ([g19] ++ ([g9] ++ ([g4] ++ (M)))))) ao142 cap142 s141.1) → (Own (rInt .u8) 5 w141 (blkL ao143 ++ ([g127] ++ ([g19] ++ ([g9] ++ ([g4] ++ (M)))))) ao143 cap143 s141.2.2.2) → (Box w141 g4 (cS_api_Tunnel (⟨false, (0 : Int), (0 : Int), (⟨(0 : Int), (List.replicate 16 (0 : Int))⟩ : S_api_Addr), ([] : List Int)⟩ : S_api_Tunnel) none 0)) → (Box w141 g9 (cS_vineryref01_Reader (⟨s141.1, s141.2.1, s141.2.2.1⟩ : S_vineryref01_Reader) ao142 cap142)) → (Box w141 g19 (cS_api_Tunnel (⟨t13.1 == (1 : Int), t16.1, t28.1, t125.1, s141.2.2.2⟩ : S_api_Tunnel) ao143 cap143)) → (Box w141 g127 (cS_api_Addr t125.1)) → (∀ x ∈ blkL ao143, w.heap.size ≤ x) → (∀ x ∈ blkL ao143, x ∉ [g127]) → (∀ x ∈ blkL ao143, x ∉ [g19]) → (∀ x ∈ blkL ao143, x ∉ [g9]) → (∀ x ∈ blkL ao143, x ∉ [g4]) → (∀ x ∈ blkL ao143, x ∉ M) → (Chg [] w w141) → (MS (blkL ao143 ++ ([g127] ++ ([g19] ++ ([g9] ++ ([g4] ++ (M)))))) w141) → K138 a w141 := by
      intro a w141 ao142 cap142 ao143 cap143 ha f142 f143 hBg4 hBg9 hBg19 hBg127 e_i143 p_i143_i129 p_i143_i21 p_i143_i10 p_i143_i6 p_i143_M hC hM
      refine hK138 _ _ ?_; try clear hK138 K138
      refine wp_seq_k fun K144 hK144 => ?_
      refine wp_region_lit ?_
      refine ldA (cs := (cS_api_Tunnel (⟨t13.1 == (1 : Int), t16.1, t28.1, t125.1, s141.2.2.2⟩ : S_api_Tunnel) ao143 cap143)) ha rfl (by kernel_rfl) rfl rfl rfl (cells_sub (Box.cells hBg19) (all := (cS_api_Tunnel (⟨t13.1 == (1 : Int), t16.1, t28.1, t125.1, s141.2.2.2⟩ : S_api_Tunnel) ao143 cap143)) [] [] (by kernel_rfl)) fun a ha => ?_
      refine stA (l := (cS_api_Tunnel (⟨t13.1 == (1 : Int), t16.1, t28.1, t125.1, s141.2.2.2⟩ : S_api_Tunnel) ao143 cap143)) ha rfl rfl rfl (by kernel_rfl) rfl rfl hBg4 rfl fun a w145 ha hb2 hc146 _ => ?_
      have o1 : Ok [g4] (blkL ao143 ++ ([g127] ++ ([g19] ++ ([g9] ++ ([g4] ++ (M)))))) w141.heap.size := (fun _ h => .inl (mr (mr (mr (mr (ml h))))))
      have o2 : Ok (blkL ao143 ++ ([g127] ++ ([g19] ++ ([g9] ++ ([g4] ++ (M)))))) (blkL ao143 ++ ([g127] ++ ([g19] ++ ([g9] ++ ([g4] ++ (M)))))) w141.heap.size := (Ok.refl _ _)
      have f143 := f143.chg hc146 o1 o2 p_i143_i6 (fun _ h => ml h)
      have f142 := f142.chg hc146 o1 o2
      have hBg9 := hBg9.chg hc146 (p_i10_i6 g9 (by simp))
      have hBg19 := hBg19.chg hc146 (p_i21_i6 g19 (by simp))
      have hBg127 := hBg127.chg hc146 (p_i129_i6 g127 (by simp))
      have hM : MS (blkL ao143 ++ ([g127] ++ ([g19] ++ ([g9] ++ ([g4] ++ (M)))))) w145 := (hM.chg hc146)
      have hC := hC.trans hc146 (fun x h => .inr (e_i6 x h))
      have hBg4 : Box w145 g4 (cS_api_Tunnel (⟨t13.1 == (1 : Int), t16.1, t28.1, t125.1, s141.2.2.2⟩ : S_api_Tunnel) ao143 cap143) := hb2
      refine hK144 _ _ ?_; try clear hK144 K144
      refine wp_ret ?_
      try simp only [Exit.then, Exit.inBlock]
      have o1 : Ok [] (blkL ao143 ++ ([g127] ++ ([g19] ++ ([g9] ++ ([g4] ++ (M)))))) w145.heap.size := Ok.nil _ _
      have o2 : Ok (blkL ao143 ++ (M)) (blkL ao143 ++ ([g127] ++ ([g19] ++ ([g9] ++ ([g4] ++ (M)))))) w145.heap.size := (Ok.app (fun _ h => .inl (ml h)) (fun _ h => .inl (mr (mr (mr (mr (mr (h))))))))
      have f143 := f143.chg (Chg.refl [] _) o1 o2 (fun _ _ h => nomatch h) (fun _ h => ml h)
      have f142 := f142.chg (Chg.refl [] _) o1 o2
      have hBg4 := hBg4.chg (Chg.refl [] _) (fun h => nomatch h)
      have hBg9 := hBg9.chg (Chg.refl [] _) (fun h => nomatch h)
      have hBg19 := hBg19.chg (Chg.refl [] _) (fun h => nomatch h)
      have hBg127 := hBg127.chg (Chg.refl [] _) (fun h => nomatch h)
      have hM : MS (blkL ao143 ++ (M)) w145 := (MS.app (fun x h => hM.chg (Chg.refl [] _) x (ml h)) (fun x h => hM.chg (Chg.refl [] _) x (mr (mr (mr (mr (mr (h))))))))
      have hC := hC.trans (Chg.refl [] _) (Ok.nil _ _)
      obtain rfl := Option.some.inj H
      refine rtr ha (res1 rfl (roA ha rfl hBg4 (by kernel_rfl))) ?_
      exact ⟨ao143, cap143, rfl, f143, e_i143, hC, hM⟩
     have H := H141
     refine tkpz 0 0 (.pointer (some ⟨g19, 20, none⟩)) ha (s := hS) (q := fun a ha => ?_)
     refine tkpz 2 0 (.pointer (some ⟨g9, 0, none⟩)) ha (s := hS) (q := fun a ha => ?_)
     refine acs [1, 3] (by kernel_rfl) (by simp) fun i hi => ?_
     simp only [List.mem_cons, List.not_mem_nil, or_false] at hi
     rcases hi with rfl | rfl
     ·refine ⟨_, rfl, fun K147 hK147 => ?_⟩
      refine ld (v := .slice none 0 0) ha rfl (by kernel_rfl) rfl rfl rfl (hBg19.cell' (o := 20) rfl (by kernel_rfl)) fun a ha => ?_
      refine ae hK147 hS ?_; clear hK147 K147
      refine ac 3 (by kernel_rfl) (by rfl) fun K148 hK148 => ?_
      obtain ⟨t149, H149, H⟩ := bind_some H
      refine cl ha (by rfl) (by kernel_rfl) (by rfl) (by rfl) (by rfl) (vineryref01_Reader_Rest.walk w139 _ hM g9 (⟨s136.1, s136.2.1, s136.2.2⟩ : S_vineryref01_Reader) ao137 cap137 f137 hBg9 (mr (mr (ml (List.mem_singleton.2 rfl)))) _ H149) ?_
      rintro _ w149 ⟨ao150, cap150, ao151, cap151, rfl, f150, f151, qhBg9, ne_iD000150, hc149, hMn⟩ a ha
      have o1 : Ok [g9] ([g127] ++ ([g19] ++ ([g9] ++ ([g4] ++ (M))))) w139.heap.size := (fun _ h => .inl (mr (mr (ml h))))
      have o2 : Ok (blkL ao150 ++ ([g127] ++ ([g19] ++ ([g9] ++ ([g4] ++ (M)))))) ([g127] ++ ([g19] ++ ([g9] ++ ([g4] ++ (M))))) w139.heap.size := (Ok.app (fun x h => .inr (ne_iD000150 x h)) (Ok.refl _ _))
      have f137 := f137.chg hc149 o1 o2
      have hBg4 := hBg4.chg hc149 ((fun x (hx : x ∈ [g4]) (hy : x ∈ [g9]) => p_i10_i6 x hy hx) g4 (by simp))
      have hBg19 := hBg19.chg hc149 (p_i21_i10 g19 (by simp))
      have hBg127 := hBg127.chg hc149 (p_i129_i10 g127 (by simp))
      have p_iD000150_i129 : ∀ x ∈ blkL ao150, x ∉ ([g127]) := fun x hx hy => absurd (hM x (ml hy)) (Nat.not_lt.2 (ne_iD000150 x hx))
      have p_iD000150_i21 : ∀ x ∈ blkL ao150, x ∉ ([g19]) := fun x hx hy => absurd (hM x (mr (ml hy))) (Nat.not_lt.2 (ne_iD000150 x hx))
      have p_iD000150_i10 : ∀ x ∈ blkL ao150, x ∉ ([g9]) := fun x hx hy => absurd (hM x (mr (mr (ml hy)))) (Nat.not_lt.2 (ne_iD000150 x hx))
      have p_iD000150_i6 : ∀ x ∈ blkL ao150, x ∉ ([g4]) := fun x hx hy => absurd (hM x (mr (mr (mr (ml hy))))) (Nat.not_lt.2 (ne_iD000150 x hx))
      have p_iD000150_M : ∀ x ∈ blkL ao150, x ∉ M := fun x hx hy => absurd (hM x (mr (mr (mr (mr (hy)))))) (Nat.not_lt.2 (ne_iD000150 x hx))
      have e_iD000150 : ∀ x ∈ blkL ao150, w.heap.size ≤ x := fun x hx => Nat.le_trans hC.size (ne_iD000150 x hx)
      have hM : MS (blkL ao150 ++ ([g127] ++ ([g19] ++ ([g9] ++ ([g4] ++ (M)))))) w149 := (MS.app (fun x h => hMn x (ml h)) (hM.chg hc149))
      have hC := hC.trans hc149 (fun x h => .inr (e_i10 x h))
      have d_iD000150 : Ok (blkL ao150) ([g9] ++ [g19]) w136.heap.size := fun x hx => .inr (Nat.le_trans hS.size (ne_iD000150 x hx))
      have hS := hS.trans hc149 (fun x h => .inl ((List.mem_append_left _ h)))
      have hBg9 := qhBg9
      refine ae hK148 hS ?_; clear hK148 K148
      refine ac 4 (by kernel_rfl) (by rfl) fun K152 hK152 => ?_
      obtain ⟨hx153, H⟩ := ite_some H
      refine app (r := (rInt .u8)) (xs := ([] : List Int)) (ys := t149.1) ha (ElemT.mk' (bytes := 1) (by kernel_rfl)) rfl rfl rfl rfl rfl Own.nil f150.src hx153 (by decide) fun a w154 ao155 cap155 hO155 hc155 hk155 hl155 ha => ?_
      have o1 : Ok [] (blkL ao150 ++ ([g127] ++ ([g19] ++ ([g9] ++ ([g4] ++ (M)))))) w149.heap.size := Ok.nil _ _
      have o2 : Ok (blkL ao155 ++ (blkL ao150 ++ ([g127] ++ ([g19] ++ ([g9] ++ ([g4] ++ (M))))))) (blkL ao150 ++ ([g127] ++ ([g19] ++ ([g9] ++ ([g4] ++ (M)))))) w149.heap.size := (Ok.app (Ok.to hk155 (fun _ h => nomatch h)) (Ok.refl _ _))
      have f150 := f150.chg hc155 o1 o2 (fun _ _ h => nomatch h) (fun _ h => mr (ml h))
      have f151 := f151.chg hc155 o1 o2
      have hBg4 := hBg4.chg hc155 (fun h => nomatch h)
      have hBg9 := hBg9.chg hc155 (fun h => nomatch h)
      have hBg19 := hBg19.chg hc155 (fun h => nomatch h)
      have hBg127 := hBg127.chg hc155 (fun h => nomatch h)
      have p_iD000155_iD000150 : ∀ x ∈ blkL ao155, x ∉ (blkL ao150) := fun x hx hy => absurd (hM x (ml hy)) (Nat.not_lt.2 ((fun x h => (hk155 x h).elim (fun h => nomatch h) id) x hx))
      have p_iD000155_i129 : ∀ x ∈ blkL ao155, x ∉ ([g127]) := fun x hx hy => absurd (hM x (mr (ml hy))) (Nat.not_lt.2 ((fun x h => (hk155 x h).elim (fun h => nomatch h) id) x hx))
      have p_iD000155_i21 : ∀ x ∈ blkL ao155, x ∉ ([g19]) := fun x hx hy => absurd (hM x (mr (mr (ml hy)))) (Nat.not_lt.2 ((fun x h => (hk155 x h).elim (fun h => nomatch h) id) x hx))
      have p_iD000155_i10 : ∀ x ∈ blkL ao155, x ∉ ([g9]) := fun x hx hy => absurd (hM x (mr (mr (mr (ml hy))))) (Nat.not_lt.2 ((fun x h => (hk155 x h).elim (fun h => nomatch h) id) x hx))
      have p_iD000155_i6 : ∀ x ∈ blkL ao155, x ∉ ([g4]) := fun x hx hy => absurd (hM x (mr (mr (mr (mr (ml hy)))))) (Nat.not_lt.2 ((fun x h => (hk155 x h).elim (fun h => nomatch h) id) x hx))
      have p_iD000155_M : ∀ x ∈ blkL ao155, x ∉ M := fun x hx hy => absurd (hM x (mr (mr (mr (mr (mr (hy))))))) (Nat.not_lt.2 ((fun x h => (hk155 x h).elim (fun h => nomatch h) id) x hx))
      have e_iD000155 : ∀ x ∈ blkL ao155, w.heap.size ≤ x := fun x hx => Nat.le_trans hC.size ((fun x h => (hk155 x h).elim (fun h => nomatch h) id) x hx)
      have hM : MS (blkL ao155 ++ (blkL ao150 ++ ([g127] ++ ([g19] ++ ([g9] ++ ([g4] ++ (M))))))) w154 := (MS.app hl155 (hM.chg hc155))
      have hC := hC.trans hc155 (Ok.nil _ _)
      have d_iD000155 : Ok (blkL ao155) ([g9] ++ [g19]) w136.heap.size := fun x hx => .inr (Nat.le_trans hS.size ((fun x h => (hk155 x h).elim (fun h => nomatch h) id) x hx))
      have hS := hS.trans hc155 (Ok.nil _ _)
      have f155 := hO155.chg (M' := blkL ao155 ++ (blkL ao150 ++ ([g127] ++ ([g19] ++ ([g9] ++ ([g4] ++ (M))))))) (Chg.refl [] _) (Ok.nil _ _) (Ok.app (fun _ h => .inl (ml h)) (Ok.to (Ok.refl _ _) (fun _ h => mr h))) (fun _ _ h => nomatch h) (fun _ h => ml h)
      refine ae hK152 hS ?_; clear hK152 K152
      refine tkpz 5 0 (.pointer (some ⟨g19, 20, none⟩)) ha (s := hS) (q := fun a ha => ?_)
      refine ac 6 (by kernel_rfl) (by rfl) fun K156 hK156 => ?_
      refine st ha rfl rfl rfl (by kernel_rfl) rfl rfl hBg19 (Nat.le_of_ble_eq_true (by kernel_rfl)) fun a w157 ha hb2 hc158 _ => ?_
      have o1 : Ok [g19] (blkL ao155 ++ (blkL ao150 ++ ([g127] ++ ([g19] ++ ([g9] ++ ([g4] ++ (M))))))) w154.heap.size := (fun _ h => .inl (mr (mr (mr (ml h)))))
      have o2 : Ok (blkL ao155 ++ (blkL ao150 ++ ([g127] ++ ([g19] ++ ([g9] ++ ([g4] ++ (M))))))) (blkL ao155 ++ (blkL ao150 ++ ([g127] ++ ([g19] ++ ([g9] ++ ([g4] ++ (M))))))) w154.heap.size := (Ok.refl _ _)
      have f150 := f150.chg hc158 o1 o2 p_iD000150_i21 (fun _ h => mr (ml h))
      have f155 := f155.chg hc158 o1 o2 p_iD000155_i21 (fun _ h => ml h)
      have f151 := f151.chg hc158 o1 o2
      have hBg4 := hBg4.chg hc158 ((fun x (hx : x ∈ [g4]) (hy : x ∈ [g19]) => p_i21_i6 x hy hx) g4 (by simp))
      have hBg9 := hBg9.chg hc158 ((fun x (hx : x ∈ [g9]) (hy : x ∈ [g19]) => p_i21_i10 x hy hx) g9 (by simp))
      have hBg127 := hBg127.chg hc158 (p_i129_i21 g127 (by simp))
      have hM : MS (blkL ao155 ++ (blkL ao150 ++ ([g127] ++ ([g19] ++ ([g9] ++ ([g4] ++ (M))))))) w157 := (hM.chg hc158)
      have hC := hC.trans hc158 (fun x h => .inr (e_i21 x h))
      have hS := hS.trans hc158 (fun x h => .inl ((List.mem_append_right _ h)))
      have hBg19 : Box w157 g19 (cS_api_Tunnel (⟨t13.1 == (1 : Int), t16.1, t28.1, t125.1, (([] : List Int) ++ t149.1)⟩ : S_api_Tunnel) ao155 cap155) := hb2
      refine ae hK156 hS ?_; clear hK156 K156
      refine dn (by kernel_rfl) ?_
      obtain rfl := Option.some.inj H
      have o1 : Ok [] (blkL ao155 ++ (blkL ao150 ++ ([g127] ++ ([g19] ++ ([g9] ++ ([g4] ++ (M))))))) w157.heap.size := Ok.nil _ _
      have o2 : Ok (blkL ao155 ++ ([g127] ++ ([g19] ++ ([g9] ++ ([g4] ++ (M)))))) (blkL ao155 ++ (blkL ao150 ++ ([g127] ++ ([g19] ++ ([g9] ++ ([g4] ++ (M))))))) w157.heap.size := (Ok.app (fun _ h => .inl (ml h)) (fun _ h => .inl (mr (mr (h)))))
      have f151 := f151.chg (Chg.refl [] _) o1 o2
      have f155 := f155.chg (Chg.refl [] _) o1 o2 (fun _ _ h => nomatch h) (fun _ h => ml h)
      have hBg4 := hBg4.chg (Chg.refl [] _) (fun h => nomatch h)
      have hBg9 := hBg9.chg (Chg.refl [] _) (fun h => nomatch h)
      have hBg19 := hBg19.chg (Chg.refl [] _) (fun h => nomatch h)
      have hBg127 := hBg127.chg (Chg.refl [] _) (fun h => nomatch h)
      have hM : MS (blkL ao155 ++ ([g127] ++ ([g19] ++ ([g9] ++ ([g4] ++ (M)))))) w157 := (MS.app (fun x h => hM.chg (Chg.refl [] _) x (ml h)) (fun x h => hM.chg (Chg.refl [] _) x (mr (mr (h)))))
      have hC := hC.trans (Chg.refl [] _) (Ok.nil _ _)
      exact J141 _ _ ao151 cap151 ao155 cap155 (ha.sel (by kernel_rfl)) f151 f155 hBg4 hBg9 hBg19 hBg127 e_iD000155 p_iD000155_i129 p_iD000155_i21 p_iD000155_i10 p_iD000155_i6 p_iD000155_M hC hM
     ·refine ⟨_, rfl, fun K159 hK159 => ?_⟩
      obtain ⟨t160, H160, H⟩ := bind_some H
      refine cl ha (by rfl) (by kernel_rfl) (by rfl) (by rfl) (by rfl) (vineryref01_Reader_Rest.walk w139 _ hM g9 (⟨s136.1, s136.2.1, s136.2.2⟩ : S_vineryref01_Reader) ao137 cap137 f137 hBg9 (mr (mr (ml (List.mem_singleton.2 rfl)))) _ H160) ?_
      rintro _ w160 ⟨ao161, cap161, ao162, cap162, rfl, f161, f162, qhBg9, ne_iD000161, hc160, hMn⟩ a ha
      have o1 : Ok [g9] ([g127] ++ ([g19] ++ ([g9] ++ ([g4] ++ (M))))) w139.heap.size := (fun _ h => .inl (mr (mr (ml h))))
      have o2 : Ok (blkL ao161 ++ ([g127] ++ ([g19] ++ ([g9] ++ ([g4] ++ (M)))))) ([g127] ++ ([g19] ++ ([g9] ++ ([g4] ++ (M))))) w139.heap.size := (Ok.app (fun x h => .inr (ne_iD000161 x h)) (Ok.refl _ _))
      have f137 := f137.chg hc160 o1 o2
      have hBg4 := hBg4.chg hc160 ((fun x (hx : x ∈ [g4]) (hy : x ∈ [g9]) => p_i10_i6 x hy hx) g4 (by simp))
      have hBg19 := hBg19.chg hc160 (p_i21_i10 g19 (by simp))
      have hBg127 := hBg127.chg hc160 (p_i129_i10 g127 (by simp))
      have p_iD000161_i129 : ∀ x ∈ blkL ao161, x ∉ ([g127]) := fun x hx hy => absurd (hM x (ml hy)) (Nat.not_lt.2 (ne_iD000161 x hx))
      have p_iD000161_i21 : ∀ x ∈ blkL ao161, x ∉ ([g19]) := fun x hx hy => absurd (hM x (mr (ml hy))) (Nat.not_lt.2 (ne_iD000161 x hx))
      have p_iD000161_i10 : ∀ x ∈ blkL ao161, x ∉ ([g9]) := fun x hx hy => absurd (hM x (mr (mr (ml hy)))) (Nat.not_lt.2 (ne_iD000161 x hx))
      have p_iD000161_i6 : ∀ x ∈ blkL ao161, x ∉ ([g4]) := fun x hx hy => absurd (hM x (mr (mr (mr (ml hy))))) (Nat.not_lt.2 (ne_iD000161 x hx))
      have p_iD000161_M : ∀ x ∈ blkL ao161, x ∉ M := fun x hx hy => absurd (hM x (mr (mr (mr (mr (hy)))))) (Nat.not_lt.2 (ne_iD000161 x hx))
      have e_iD000161 : ∀ x ∈ blkL ao161, w.heap.size ≤ x := fun x hx => Nat.le_trans hC.size (ne_iD000161 x hx)
      have hM : MS (blkL ao161 ++ ([g127] ++ ([g19] ++ ([g9] ++ ([g4] ++ (M)))))) w160 := (MS.app (fun x h => hMn x (ml h)) (hM.chg hc160))
      have hC := hC.trans hc160 (fun x h => .inr (e_i10 x h))
      have d_iD000161 : Ok (blkL ao161) ([g9] ++ [g19]) w136.heap.size := fun x hx => .inr (Nat.le_trans hS.size (ne_iD000161 x hx))
      have hS := hS.trans hc160 (fun x h => .inl ((List.mem_append_left _ h)))
      have hBg9 := qhBg9
      refine ae hK159 hS ?_; clear hK159 K159
      refine ac 1 (by kernel_rfl) (by rfl) fun K163 hK163 => ?_
      refine ld (v := .slice none 0 0) ha rfl (by kernel_rfl) rfl rfl rfl (hBg19.cell' (o := 20) rfl (by kernel_rfl)) fun a ha => ?_
      refine ae hK163 hS ?_; clear hK163 K163
      refine ac 4 (by kernel_rfl) (by rfl) fun K164 hK164 => ?_
      obtain ⟨hx165, H⟩ := ite_some H
      refine app (r := (rInt .u8)) (xs := ([] : List Int)) (ys := t160.1) ha (ElemT.mk' (bytes := 1) (by kernel_rfl)) rfl rfl rfl rfl rfl Own.nil f161.src hx165 (by decide) fun a w166 ao167 cap167 hO167 hc167 hk167 hl167 ha => ?_
      have o1 : Ok [] (blkL ao161 ++ ([g127] ++ ([g19] ++ ([g9] ++ ([g4] ++ (M)))))) w160.heap.size := Ok.nil _ _
      have o2 : Ok (blkL ao167 ++ (blkL ao161 ++ ([g127] ++ ([g19] ++ ([g9] ++ ([g4] ++ (M))))))) (blkL ao161 ++ ([g127] ++ ([g19] ++ ([g9] ++ ([g4] ++ (M)))))) w160.heap.size := (Ok.app (Ok.to hk167 (fun _ h => nomatch h)) (Ok.refl _ _))
      have f161 := f161.chg hc167 o1 o2 (fun _ _ h => nomatch h) (fun _ h => mr (ml h))
      have f162 := f162.chg hc167 o1 o2
      have hBg4 := hBg4.chg hc167 (fun h => nomatch h)
      have hBg9 := hBg9.chg hc167 (fun h => nomatch h)
      have hBg19 := hBg19.chg hc167 (fun h => nomatch h)
      have hBg127 := hBg127.chg hc167 (fun h => nomatch h)
      have p_iD000167_iD000161 : ∀ x ∈ blkL ao167, x ∉ (blkL ao161) := fun x hx hy => absurd (hM x (ml hy)) (Nat.not_lt.2 ((fun x h => (hk167 x h).elim (fun h => nomatch h) id) x hx))
      have p_iD000167_i129 : ∀ x ∈ blkL ao167, x ∉ ([g127]) := fun x hx hy => absurd (hM x (mr (ml hy))) (Nat.not_lt.2 ((fun x h => (hk167 x h).elim (fun h => nomatch h) id) x hx))
      have p_iD000167_i21 : ∀ x ∈ blkL ao167, x ∉ ([g19]) := fun x hx hy => absurd (hM x (mr (mr (ml hy)))) (Nat.not_lt.2 ((fun x h => (hk167 x h).elim (fun h => nomatch h) id) x hx))
      have p_iD000167_i10 : ∀ x ∈ blkL ao167, x ∉ ([g9]) := fun x hx hy => absurd (hM x (mr (mr (mr (ml hy))))) (Nat.not_lt.2 ((fun x h => (hk167 x h).elim (fun h => nomatch h) id) x hx))
      have p_iD000167_i6 : ∀ x ∈ blkL ao167, x ∉ ([g4]) := fun x hx hy => absurd (hM x (mr (mr (mr (mr (ml hy)))))) (Nat.not_lt.2 ((fun x h => (hk167 x h).elim (fun h => nomatch h) id) x hx))
      have p_iD000167_M : ∀ x ∈ blkL ao167, x ∉ M := fun x hx hy => absurd (hM x (mr (mr (mr (mr (mr (hy))))))) (Nat.not_lt.2 ((fun x h => (hk167 x h).elim (fun h => nomatch h) id) x hx))
      have e_iD000167 : ∀ x ∈ blkL ao167, w.heap.size ≤ x := fun x hx => Nat.le_trans hC.size ((fun x h => (hk167 x h).elim (fun h => nomatch h) id) x hx)
      have hM : MS (blkL ao167 ++ (blkL ao161 ++ ([g127] ++ ([g19] ++ ([g9] ++ ([g4] ++ (M))))))) w166 := (MS.app hl167 (hM.chg hc167))
      have hC := hC.trans hc167 (Ok.nil _ _)
      have d_iD000167 : Ok (blkL ao167) ([g9] ++ [g19]) w136.heap.size := fun x hx => .inr (Nat.le_trans hS.size ((fun x h => (hk167 x h).elim (fun h => nomatch h) id) x hx))
      have hS := hS.trans hc167 (Ok.nil _ _)
      have f167 := hO167.chg (M' := blkL ao167 ++ (blkL ao161 ++ ([g127] ++ ([g19] ++ ([g9] ++ ([g4] ++ (M))))))) (Chg.refl [] _) (Ok.nil _ _) (Ok.app (fun _ h => .inl (ml h)) (Ok.to (Ok.refl _ _) (fun _ h => mr h))) (fun _ _ h => nomatch h) (fun _ h => ml h)
      refine ae hK164 hS ?_; clear hK164 K164
      refine tkpz 5 0 (.pointer (some ⟨g19, 20, none⟩)) ha (s := hS) (q := fun a ha => ?_)
      refine ac 6 (by kernel_rfl) (by rfl) fun K168 hK168 => ?_
      refine st ha rfl rfl rfl (by kernel_rfl) rfl rfl hBg19 (Nat.le_of_ble_eq_true (by kernel_rfl)) fun a w169 ha hb2 hc170 _ => ?_
      have o1 : Ok [g19] (blkL ao167 ++ (blkL ao161 ++ ([g127] ++ ([g19] ++ ([g9] ++ ([g4] ++ (M))))))) w166.heap.size := (fun _ h => .inl (mr (mr (mr (ml h)))))
      have o2 : Ok (blkL ao167 ++ (blkL ao161 ++ ([g127] ++ ([g19] ++ ([g9] ++ ([g4] ++ (M))))))) (blkL ao167 ++ (blkL ao161 ++ ([g127] ++ ([g19] ++ ([g9] ++ ([g4] ++ (M))))))) w166.heap.size := (Ok.refl _ _)
      have f161 := f161.chg hc170 o1 o2 p_iD000161_i21 (fun _ h => mr (ml h))
      have f167 := f167.chg hc170 o1 o2 p_iD000167_i21 (fun _ h => ml h)
      have f162 := f162.chg hc170 o1 o2
      have hBg4 := hBg4.chg hc170 ((fun x (hx : x ∈ [g4]) (hy : x ∈ [g19]) => p_i21_i6 x hy hx) g4 (by simp))
      have hBg9 := hBg9.chg hc170 ((fun x (hx : x ∈ [g9]) (hy : x ∈ [g19]) => p_i21_i10 x hy hx) g9 (by simp))
      have hBg127 := hBg127.chg hc170 (p_i129_i21 g127 (by simp))
      have hM : MS (blkL ao167 ++ (blkL ao161 ++ ([g127] ++ ([g19] ++ ([g9] ++ ([g4] ++ (M))))))) w169 := (hM.chg hc170)
      have hC := hC.trans hc170 (fun x h => .inr (e_i21 x h))
      have hS := hS.trans hc170 (fun x h => .inl ((List.mem_append_right _ h)))
      have hBg19 : Box w169 g19 (cS_api_Tunnel (⟨t13.1 == (1 : Int), t16.1, t28.1, t125.1, (([] : List Int) ++ t160.1)⟩ : S_api_Tunnel) ao167 cap167) := hb2
      refine ae hK168 hS ?_; clear hK168 K168
      refine dn (by kernel_rfl) ?_
      obtain rfl := Option.some.inj H
      have o1 : Ok [] (blkL ao167 ++ (blkL ao161 ++ ([g127] ++ ([g19] ++ ([g9] ++ ([g4] ++ (M))))))) w169.heap.size := Ok.nil _ _
      have o2 : Ok (blkL ao167 ++ ([g127] ++ ([g19] ++ ([g9] ++ ([g4] ++ (M)))))) (blkL ao167 ++ (blkL ao161 ++ ([g127] ++ ([g19] ++ ([g9] ++ ([g4] ++ (M))))))) w169.heap.size := (Ok.app (fun _ h => .inl (ml h)) (fun _ h => .inl (mr (mr (h)))))
      have f162 := f162.chg (Chg.refl [] _) o1 o2
      have f167 := f167.chg (Chg.refl [] _) o1 o2 (fun _ _ h => nomatch h) (fun _ h => ml h)
      have hBg4 := hBg4.chg (Chg.refl [] _) (fun h => nomatch h)
      have hBg9 := hBg9.chg (Chg.refl [] _) (fun h => nomatch h)
      have hBg19 := hBg19.chg (Chg.refl [] _) (fun h => nomatch h)
      have hBg127 := hBg127.chg (Chg.refl [] _) (fun h => nomatch h)
      have hM : MS (blkL ao167 ++ ([g127] ++ ([g19] ++ ([g9] ++ ([g4] ++ (M)))))) w169 := (MS.app (fun x h => hM.chg (Chg.refl [] _) x (ml h)) (fun x h => hM.chg (Chg.refl [] _) x (mr (mr (h)))))
      have hC := hC.trans (Chg.refl [] _) (Ok.nil _ _)
      exact J141 _ _ ao162 cap162 ao167 cap167 (ha.sel (by kernel_rfl)) f162 f167 hBg4 hBg9 hBg19 hBg127 e_iD000167 p_iD000167_i129 p_iD000167_i21 p_iD000167_i10 p_iD000167_i6 p_iD000167_M hC hM
    have H := H136
    refine wp_seq_k fun K171 hK171 => ?_
    refine wp_region_lit ?_
    obtain ⟨s172, H172, H⟩ := bind_some H
    have J172 : ∀ (a : Act) (w172 : World), Has a Tryd.f52.ntmps [(2, .pointer (some ⟨g4, 0, none⟩)), (3, .pointer (some ⟨g9, 0, none⟩)), (5, .pointer (some ⟨g19, 0, none⟩)), (75, .bool s172)] → (RSl (rInt .u8) 5 w172 ([g127] ++ ([g19] ++ ([g9] ++ ([g4] ++ (M))))) ao124 cap124 t122.2.B) → (Box w172 g4 (cS_api_Tunnel (⟨false, (0 : Int), (0 : Int), (⟨(0 : Int), (List.replicate 16 (0 : Int))⟩ : S_api_Addr), ([] : List Int)⟩ : S_api_Tunnel) none 0)) → (Box w172 g9 (cS_vineryref01_Reader t122.2 ao124 cap124)) → (Box w172 g19 (cS_api_Tunnel (⟨t13.1 == (1 : Int), t16.1, t28.1, t125.1, ([] : List Int)⟩ : S_api_Tunnel) none 0)) → (Box w172 g127 (cS_api_Addr t125.1)) → (Chg [] w w172) → (MS ([g127] ++ ([g19] ++ ([g9] ++ ([g4] ++ (M))))) w172) → K171 a w172 := by
     intro a w172 ha f124 hBg4 hBg9 hBg19 hBg127 hC hM
     refine hK171 _ _ ?_; try clear hK171 K171
     refine cnd ha rfl (fun hc173 => ?_) (fun hc173 => ?_)
     ·have H := ite_t hc173 H
      refine wp_region_lit ?_
      refine seg ha 1 [(2, .pointer (some ⟨g4, 0, none⟩)), (3, .pointer (some ⟨g9, 0, none⟩)), (5, .pointer (some ⟨g19, 0, none⟩)), (76, .pointer (some ⟨g9, 0, none⟩))] (by kernel_rfl) fun a ha => ?_
      obtain ⟨t174, H174, H⟩ := bind_some H
      refine cl ha (by rfl) (by kernel_rfl) (by rfl) (by rfl) (by rfl) (vineryref01_Reader_Take.walk w172 _ hM g9 t122.2 ao124 cap124 f124 hBg9 (mr (mr (ml (List.mem_singleton.2 rfl)))) (2 : Int) _ H174) ?_
      rintro _ w174 ⟨ao175, cap175, ao176, cap176, rfl, f175, f176, qhBg9, ne_i175, hc174, hMn⟩ a ha
      have o1 : Ok [g9] ([g127] ++ ([g19] ++ ([g9] ++ ([g4] ++ (M))))) w172.heap.size := (fun _ h => .inl (mr (mr (ml h))))
      have o2 : Ok (blkL ao175 ++ ([g127] ++ ([g19] ++ ([g9] ++ ([g4] ++ (M)))))) ([g127] ++ ([g19] ++ ([g9] ++ ([g4] ++ (M))))) w172.heap.size := (Ok.app (fun x h => .inr (ne_i175 x h)) (Ok.refl _ _))
      have f124 := f124.chg hc174 o1 o2
      have hBg4 := hBg4.chg hc174 ((fun x (hx : x ∈ [g4]) (hy : x ∈ [g9]) => p_i10_i6 x hy hx) g4 (by simp))
      have hBg19 := hBg19.chg hc174 (p_i21_i10 g19 (by simp))
      have hBg127 := hBg127.chg hc174 (p_i129_i10 g127 (by simp))
      have p_i175_i129 : ∀ x ∈ blkL ao175, x ∉ ([g127]) := fun x hx hy => absurd (hM x (ml hy)) (Nat.not_lt.2 (ne_i175 x hx))
      have p_i175_i21 : ∀ x ∈ blkL ao175, x ∉ ([g19]) := fun x hx hy => absurd (hM x (mr (ml hy))) (Nat.not_lt.2 (ne_i175 x hx))
      have p_i175_i10 : ∀ x ∈ blkL ao175, x ∉ ([g9]) := fun x hx hy => absurd (hM x (mr (mr (ml hy)))) (Nat.not_lt.2 (ne_i175 x hx))
      have p_i175_i6 : ∀ x ∈ blkL ao175, x ∉ ([g4]) := fun x hx hy => absurd (hM x (mr (mr (mr (ml hy))))) (Nat.not_lt.2 (ne_i175 x hx))
      have p_i175_M : ∀ x ∈ blkL ao175, x ∉ M := fun x hx hy => absurd (hM x (mr (mr (mr (mr (hy)))))) (Nat.not_lt.2 (ne_i175 x hx))
      have e_i175 : ∀ x ∈ blkL ao175, w.heap.size ≤ x := fun x hx => Nat.le_trans hC.size (ne_i175 x hx)
      have hM : MS (blkL ao175 ++ ([g127] ++ ([g19] ++ ([g9] ++ ([g4] ++ (M)))))) w174 := (MS.app (fun x h => hMn x (ml h)) (hM.chg hc174))
      have hC := hC.trans hc174 (fun x h => .inr (e_i10 x h))
      have hBg9 := qhBg9
      obtain rfl := Option.some.inj H
      have o1 : Ok [] (blkL ao175 ++ ([g127] ++ ([g19] ++ ([g9] ++ ([g4] ++ (M)))))) w174.heap.size := Ok.nil _ _
      have o2 : Ok ([g127] ++ ([g19] ++ ([g9] ++ ([g4] ++ (M))))) (blkL ao175 ++ ([g127] ++ ([g19] ++ ([g9] ++ ([g4] ++ (M)))))) w174.heap.size := (fun _ h => .inl (mr (h)))
      have f176 := f176.chg (Chg.refl [] _) o1 o2
      have hBg4 := hBg4.chg (Chg.refl [] _) (fun h => nomatch h)
      have hBg9 := hBg9.chg (Chg.refl [] _) (fun h => nomatch h)
      have hBg19 := hBg19.chg (Chg.refl [] _) (fun h => nomatch h)
      have hBg127 := hBg127.chg (Chg.refl [] _) (fun h => nomatch h)
      have hM : MS ([g127] ++ ([g19] ++ ([g9] ++ ([g4] ++ (M))))) w174 := (fun x h => hM.chg (Chg.refl [] _) x (mr (h)))
      have hC := hC.trans (Chg.refl [] _) (Ok.nil _ _)
      exact J136 _ _ ao176 cap176 (ha.sel (by kernel_rfl)) f176 hBg4 hBg9 hBg19 hBg127 hC hM
     ·have H := ite_f hc173 H
      refine wp_skip ?_
      obtain rfl := Option.some.inj H
      exact J136 _ _ ao124 cap124 (ha.sel (by kernel_rfl)) f124 hBg4 hBg9 hBg19 hBg127 hC hM
    have H := H172
    refine seg ha 1 [(2, .pointer (some ⟨g4, 0, none⟩)), (3, .pointer (some ⟨g9, 0, none⟩)), (5, .pointer (some ⟨g19, 0, none⟩)), (68, .pointer (some ⟨g19, 1, none⟩))] (by kernel_rfl) fun a ha => ?_
    refine ld (v := .int .i64 t16.1) ha rfl (by kernel_rfl) rfl rfl rfl (hBg19.cell' (o := 1) rfl (by kernel_rfl)) fun a ha => ?_
    refine seg ha 2 [(71, .bool (t16.1 == (2 : Int))), (2, .pointer (some ⟨g4, 0, none⟩)), (3, .pointer (some ⟨g9, 0, none⟩)), (5, .pointer (some ⟨g19, 0, none⟩))] (by kernel_rfl) fun a ha => ?_
    rcases Bool.eq_false_or_eq_true (t16.1 == (2 : Int)) with hb177 | hb177
    ·have ha := ha.lit hb177
     have H := ite_t hb177 H
     refine sgh ha 4 [1, 1, 1, 3] [(2, .pointer (some ⟨g4, 0, none⟩)), (3, .pointer (some ⟨g9, 0, none⟩)), (5, .pointer (some ⟨g19, 0, none⟩)), (75, .bool true)] (by kernel_rfl) fun a ha => ?_
     obtain rfl := Option.some.inj H
     have o1 : Ok [] ([g127] ++ (blkL ao123 ++ (blkL ao117 ++ ([g19] ++ ([g9] ++ ([g4] ++ (M))))))) w133.heap.size := Ok.nil _ _
     have o2 : Ok ([g127] ++ ([g19] ++ ([g9] ++ ([g4] ++ (M))))) ([g127] ++ (blkL ao123 ++ (blkL ao117 ++ ([g19] ++ ([g9] ++ ([g4] ++ (M))))))) w133.heap.size := (Ok.app (fun _ h => .inl (ml h)) (fun _ h => .inl (mr (mr (mr (h))))))
     have f124 := f124.chg (Chg.refl [] _) o1 o2
     have hBg4 := hBg4.chg (Chg.refl [] _) (fun h => nomatch h)
     have hBg9 := hBg9.chg (Chg.refl [] _) (fun h => nomatch h)
     have hBg19 := hBg19.chg (Chg.refl [] _) (fun h => nomatch h)
     have hBg127 := hBg127.chg (Chg.refl [] _) (fun h => nomatch h)
     have hM : MS ([g127] ++ ([g19] ++ ([g9] ++ ([g4] ++ (M))))) w133 := (MS.app (fun x h => hM.chg (Chg.refl [] _) x (ml h)) (fun x h => hM.chg (Chg.refl [] _) x (mr (mr (mr (h))))))
     have hC := hC.trans (Chg.refl [] _) (Ok.nil _ _)
     exact J172 _ _ (ha.sel (by kernel_rfl)) f124 hBg4 hBg9 hBg19 hBg127 hC hM
    ·have ha := ha.lit hb177
     have H := ite_f hb177 H
     refine sgh ha 1 [2] [(2, .pointer (some ⟨g4, 0, none⟩)), (3, .pointer (some ⟨g9, 0, none⟩)), (5, .pointer (some ⟨g19, 0, none⟩)), (71, .bool false), (72, .pointer (some ⟨g19, 1, none⟩))] (by kernel_rfl) fun a ha => ?_
     refine ld (v := .int .i64 t16.1) ha rfl (by kernel_rfl) rfl rfl rfl (hBg19.cell' (o := 1) rfl (by kernel_rfl)) fun a ha => ?_
     refine sgh ha 2 [2, 4] [(2, .pointer (some ⟨g4, 0, none⟩)), (3, .pointer (some ⟨g9, 0, none⟩)), (5, .pointer (some ⟨g19, 0, none⟩)), (75, .bool (t16.1 == (7 : Int)))] (by kernel_rfl) fun a ha => ?_
     obtain rfl := Option.some.inj H
     have o1 : Ok [] ([g127] ++ (blkL ao123 ++ (blkL ao117 ++ ([g19] ++ ([g9] ++ ([g4] ++ (M))))))) w133.heap.size := Ok.nil _ _
     have o2 : Ok ([g127] ++ ([g19] ++ ([g9] ++ ([g4] ++ (M))))) ([g127] ++ (blkL ao123 ++ (blkL ao117 ++ ([g19] ++ ([g9] ++ ([g4] ++ (M))))))) w133.heap.size := (Ok.app (fun _ h => .inl (ml h)) (fun _ h => .inl (mr (mr (mr (h))))))
     have f124 := f124.chg (Chg.refl [] _) o1 o2
     have hBg4 := hBg4.chg (Chg.refl [] _) (fun h => nomatch h)
     have hBg9 := hBg9.chg (Chg.refl [] _) (fun h => nomatch h)
     have hBg19 := hBg19.chg (Chg.refl [] _) (fun h => nomatch h)
     have hBg127 := hBg127.chg (Chg.refl [] _) (fun h => nomatch h)
     have hM : MS ([g127] ++ ([g19] ++ ([g9] ++ ([g4] ++ (M))))) w133 := (MS.app (fun x h => hM.chg (Chg.refl [] _) x (ml h)) (fun x h => hM.chg (Chg.refl [] _) x (mr (mr (mr (h))))))
     have hC := hC.trans (Chg.refl [] _) (Ok.nil _ _)
     exact J172 _ _ (ha.sel (by kernel_rfl)) f124 hBg4 hBg9 hBg19 hBg127 hC hM
   ·have H := ite_f hc114 H
    refine wp_seq_k fun K178 hK178 => ?_
    obtain ⟨s179, H179, H⟩ := bind_some H
    have J179 : ∀ (a : Act) (w179 : World), Has a Tryd.f52.ntmps [(2, .pointer (some ⟨g4, 0, none⟩)), (3, .pointer (some ⟨g9, 0, none⟩)), (5, .pointer (some ⟨g19, 0, none⟩)), (9, .int .i64 t33), (53, .bool s179)] → (RSl (rInt .u8) 5 w179 ([g19] ++ ([g9] ++ ([g4] ++ (M)))) ao27 cap27 t25.2.B) → (Box w179 g4 (cS_api_Tunnel (⟨false, (0 : Int), (0 : Int), (⟨(0 : Int), (List.replicate 16 (0 : Int))⟩ : S_api_Addr), ([] : List Int)⟩ : S_api_Tunnel) none 0)) → (Box w179 g9 (cS_vineryref01_Reader t25.2 ao27 cap27)) → (Box w179 g19 (cS_api_Tunnel (⟨t13.1 == (1 : Int), t16.1, t28.1, (⟨(0 : Int), (List.replicate 16 (0 : Int))⟩ : S_api_Addr), ([] : List Int)⟩ : S_api_Tunnel) none 0)) → (Chg [] w w179) → (MS ([g19] ++ ([g9] ++ ([g4] ++ (M)))) w179) → K178 a w179 := by
     intro a w179 ha f27 hBg4 hBg9 hBg19 hC hM
     refine hK178 _ _ ?_; try clear hK178 K178
     refine cnd ha rfl (fun hc180 => ?_) (fun hc180 => ?_)
     ·have H := ite_t hc180 H
      refine wp_region_lit ?_
      refine seg ha 3 [(2, .pointer (some ⟨g4, 0, none⟩)), (3, .pointer (some ⟨g9, 0, none⟩)), (5, .pointer (some ⟨g19, 0, none⟩)), (9, .int .i64 (IntKind.i64.wrap (Int.tdiv t33 (2 : Int))))] (by kernel_rfl) fun a ha => ?_
      refine hK34 _ _ ?_; try clear hK34 K34
      refine wp_seq_k fun K181 hK181 => ?_
      refine wp_region_lit ?_
      refine seg ha 2 [(2, .pointer (some ⟨g4, 0, none⟩)), (3, .pointer (some ⟨g9, 0, none⟩)), (5, .pointer (some ⟨g19, 0, none⟩)), (60, .pointer (some ⟨g9, 0, none⟩)), (61, .int .i64 (IntKind.i64.wrap (Int.tdiv t33 (2 : Int))))] (by kernel_rfl) fun a ha => ?_
      obtain ⟨t182, H182, H⟩ := bind_some H
      refine cl ha (by rfl) (by kernel_rfl) (by rfl) (by rfl) (by rfl) (vineryref01_Reader_Take.walk w179 _ hM g9 t25.2 ao27 cap27 f27 hBg9 (mr (ml (List.mem_singleton.2 rfl))) (IntKind.i64.wrap (Int.tdiv t33 (2 : Int))) _ H182) ?_
      rintro _ w182 ⟨ao183, cap183, ao184, cap184, rfl, f183, f184, qhBg9, ne_i183, hc182, hMn⟩ a ha
      have o1 : Ok [g9] ([g19] ++ ([g9] ++ ([g4] ++ (M)))) w179.heap.size := (fun _ h => .inl (mr (ml h)))
      have o2 : Ok (blkL ao183 ++ ([g19] ++ ([g9] ++ ([g4] ++ (M))))) ([g19] ++ ([g9] ++ ([g4] ++ (M)))) w179.heap.size := (Ok.app (fun x h => .inr (ne_i183 x h)) (Ok.refl _ _))
      have f27 := f27.chg hc182 o1 o2
      have hBg4 := hBg4.chg hc182 ((fun x (hx : x ∈ [g4]) (hy : x ∈ [g9]) => p_i10_i6 x hy hx) g4 (by simp))
      have hBg19 := hBg19.chg hc182 (p_i21_i10 g19 (by simp))
      have p_i183_i21 : ∀ x ∈ blkL ao183, x ∉ ([g19]) := fun x hx hy => absurd (hM x (ml hy)) (Nat.not_lt.2 (ne_i183 x hx))
      have p_i183_i10 : ∀ x ∈ blkL ao183, x ∉ ([g9]) := fun x hx hy => absurd (hM x (mr (ml hy))) (Nat.not_lt.2 (ne_i183 x hx))
      have p_i183_i6 : ∀ x ∈ blkL ao183, x ∉ ([g4]) := fun x hx hy => absurd (hM x (mr (mr (ml hy)))) (Nat.not_lt.2 (ne_i183 x hx))
      have p_i183_M : ∀ x ∈ blkL ao183, x ∉ M := fun x hx hy => absurd (hM x (mr (mr (mr (hy))))) (Nat.not_lt.2 (ne_i183 x hx))
      have e_i183 : ∀ x ∈ blkL ao183, w.heap.size ≤ x := fun x hx => Nat.le_trans hC.size (ne_i183 x hx)
      have hM : MS (blkL ao183 ++ ([g19] ++ ([g9] ++ ([g4] ++ (M))))) w182 := (MS.app (fun x h => hMn x (ml h)) (hM.chg hc182))
      have hC := hC.trans hc182 (fun x h => .inr (e_i10 x h))
      have hBg9 := qhBg9
      have hML : MS ([g19] ++ ([g9] ++ ([g4] ++ (M)))) w182 := MS.rest hM (fun _ h => (List.mem_append.1 h).elim (fun h => mr (ml h)) (fun h => (List.mem_append.1 h).elim (fun h => mr (mr (ml h))) (fun h => (List.mem_append.1 h).elim (fun h => mr (mr (mr (ml h)))) (fun h => mr (mr (mr (mr (h))))))))
      have oL : Ok ([g19] ++ ([g9] ++ ([g4] ++ (M)))) (blkL ao183 ++ ([g19] ++ ([g9] ++ ([g4] ++ (M))))) w182.heap.size := (fun _ h => .inl (mr (h)))
      obtain ⟨t185, H185, H⟩ := bind_some H
      refine cl ha (by rfl) (by kernel_rfl) (by rfl) (by rfl) (by rfl) (vineryref02_Of.walk w182 _ hML t182.1 ao183 cap183 (Own.toRSl (M' := [g19] ++ ([g9] ++ ([g4] ++ (M)))) f183 oL (fun x hx hm => (List.mem_append.1 hm).elim (fun h => p_i183_i21 x hx h) (fun h => (List.mem_append.1 h).elim (fun h => p_i183_i10 x hx h) (fun h => (List.mem_append.1 h).elim (fun h => p_i183_i6 x hx h) (fun h => p_i183_M x hx h))))) k _ H185) ?_
      rintro _ w185 ⟨rfl, hc185, hMn⟩ a ha
      have o1 : Ok [] (blkL ao183 ++ ([g19] ++ ([g9] ++ ([g4] ++ (M))))) w182.heap.size := Ok.nil _ _
      have o2 : Ok (blkL ao183 ++ ([g19] ++ ([g9] ++ ([g4] ++ (M))))) (blkL ao183 ++ ([g19] ++ ([g9] ++ ([g4] ++ (M))))) w182.heap.size := (Ok.refl _ _)
      have f183 := f183.chg hc185 o1 o2 (fun _ _ h => nomatch h) (fun _ h => ml h)
      have f184 := f184.chg hc185 o1 o2
      have hBg4 := hBg4.chg hc185 (fun h => nomatch h)
      have hBg9 := hBg9.chg hc185 (fun h => nomatch h)
      have hBg19 := hBg19.chg hc185 (fun h => nomatch h)
      have hM : MS (blkL ao183 ++ ([g19] ++ ([g9] ++ ([g4] ++ (M))))) w185 := (hM.chg hc185)
      have hC := hC.trans hc185 (Ok.nil _ _)
      refine seg ha 3 [(2, .pointer (some ⟨g4, 0, none⟩)), (3, .pointer (some ⟨g9, 0, none⟩)), (5, .pointer (some ⟨g19, 0, none⟩)), (64, .agg (cS_api_Addr t185.1).toArray), (65, .int .i64 t185.2)] (by kernel_rfl) fun a ha => ?_
      refine al (cs := (cS_api_Addr (⟨(0 : Int), (List.replicate 16 (0 : Int))⟩ : S_api_Addr))) (z := .agg (cS_api_Addr (⟨(0 : Int), (List.replicate 16 (0 : Int))⟩ : S_api_Addr)).toArray) ha (fun w => by kernel_rfl) rfl rfl rfl rfl fun a w186 g187 hN188 ha => ?_
      have o1 : Ok [] (blkL ao183 ++ ([g19] ++ ([g9] ++ ([g4] ++ (M))))) w185.heap.size := Ok.nil _ _
      have o2 : Ok ([g187] ++ (blkL ao183 ++ ([g19] ++ ([g9] ++ ([g4] ++ (M)))))) (blkL ao183 ++ ([g19] ++ ([g9] ++ ([g4] ++ (M))))) w185.heap.size := (Ok.app (hN188.ok _) (Ok.refl _ _))
      have f184 := f184.chg hN188.chg o1 o2
      have hBg4 := hBg4.chg hN188.chg (fun h => nomatch h)
      have hBg9 := hBg9.chg hN188.chg (fun h => nomatch h)
      have hBg19 := hBg19.chg hN188.chg (fun h => nomatch h)
      have p_i189_i183 : ∀ x ∈ [g187], x ∉ (blkL ao183) := fun x hx hy => absurd (hM x (ml hy)) (Nat.not_lt.2 ((hN188.ge1) x hx))
      have p_i189_i21 : ∀ x ∈ [g187], x ∉ ([g19]) := fun x hx hy => absurd (hM x (mr (ml hy))) (Nat.not_lt.2 ((hN188.ge1) x hx))
      have p_i189_i10 : ∀ x ∈ [g187], x ∉ ([g9]) := fun x hx hy => absurd (hM x (mr (mr (ml hy)))) (Nat.not_lt.2 ((hN188.ge1) x hx))
      have p_i189_i6 : ∀ x ∈ [g187], x ∉ ([g4]) := fun x hx hy => absurd (hM x (mr (mr (mr (ml hy))))) (Nat.not_lt.2 ((hN188.ge1) x hx))
      have p_i189_M : ∀ x ∈ [g187], x ∉ M := fun x hx hy => absurd (hM x (mr (mr (mr (mr (hy)))))) (Nat.not_lt.2 ((hN188.ge1) x hx))
      have e_i189 : ∀ x ∈ [g187], w.heap.size ≤ x := fun x hx => Nat.le_trans hC.size ((hN188.ge1) x hx)
      have hM : MS ([g187] ++ (blkL ao183 ++ ([g19] ++ ([g9] ++ ([g4] ++ (M)))))) w186 := (MS.app hN188.ms (hM.chg hN188.chg))
      have hC := hC.trans hN188.chg (Ok.nil _ _)
      have hBg187 : Box w186 g187 (cS_api_Addr (⟨(0 : Int), (List.replicate 16 (0 : Int))⟩ : S_api_Addr)) := hN188.box
      refine stA (l := (cS_api_Addr t185.1)) ha rfl rfl rfl (by kernel_rfl) rfl rfl hBg187 rfl fun a w190 ha hb2 hc191 _ => ?_
      have o1 : Ok [g187] ([g187] ++ (blkL ao183 ++ ([g19] ++ ([g9] ++ ([g4] ++ (M)))))) w186.heap.size := (fun _ h => .inl (ml h))
      have o2 : Ok ([g187] ++ (blkL ao183 ++ ([g19] ++ ([g9] ++ ([g4] ++ (M)))))) ([g187] ++ (blkL ao183 ++ ([g19] ++ ([g9] ++ ([g4] ++ (M)))))) w186.heap.size := (Ok.refl _ _)
      have f184 := f184.chg hc191 o1 o2
      have hBg4 := hBg4.chg hc191 ((fun x (hx : x ∈ [g4]) (hy : x ∈ [g187]) => p_i189_i6 x hy hx) g4 (by simp))
      have hBg9 := hBg9.chg hc191 ((fun x (hx : x ∈ [g9]) (hy : x ∈ [g187]) => p_i189_i10 x hy hx) g9 (by simp))
      have hBg19 := hBg19.chg hc191 ((fun x (hx : x ∈ [g19]) (hy : x ∈ [g187]) => p_i189_i21 x hy hx) g19 (by simp))
      have hM : MS ([g187] ++ (blkL ao183 ++ ([g19] ++ ([g9] ++ ([g4] ++ (M)))))) w190 := (hM.chg hc191)
      have hC := hC.trans hc191 (fun x h => .inr (e_i189 x h))
      have hBg187 : Box w190 g187 (cS_api_Addr t185.1) := hb2
      refine seg ha 1 [(2, .pointer (some ⟨g4, 0, none⟩)), (3, .pointer (some ⟨g9, 0, none⟩)), (5, .pointer (some ⟨g19, 0, none⟩)), (11, .pointer (some ⟨g187, 0, none⟩))] (by kernel_rfl) fun a ha => ?_
      refine hK181 _ _ ?_; try clear hK181 K181
      refine wp_seq_k fun K192 hK192 => ?_
      refine wp_region_lit ?_
      refine ldA (cs := (cS_api_Addr t185.1)) ha rfl (by kernel_rfl) rfl rfl rfl (cells_sub (Box.cells hBg187) (all := (cS_api_Addr t185.1)) [] [] (by kernel_rfl)) fun a ha => ?_
      refine seg ha 1 [(2, .pointer (some ⟨g4, 0, none⟩)), (3, .pointer (some ⟨g9, 0, none⟩)), (5, .pointer (some ⟨g19, 0, none⟩)), (66, .agg (cS_api_Addr t185.1).toArray), (67, .pointer (some ⟨g19, 3, none⟩))] (by kernel_rfl) fun a ha => ?_
      refine stA (l := (cS_api_Addr t185.1)) ha rfl rfl rfl (by kernel_rfl) rfl rfl hBg19 rfl fun a w193 ha hb2 hc194 _ => ?_
      have o1 : Ok [g19] ([g187] ++ (blkL ao183 ++ ([g19] ++ ([g9] ++ ([g4] ++ (M)))))) w190.heap.size := (fun _ h => .inl (mr (mr (ml h))))
      have o2 : Ok ([g187] ++ (blkL ao183 ++ ([g19] ++ ([g9] ++ ([g4] ++ (M)))))) ([g187] ++ (blkL ao183 ++ ([g19] ++ ([g9] ++ ([g4] ++ (M)))))) w190.heap.size := (Ok.refl _ _)
      have f184 := f184.chg hc194 o1 o2
      have hBg4 := hBg4.chg hc194 ((fun x (hx : x ∈ [g4]) (hy : x ∈ [g19]) => p_i21_i6 x hy hx) g4 (by simp))
      have hBg9 := hBg9.chg hc194 ((fun x (hx : x ∈ [g9]) (hy : x ∈ [g19]) => p_i21_i10 x hy hx) g9 (by simp))
      have hBg187 := hBg187.chg hc194 (p_i189_i21 g187 (by simp))
      have hM : MS ([g187] ++ (blkL ao183 ++ ([g19] ++ ([g9] ++ ([g4] ++ (M)))))) w193 := (hM.chg hc194)
      have hC := hC.trans hc194 (fun x h => .inr (e_i21 x h))
      have hBg19 : Box w193 g19 (cS_api_Tunnel (⟨t13.1 == (1 : Int), t16.1, t28.1, t185.1, ([] : List Int)⟩ : S_api_Tunnel) none 0) := hb2
      refine hK192 _ _ ?_; try clear hK192 K192
      refine wp_seq_k fun K195 hK195 => ?_
      obtain ⟨s196, H196, H⟩ := bind_some H
      have J196 : ∀ (a : Act) (w196 : World) (ao197 : Option Addr) (cap197 : Nat), Has a Tryd.f52.ntmps [(2, .pointer (some ⟨g4, 0, none⟩)), (3, .pointer (some ⟨g9, 0, none⟩)), (5, .pointer (some ⟨g19, 0, none⟩))] → (RSl (rInt .u8) 5 w196 ([g187] ++ ([g19] ++ ([g9] ++ ([g4] ++ (M))))) ao197 cap197 s196.1) → (Box w196 g4 (cS_api_Tunnel (⟨false, (0 : Int), (0 : Int), (⟨(0 : Int), (List.replicate 16 (0 : Int))⟩ : S_api_Addr), ([] : List Int)⟩ : S_api_Tunnel) none 0)) → (Box w196 g9 (cS_vineryref01_Reader (⟨s196.1, s196.2.1, s196.2.2⟩ : S_vineryref01_Reader) ao197 cap197)) → (Box w196 g19 (cS_api_Tunnel (⟨t13.1 == (1 : Int), t16.1, t28.1, t185.1, ([] : List Int)⟩ : S_api_Tunnel) none 0)) → (Box w196 g187 (cS_api_Addr t185.1)) → (Chg [] w w196) → (MS ([g187] ++ ([g19] ++ ([g9] ++ ([g4] ++ (M))))) w196) → K195 a w196 := by
       intro a w196 ao197 cap197 ha f197 hBg4 hBg9 hBg19 hBg187 hC hM
       refine hK195 _ _ ?_; try clear hK195 K195
       refine wp_seq_k fun K198 hK198 => ?_
       have z_f197 := f197
       have z_hBg4 := hBg4
       have z_hBg187 := hBg187
       have okS : Ok ([g9] ++ [g19]) ([g187] ++ ([g19] ++ ([g9] ++ ([g4] ++ (M))))) w196.heap.size := (Ok.app (fun _ h => .inl (mr (mr (ml h)))) (fun _ h => .inl (mr (ml h))))
       refine drw (fun w' => Chg ([g9] ++ [g19]) w196 w') (by kernel_rfl) fun w199 hc200 _ => ?_
       have hS : Chg ([g9] ++ [g19]) w196 w199 := (Chg.refl ([g9] ++ [g19]) _).trans hc200 (Ok.nil _ _)
       have o1 : Ok [] ([g187] ++ ([g19] ++ ([g9] ++ ([g4] ++ (M))))) w196.heap.size := Ok.nil _ _
       have o2 : Ok ([g187] ++ ([g19] ++ ([g9] ++ ([g4] ++ (M))))) ([g187] ++ ([g19] ++ ([g9] ++ ([g4] ++ (M))))) w196.heap.size := (Ok.refl _ _)
       have f197 := f197.chg hc200 o1 o2
       have hBg4 := hBg4.chg hc200 (fun h => nomatch h)
       have hBg9 := hBg9.chg hc200 (fun h => nomatch h)
       have hBg19 := hBg19.chg hc200 (fun h => nomatch h)
       have hBg187 := hBg187.chg hc200 (fun h => nomatch h)
       have hM : MS ([g187] ++ ([g19] ++ ([g9] ++ ([g4] ++ (M))))) w199 := (hM.chg hc200)
       have hC := hC.trans hc200 (Ok.nil _ _)
       obtain ⟨s201, H201, H⟩ := bind_some H
       have J201 : ∀ (a : Act) (w201 : World) (ao202 : Option Addr) (cap202 : Nat) (ao203 : Option Addr) (cap203 : Nat), Has a Tryd.f52.ntmps [(2, .pointer (some ⟨g4, 0, none⟩)), (5, .pointer (some ⟨g19, 0, none⟩))] → (RSl (rInt .u8) 5 w201 (blkL ao203 ++ ([g187] ++ ([g19] ++ ([g9] ++ ([g4] ++ (M)))))) ao202 cap202 s201.1) → (Own (rInt .u8) 5 w201 (blkL ao203 ++ ([g187] ++ ([g19] ++ ([g9] ++ ([g4] ++ (M)))))) ao203 cap203 s201.2.2.2) → (Box w201 g4 (cS_api_Tunnel (⟨false, (0 : Int), (0 : Int), (⟨(0 : Int), (List.replicate 16 (0 : Int))⟩ : S_api_Addr), ([] : List Int)⟩ : S_api_Tunnel) none 0)) → (Box w201 g9 (cS_vineryref01_Reader (⟨s201.1, s201.2.1, s201.2.2.1⟩ : S_vineryref01_Reader) ao202 cap202)) → (Box w201 g19 (cS_api_Tunnel (⟨t13.1 == (1 : Int), t16.1, t28.1, t185.1, s201.2.2.2⟩ : S_api_Tunnel) ao203 cap203)) → (Box w201 g187 (cS_api_Addr t185.1)) → (∀ x ∈ blkL ao203, w.heap.size ≤ x) → (∀ x ∈ blkL ao203, x ∉ [g187]) → (∀ x ∈ blkL ao203, x ∉ [g19]) → (∀ x ∈ blkL ao203, x ∉ [g9]) → (∀ x ∈ blkL ao203, x ∉ [g4]) → (∀ x ∈ blkL ao203, x ∉ M) → (Chg [] w w201) → (MS (blkL ao203 ++ ([g187] ++ ([g19] ++ ([g9] ++ ([g4] ++ (M)))))) w201) → K198 a w201 := by
        intro a w201 ao202 cap202 ao203 cap203 ha f202 f203 hBg4 hBg9 hBg19 hBg187 e_i203 p_i203_i189 p_i203_i21 p_i203_i10 p_i203_i6 p_i203_M hC hM
        refine hK198 _ _ ?_; try clear hK198 K198
        refine wp_seq_k fun K204 hK204 => ?_
        refine wp_region_lit ?_
        refine ldA (cs := (cS_api_Tunnel (⟨t13.1 == (1 : Int), t16.1, t28.1, t185.1, s201.2.2.2⟩ : S_api_Tunnel) ao203 cap203)) ha rfl (by kernel_rfl) rfl rfl rfl (cells_sub (Box.cells hBg19) (all := (cS_api_Tunnel (⟨t13.1 == (1 : Int), t16.1, t28.1, t185.1, s201.2.2.2⟩ : S_api_Tunnel) ao203 cap203)) [] [] (by kernel_rfl)) fun a ha => ?_
        refine stA (l := (cS_api_Tunnel (⟨t13.1 == (1 : Int), t16.1, t28.1, t185.1, s201.2.2.2⟩ : S_api_Tunnel) ao203 cap203)) ha rfl rfl rfl (by kernel_rfl) rfl rfl hBg4 rfl fun a w205 ha hb2 hc206 _ => ?_
        have o1 : Ok [g4] (blkL ao203 ++ ([g187] ++ ([g19] ++ ([g9] ++ ([g4] ++ (M)))))) w201.heap.size := (fun _ h => .inl (mr (mr (mr (mr (ml h))))))
        have o2 : Ok (blkL ao203 ++ ([g187] ++ ([g19] ++ ([g9] ++ ([g4] ++ (M)))))) (blkL ao203 ++ ([g187] ++ ([g19] ++ ([g9] ++ ([g4] ++ (M)))))) w201.heap.size := (Ok.refl _ _)
        have f203 := f203.chg hc206 o1 o2 p_i203_i6 (fun _ h => ml h)
        have f202 := f202.chg hc206 o1 o2
        have hBg9 := hBg9.chg hc206 (p_i10_i6 g9 (by simp))
        have hBg19 := hBg19.chg hc206 (p_i21_i6 g19 (by simp))
        have hBg187 := hBg187.chg hc206 (p_i189_i6 g187 (by simp))
        have hM : MS (blkL ao203 ++ ([g187] ++ ([g19] ++ ([g9] ++ ([g4] ++ (M)))))) w205 := (hM.chg hc206)
        have hC := hC.trans hc206 (fun x h => .inr (e_i6 x h))
        have hBg4 : Box w205 g4 (cS_api_Tunnel (⟨t13.1 == (1 : Int), t16.1, t28.1, t185.1, s201.2.2.2⟩ : S_api_Tunnel) ao203 cap203) := hb2
        refine hK204 _ _ ?_; try clear hK204 K204
        refine wp_ret ?_
        try simp only [Exit.then, Exit.inBlock]
        have o1 : Ok [] (blkL ao203 ++ ([g187] ++ ([g19] ++ ([g9] ++ ([g4] ++ (M)))))) w205.heap.size := Ok.nil _ _
        have o2 : Ok (blkL ao203 ++ (M)) (blkL ao203 ++ ([g187] ++ ([g19] ++ ([g9] ++ ([g4] ++ (M)))))) w205.heap.size := (Ok.app (fun _ h => .inl (ml h)) (fun _ h => .inl (mr (mr (mr (mr (mr (h))))))))
        have f203 := f203.chg (Chg.refl [] _) o1 o2 (fun _ _ h => nomatch h) (fun _ h => ml h)
        have f202 := f202.chg (Chg.refl [] _) o1 o2
        have hBg4 := hBg4.chg (Chg.refl [] _) (fun h => nomatch h)
        have hBg9 := hBg9.chg (Chg.refl [] _) (fun h => nomatch h)
        have hBg19 := hBg19.chg (Chg.refl [] _) (fun h => nomatch h)
        have hBg187 := hBg187.chg (Chg.refl [] _) (fun h => nomatch h)
        have hM : MS (blkL ao203 ++ (M)) w205 := (MS.app (fun x h => hM.chg (Chg.refl [] _) x (ml h)) (fun x h => hM.chg (Chg.refl [] _) x (mr (mr (mr (mr (mr (h))))))))
        have hC := hC.trans (Chg.refl [] _) (Ok.nil _ _)
        obtain rfl := Option.some.inj H
        refine rtr ha (res1 rfl (roA ha rfl hBg4 (by kernel_rfl))) ?_
        exact ⟨ao203, cap203, rfl, f203, e_i203, hC, hM⟩
       have H := H201
       refine tkpz 0 0 (.pointer (some ⟨g19, 20, none⟩)) ha (s := hS) (q := fun a ha => ?_)
       refine tkpz 2 0 (.pointer (some ⟨g9, 0, none⟩)) ha (s := hS) (q := fun a ha => ?_)
       refine acs [1, 3] (by kernel_rfl) (by simp) fun i hi => ?_
       simp only [List.mem_cons, List.not_mem_nil, or_false] at hi
       rcases hi with rfl | rfl
       ·refine ⟨_, rfl, fun K207 hK207 => ?_⟩
        refine ld (v := .slice none 0 0) ha rfl (by kernel_rfl) rfl rfl rfl (hBg19.cell' (o := 20) rfl (by kernel_rfl)) fun a ha => ?_
        refine ae hK207 hS ?_; clear hK207 K207
        refine ac 3 (by kernel_rfl) (by rfl) fun K208 hK208 => ?_
        obtain ⟨t209, H209, H⟩ := bind_some H
        refine cl ha (by rfl) (by kernel_rfl) (by rfl) (by rfl) (by rfl) (vineryref01_Reader_Rest.walk w199 _ hM g9 (⟨s196.1, s196.2.1, s196.2.2⟩ : S_vineryref01_Reader) ao197 cap197 f197 hBg9 (mr (mr (ml (List.mem_singleton.2 rfl)))) _ H209) ?_
        rintro _ w209 ⟨ao210, cap210, ao211, cap211, rfl, f210, f211, qhBg9, ne_iD000210, hc209, hMn⟩ a ha
        have o1 : Ok [g9] ([g187] ++ ([g19] ++ ([g9] ++ ([g4] ++ (M))))) w199.heap.size := (fun _ h => .inl (mr (mr (ml h))))
        have o2 : Ok (blkL ao210 ++ ([g187] ++ ([g19] ++ ([g9] ++ ([g4] ++ (M)))))) ([g187] ++ ([g19] ++ ([g9] ++ ([g4] ++ (M))))) w199.heap.size := (Ok.app (fun x h => .inr (ne_iD000210 x h)) (Ok.refl _ _))
        have f197 := f197.chg hc209 o1 o2
        have hBg4 := hBg4.chg hc209 ((fun x (hx : x ∈ [g4]) (hy : x ∈ [g9]) => p_i10_i6 x hy hx) g4 (by simp))
        have hBg19 := hBg19.chg hc209 (p_i21_i10 g19 (by simp))
        have hBg187 := hBg187.chg hc209 (p_i189_i10 g187 (by simp))
        have p_iD000210_i189 : ∀ x ∈ blkL ao210, x ∉ ([g187]) := fun x hx hy => absurd (hM x (ml hy)) (Nat.not_lt.2 (ne_iD000210 x hx))
        have p_iD000210_i21 : ∀ x ∈ blkL ao210, x ∉ ([g19]) := fun x hx hy => absurd (hM x (mr (ml hy))) (Nat.not_lt.2 (ne_iD000210 x hx))
        have p_iD000210_i10 : ∀ x ∈ blkL ao210, x ∉ ([g9]) := fun x hx hy => absurd (hM x (mr (mr (ml hy)))) (Nat.not_lt.2 (ne_iD000210 x hx))
        have p_iD000210_i6 : ∀ x ∈ blkL ao210, x ∉ ([g4]) := fun x hx hy => absurd (hM x (mr (mr (mr (ml hy))))) (Nat.not_lt.2 (ne_iD000210 x hx))
        have p_iD000210_M : ∀ x ∈ blkL ao210, x ∉ M := fun x hx hy => absurd (hM x (mr (mr (mr (mr (hy)))))) (Nat.not_lt.2 (ne_iD000210 x hx))
        have e_iD000210 : ∀ x ∈ blkL ao210, w.heap.size ≤ x := fun x hx => Nat.le_trans hC.size (ne_iD000210 x hx)
        have hM : MS (blkL ao210 ++ ([g187] ++ ([g19] ++ ([g9] ++ ([g4] ++ (M)))))) w209 := (MS.app (fun x h => hMn x (ml h)) (hM.chg hc209))
        have hC := hC.trans hc209 (fun x h => .inr (e_i10 x h))
        have d_iD000210 : Ok (blkL ao210) ([g9] ++ [g19]) w196.heap.size := fun x hx => .inr (Nat.le_trans hS.size (ne_iD000210 x hx))
        have hS := hS.trans hc209 (fun x h => .inl ((List.mem_append_left _ h)))
        have hBg9 := qhBg9
        refine ae hK208 hS ?_; clear hK208 K208
        refine ac 4 (by kernel_rfl) (by rfl) fun K212 hK212 => ?_
        obtain ⟨hx213, H⟩ := ite_some H
        refine app (r := (rInt .u8)) (xs := ([] : List Int)) (ys := t209.1) ha (ElemT.mk' (bytes := 1) (by kernel_rfl)) rfl rfl rfl rfl rfl Own.nil f210.src hx213 (by decide) fun a w214 ao215 cap215 hO215 hc215 hk215 hl215 ha => ?_
        have o1 : Ok [] (blkL ao210 ++ ([g187] ++ ([g19] ++ ([g9] ++ ([g4] ++ (M)))))) w209.heap.size := Ok.nil _ _
        have o2 : Ok (blkL ao215 ++ (blkL ao210 ++ ([g187] ++ ([g19] ++ ([g9] ++ ([g4] ++ (M))))))) (blkL ao210 ++ ([g187] ++ ([g19] ++ ([g9] ++ ([g4] ++ (M)))))) w209.heap.size := (Ok.app (Ok.to hk215 (fun _ h => nomatch h)) (Ok.refl _ _))
        have f210 := f210.chg hc215 o1 o2 (fun _ _ h => nomatch h) (fun _ h => mr (ml h))
        have f211 := f211.chg hc215 o1 o2
        have hBg4 := hBg4.chg hc215 (fun h => nomatch h)
        have hBg9 := hBg9.chg hc215 (fun h => nomatch h)
        have hBg19 := hBg19.chg hc215 (fun h => nomatch h)
        have hBg187 := hBg187.chg hc215 (fun h => nomatch h)
        have p_iD000215_iD000210 : ∀ x ∈ blkL ao215, x ∉ (blkL ao210) := fun x hx hy => absurd (hM x (ml hy)) (Nat.not_lt.2 ((fun x h => (hk215 x h).elim (fun h => nomatch h) id) x hx))
        have p_iD000215_i189 : ∀ x ∈ blkL ao215, x ∉ ([g187]) := fun x hx hy => absurd (hM x (mr (ml hy))) (Nat.not_lt.2 ((fun x h => (hk215 x h).elim (fun h => nomatch h) id) x hx))
        have p_iD000215_i21 : ∀ x ∈ blkL ao215, x ∉ ([g19]) := fun x hx hy => absurd (hM x (mr (mr (ml hy)))) (Nat.not_lt.2 ((fun x h => (hk215 x h).elim (fun h => nomatch h) id) x hx))
        have p_iD000215_i10 : ∀ x ∈ blkL ao215, x ∉ ([g9]) := fun x hx hy => absurd (hM x (mr (mr (mr (ml hy))))) (Nat.not_lt.2 ((fun x h => (hk215 x h).elim (fun h => nomatch h) id) x hx))
        have p_iD000215_i6 : ∀ x ∈ blkL ao215, x ∉ ([g4]) := fun x hx hy => absurd (hM x (mr (mr (mr (mr (ml hy)))))) (Nat.not_lt.2 ((fun x h => (hk215 x h).elim (fun h => nomatch h) id) x hx))
        have p_iD000215_M : ∀ x ∈ blkL ao215, x ∉ M := fun x hx hy => absurd (hM x (mr (mr (mr (mr (mr (hy))))))) (Nat.not_lt.2 ((fun x h => (hk215 x h).elim (fun h => nomatch h) id) x hx))
        have e_iD000215 : ∀ x ∈ blkL ao215, w.heap.size ≤ x := fun x hx => Nat.le_trans hC.size ((fun x h => (hk215 x h).elim (fun h => nomatch h) id) x hx)
        have hM : MS (blkL ao215 ++ (blkL ao210 ++ ([g187] ++ ([g19] ++ ([g9] ++ ([g4] ++ (M))))))) w214 := (MS.app hl215 (hM.chg hc215))
        have hC := hC.trans hc215 (Ok.nil _ _)
        have d_iD000215 : Ok (blkL ao215) ([g9] ++ [g19]) w196.heap.size := fun x hx => .inr (Nat.le_trans hS.size ((fun x h => (hk215 x h).elim (fun h => nomatch h) id) x hx))
        have hS := hS.trans hc215 (Ok.nil _ _)
        have f215 := hO215.chg (M' := blkL ao215 ++ (blkL ao210 ++ ([g187] ++ ([g19] ++ ([g9] ++ ([g4] ++ (M))))))) (Chg.refl [] _) (Ok.nil _ _) (Ok.app (fun _ h => .inl (ml h)) (Ok.to (Ok.refl _ _) (fun _ h => mr h))) (fun _ _ h => nomatch h) (fun _ h => ml h)
        refine ae hK212 hS ?_; clear hK212 K212
        refine tkpz 5 0 (.pointer (some ⟨g19, 20, none⟩)) ha (s := hS) (q := fun a ha => ?_)
        refine ac 6 (by kernel_rfl) (by rfl) fun K216 hK216 => ?_
        refine st ha rfl rfl rfl (by kernel_rfl) rfl rfl hBg19 (Nat.le_of_ble_eq_true (by kernel_rfl)) fun a w217 ha hb2 hc218 _ => ?_
        have o1 : Ok [g19] (blkL ao215 ++ (blkL ao210 ++ ([g187] ++ ([g19] ++ ([g9] ++ ([g4] ++ (M))))))) w214.heap.size := (fun _ h => .inl (mr (mr (mr (ml h)))))
        have o2 : Ok (blkL ao215 ++ (blkL ao210 ++ ([g187] ++ ([g19] ++ ([g9] ++ ([g4] ++ (M))))))) (blkL ao215 ++ (blkL ao210 ++ ([g187] ++ ([g19] ++ ([g9] ++ ([g4] ++ (M))))))) w214.heap.size := (Ok.refl _ _)
        have f210 := f210.chg hc218 o1 o2 p_iD000210_i21 (fun _ h => mr (ml h))
        have f215 := f215.chg hc218 o1 o2 p_iD000215_i21 (fun _ h => ml h)
        have f211 := f211.chg hc218 o1 o2
        have hBg4 := hBg4.chg hc218 ((fun x (hx : x ∈ [g4]) (hy : x ∈ [g19]) => p_i21_i6 x hy hx) g4 (by simp))
        have hBg9 := hBg9.chg hc218 ((fun x (hx : x ∈ [g9]) (hy : x ∈ [g19]) => p_i21_i10 x hy hx) g9 (by simp))
        have hBg187 := hBg187.chg hc218 (p_i189_i21 g187 (by simp))
        have hM : MS (blkL ao215 ++ (blkL ao210 ++ ([g187] ++ ([g19] ++ ([g9] ++ ([g4] ++ (M))))))) w217 := (hM.chg hc218)
        have hC := hC.trans hc218 (fun x h => .inr (e_i21 x h))
        have hS := hS.trans hc218 (fun x h => .inl ((List.mem_append_right _ h)))
        have hBg19 : Box w217 g19 (cS_api_Tunnel (⟨t13.1 == (1 : Int), t16.1, t28.1, t185.1, (([] : List Int) ++ t209.1)⟩ : S_api_Tunnel) ao215 cap215) := hb2
        refine ae hK216 hS ?_; clear hK216 K216
        refine dn (by kernel_rfl) ?_
        obtain rfl := Option.some.inj H
        have o1 : Ok [] (blkL ao215 ++ (blkL ao210 ++ ([g187] ++ ([g19] ++ ([g9] ++ ([g4] ++ (M))))))) w217.heap.size := Ok.nil _ _
        have o2 : Ok (blkL ao215 ++ ([g187] ++ ([g19] ++ ([g9] ++ ([g4] ++ (M)))))) (blkL ao215 ++ (blkL ao210 ++ ([g187] ++ ([g19] ++ ([g9] ++ ([g4] ++ (M))))))) w217.heap.size := (Ok.app (fun _ h => .inl (ml h)) (fun _ h => .inl (mr (mr (h)))))
        have f211 := f211.chg (Chg.refl [] _) o1 o2
        have f215 := f215.chg (Chg.refl [] _) o1 o2 (fun _ _ h => nomatch h) (fun _ h => ml h)
        have hBg4 := hBg4.chg (Chg.refl [] _) (fun h => nomatch h)
        have hBg9 := hBg9.chg (Chg.refl [] _) (fun h => nomatch h)
        have hBg19 := hBg19.chg (Chg.refl [] _) (fun h => nomatch h)
        have hBg187 := hBg187.chg (Chg.refl [] _) (fun h => nomatch h)
        have hM : MS (blkL ao215 ++ ([g187] ++ ([g19] ++ ([g9] ++ ([g4] ++ (M)))))) w217 := (MS.app (fun x h => hM.chg (Chg.refl [] _) x (ml h)) (fun x h => hM.chg (Chg.refl [] _) x (mr (mr (h)))))
        have hC := hC.trans (Chg.refl [] _) (Ok.nil _ _)
        exact J201 _ _ ao211 cap211 ao215 cap215 (ha.sel (by kernel_rfl)) f211 f215 hBg4 hBg9 hBg19 hBg187 e_iD000215 p_iD000215_i189 p_iD000215_i21 p_iD000215_i10 p_iD000215_i6 p_iD000215_M hC hM
       ·refine ⟨_, rfl, fun K219 hK219 => ?_⟩
        obtain ⟨t220, H220, H⟩ := bind_some H
        refine cl ha (by rfl) (by kernel_rfl) (by rfl) (by rfl) (by rfl) (vineryref01_Reader_Rest.walk w199 _ hM g9 (⟨s196.1, s196.2.1, s196.2.2⟩ : S_vineryref01_Reader) ao197 cap197 f197 hBg9 (mr (mr (ml (List.mem_singleton.2 rfl)))) _ H220) ?_
        rintro _ w220 ⟨ao221, cap221, ao222, cap222, rfl, f221, f222, qhBg9, ne_iD000221, hc220, hMn⟩ a ha
        have o1 : Ok [g9] ([g187] ++ ([g19] ++ ([g9] ++ ([g4] ++ (M))))) w199.heap.size := (fun _ h => .inl (mr (mr (ml h))))
        have o2 : Ok (blkL ao221 ++ ([g187] ++ ([g19] ++ ([g9] ++ ([g4] ++ (M)))))) ([g187] ++ ([g19] ++ ([g9] ++ ([g4] ++ (M))))) w199.heap.size := (Ok.app (fun x h => .inr (ne_iD000221 x h)) (Ok.refl _ _))
        have f197 := f197.chg hc220 o1 o2
        have hBg4 := hBg4.chg hc220 ((fun x (hx : x ∈ [g4]) (hy : x ∈ [g9]) => p_i10_i6 x hy hx) g4 (by simp))
        have hBg19 := hBg19.chg hc220 (p_i21_i10 g19 (by simp))
        have hBg187 := hBg187.chg hc220 (p_i189_i10 g187 (by simp))
        have p_iD000221_i189 : ∀ x ∈ blkL ao221, x ∉ ([g187]) := fun x hx hy => absurd (hM x (ml hy)) (Nat.not_lt.2 (ne_iD000221 x hx))
        have p_iD000221_i21 : ∀ x ∈ blkL ao221, x ∉ ([g19]) := fun x hx hy => absurd (hM x (mr (ml hy))) (Nat.not_lt.2 (ne_iD000221 x hx))
        have p_iD000221_i10 : ∀ x ∈ blkL ao221, x ∉ ([g9]) := fun x hx hy => absurd (hM x (mr (mr (ml hy)))) (Nat.not_lt.2 (ne_iD000221 x hx))
        have p_iD000221_i6 : ∀ x ∈ blkL ao221, x ∉ ([g4]) := fun x hx hy => absurd (hM x (mr (mr (mr (ml hy))))) (Nat.not_lt.2 (ne_iD000221 x hx))
        have p_iD000221_M : ∀ x ∈ blkL ao221, x ∉ M := fun x hx hy => absurd (hM x (mr (mr (mr (mr (hy)))))) (Nat.not_lt.2 (ne_iD000221 x hx))
        have e_iD000221 : ∀ x ∈ blkL ao221, w.heap.size ≤ x := fun x hx => Nat.le_trans hC.size (ne_iD000221 x hx)
        have hM : MS (blkL ao221 ++ ([g187] ++ ([g19] ++ ([g9] ++ ([g4] ++ (M)))))) w220 := (MS.app (fun x h => hMn x (ml h)) (hM.chg hc220))
        have hC := hC.trans hc220 (fun x h => .inr (e_i10 x h))
        have d_iD000221 : Ok (blkL ao221) ([g9] ++ [g19]) w196.heap.size := fun x hx => .inr (Nat.le_trans hS.size (ne_iD000221 x hx))
        have hS := hS.trans hc220 (fun x h => .inl ((List.mem_append_left _ h)))
        have hBg9 := qhBg9
        refine ae hK219 hS ?_; clear hK219 K219
        refine ac 1 (by kernel_rfl) (by rfl) fun K223 hK223 => ?_
        refine ld (v := .slice none 0 0) ha rfl (by kernel_rfl) rfl rfl rfl (hBg19.cell' (o := 20) rfl (by kernel_rfl)) fun a ha => ?_
        refine ae hK223 hS ?_; clear hK223 K223
        refine ac 4 (by kernel_rfl) (by rfl) fun K224 hK224 => ?_
        obtain ⟨hx225, H⟩ := ite_some H
        refine app (r := (rInt .u8)) (xs := ([] : List Int)) (ys := t220.1) ha (ElemT.mk' (bytes := 1) (by kernel_rfl)) rfl rfl rfl rfl rfl Own.nil f221.src hx225 (by decide) fun a w226 ao227 cap227 hO227 hc227 hk227 hl227 ha => ?_
        have o1 : Ok [] (blkL ao221 ++ ([g187] ++ ([g19] ++ ([g9] ++ ([g4] ++ (M)))))) w220.heap.size := Ok.nil _ _
        have o2 : Ok (blkL ao227 ++ (blkL ao221 ++ ([g187] ++ ([g19] ++ ([g9] ++ ([g4] ++ (M))))))) (blkL ao221 ++ ([g187] ++ ([g19] ++ ([g9] ++ ([g4] ++ (M)))))) w220.heap.size := (Ok.app (Ok.to hk227 (fun _ h => nomatch h)) (Ok.refl _ _))
        have f221 := f221.chg hc227 o1 o2 (fun _ _ h => nomatch h) (fun _ h => mr (ml h))
        have f222 := f222.chg hc227 o1 o2
        have hBg4 := hBg4.chg hc227 (fun h => nomatch h)
        have hBg9 := hBg9.chg hc227 (fun h => nomatch h)
        have hBg19 := hBg19.chg hc227 (fun h => nomatch h)
        have hBg187 := hBg187.chg hc227 (fun h => nomatch h)
        have p_iD000227_iD000221 : ∀ x ∈ blkL ao227, x ∉ (blkL ao221) := fun x hx hy => absurd (hM x (ml hy)) (Nat.not_lt.2 ((fun x h => (hk227 x h).elim (fun h => nomatch h) id) x hx))
        have p_iD000227_i189 : ∀ x ∈ blkL ao227, x ∉ ([g187]) := fun x hx hy => absurd (hM x (mr (ml hy))) (Nat.not_lt.2 ((fun x h => (hk227 x h).elim (fun h => nomatch h) id) x hx))
        have p_iD000227_i21 : ∀ x ∈ blkL ao227, x ∉ ([g19]) := fun x hx hy => absurd (hM x (mr (mr (ml hy)))) (Nat.not_lt.2 ((fun x h => (hk227 x h).elim (fun h => nomatch h) id) x hx))
        have p_iD000227_i10 : ∀ x ∈ blkL ao227, x ∉ ([g9]) := fun x hx hy => absurd (hM x (mr (mr (mr (ml hy))))) (Nat.not_lt.2 ((fun x h => (hk227 x h).elim (fun h => nomatch h) id) x hx))
        have p_iD000227_i6 : ∀ x ∈ blkL ao227, x ∉ ([g4]) := fun x hx hy => absurd (hM x (mr (mr (mr (mr (ml hy)))))) (Nat.not_lt.2 ((fun x h => (hk227 x h).elim (fun h => nomatch h) id) x hx))
        have p_iD000227_M : ∀ x ∈ blkL ao227, x ∉ M := fun x hx hy => absurd (hM x (mr (mr (mr (mr (mr (hy))))))) (Nat.not_lt.2 ((fun x h => (hk227 x h).elim (fun h => nomatch h) id) x hx))
        have e_iD000227 : ∀ x ∈ blkL ao227, w.heap.size ≤ x := fun x hx => Nat.le_trans hC.size ((fun x h => (hk227 x h).elim (fun h => nomatch h) id) x hx)
        have hM : MS (blkL ao227 ++ (blkL ao221 ++ ([g187] ++ ([g19] ++ ([g9] ++ ([g4] ++ (M))))))) w226 := (MS.app hl227 (hM.chg hc227))
        have hC := hC.trans hc227 (Ok.nil _ _)
        have d_iD000227 : Ok (blkL ao227) ([g9] ++ [g19]) w196.heap.size := fun x hx => .inr (Nat.le_trans hS.size ((fun x h => (hk227 x h).elim (fun h => nomatch h) id) x hx))
        have hS := hS.trans hc227 (Ok.nil _ _)
        have f227 := hO227.chg (M' := blkL ao227 ++ (blkL ao221 ++ ([g187] ++ ([g19] ++ ([g9] ++ ([g4] ++ (M))))))) (Chg.refl [] _) (Ok.nil _ _) (Ok.app (fun _ h => .inl (ml h)) (Ok.to (Ok.refl _ _) (fun _ h => mr h))) (fun _ _ h => nomatch h) (fun _ h => ml h)
        refine ae hK224 hS ?_; clear hK224 K224
        refine tkpz 5 0 (.pointer (some ⟨g19, 20, none⟩)) ha (s := hS) (q := fun a ha => ?_)
        refine ac 6 (by kernel_rfl) (by rfl) fun K228 hK228 => ?_
        refine st ha rfl rfl rfl (by kernel_rfl) rfl rfl hBg19 (Nat.le_of_ble_eq_true (by kernel_rfl)) fun a w229 ha hb2 hc230 _ => ?_
        have o1 : Ok [g19] (blkL ao227 ++ (blkL ao221 ++ ([g187] ++ ([g19] ++ ([g9] ++ ([g4] ++ (M))))))) w226.heap.size := (fun _ h => .inl (mr (mr (mr (ml h)))))
        have o2 : Ok (blkL ao227 ++ (blkL ao221 ++ ([g187] ++ ([g19] ++ ([g9] ++ ([g4] ++ (M))))))) (blkL ao227 ++ (blkL ao221 ++ ([g187] ++ ([g19] ++ ([g9] ++ ([g4] ++ (M))))))) w226.heap.size := (Ok.refl _ _)
        have f221 := f221.chg hc230 o1 o2 p_iD000221_i21 (fun _ h => mr (ml h))
        have f227 := f227.chg hc230 o1 o2 p_iD000227_i21 (fun _ h => ml h)
        have f222 := f222.chg hc230 o1 o2
        have hBg4 := hBg4.chg hc230 ((fun x (hx : x ∈ [g4]) (hy : x ∈ [g19]) => p_i21_i6 x hy hx) g4 (by simp))
        have hBg9 := hBg9.chg hc230 ((fun x (hx : x ∈ [g9]) (hy : x ∈ [g19]) => p_i21_i10 x hy hx) g9 (by simp))
        have hBg187 := hBg187.chg hc230 (p_i189_i21 g187 (by simp))
        have hM : MS (blkL ao227 ++ (blkL ao221 ++ ([g187] ++ ([g19] ++ ([g9] ++ ([g4] ++ (M))))))) w229 := (hM.chg hc230)
        have hC := hC.trans hc230 (fun x h => .inr (e_i21 x h))
        have hS := hS.trans hc230 (fun x h => .inl ((List.mem_append_right _ h)))
        have hBg19 : Box w229 g19 (cS_api_Tunnel (⟨t13.1 == (1 : Int), t16.1, t28.1, t185.1, (([] : List Int) ++ t220.1)⟩ : S_api_Tunnel) ao227 cap227) := hb2
        refine ae hK228 hS ?_; clear hK228 K228
        refine dn (by kernel_rfl) ?_
        obtain rfl := Option.some.inj H
        have o1 : Ok [] (blkL ao227 ++ (blkL ao221 ++ ([g187] ++ ([g19] ++ ([g9] ++ ([g4] ++ (M))))))) w229.heap.size := Ok.nil _ _
        have o2 : Ok (blkL ao227 ++ ([g187] ++ ([g19] ++ ([g9] ++ ([g4] ++ (M)))))) (blkL ao227 ++ (blkL ao221 ++ ([g187] ++ ([g19] ++ ([g9] ++ ([g4] ++ (M))))))) w229.heap.size := (Ok.app (fun _ h => .inl (ml h)) (fun _ h => .inl (mr (mr (h)))))
        have f222 := f222.chg (Chg.refl [] _) o1 o2
        have f227 := f227.chg (Chg.refl [] _) o1 o2 (fun _ _ h => nomatch h) (fun _ h => ml h)
        have hBg4 := hBg4.chg (Chg.refl [] _) (fun h => nomatch h)
        have hBg9 := hBg9.chg (Chg.refl [] _) (fun h => nomatch h)
        have hBg19 := hBg19.chg (Chg.refl [] _) (fun h => nomatch h)
        have hBg187 := hBg187.chg (Chg.refl [] _) (fun h => nomatch h)
        have hM : MS (blkL ao227 ++ ([g187] ++ ([g19] ++ ([g9] ++ ([g4] ++ (M)))))) w229 := (MS.app (fun x h => hM.chg (Chg.refl [] _) x (ml h)) (fun x h => hM.chg (Chg.refl [] _) x (mr (mr (h)))))
        have hC := hC.trans (Chg.refl [] _) (Ok.nil _ _)
        exact J201 _ _ ao222 cap222 ao227 cap227 (ha.sel (by kernel_rfl)) f222 f227 hBg4 hBg9 hBg19 hBg187 e_iD000227 p_iD000227_i189 p_iD000227_i21 p_iD000227_i10 p_iD000227_i6 p_iD000227_M hC hM
      have H := H196
      refine wp_seq_k fun K231 hK231 => ?_
      refine wp_region_lit ?_
      obtain ⟨s232, H232, H⟩ := bind_some H
      have J232 : ∀ (a : Act) (w232 : World), Has a Tryd.f52.ntmps [(2, .pointer (some ⟨g4, 0, none⟩)), (3, .pointer (some ⟨g9, 0, none⟩)), (5, .pointer (some ⟨g19, 0, none⟩)), (75, .bool s232)] → (RSl (rInt .u8) 5 w232 ([g187] ++ ([g19] ++ ([g9] ++ ([g4] ++ (M))))) ao184 cap184 t182.2.B) → (Box w232 g4 (cS_api_Tunnel (⟨false, (0 : Int), (0 : Int), (⟨(0 : Int), (List.replicate 16 (0 : Int))⟩ : S_api_Addr), ([] : List Int)⟩ : S_api_Tunnel) none 0)) → (Box w232 g9 (cS_vineryref01_Reader t182.2 ao184 cap184)) → (Box w232 g19 (cS_api_Tunnel (⟨t13.1 == (1 : Int), t16.1, t28.1, t185.1, ([] : List Int)⟩ : S_api_Tunnel) none 0)) → (Box w232 g187 (cS_api_Addr t185.1)) → (Chg [] w w232) → (MS ([g187] ++ ([g19] ++ ([g9] ++ ([g4] ++ (M))))) w232) → K231 a w232 := by
       intro a w232 ha f184 hBg4 hBg9 hBg19 hBg187 hC hM
       refine hK231 _ _ ?_; try clear hK231 K231
       refine cnd ha rfl (fun hc233 => ?_) (fun hc233 => ?_)
       ·have H := ite_t hc233 H
        refine wp_region_lit ?_
        refine seg ha 1 [(2, .pointer (some ⟨g4, 0, none⟩)), (3, .pointer (some ⟨g9, 0, none⟩)), (5, .pointer (some ⟨g19, 0, none⟩)), (76, .pointer (some ⟨g9, 0, none⟩))] (by kernel_rfl) fun a ha => ?_
        obtain ⟨t234, H234, H⟩ := bind_some H
        refine cl ha (by rfl) (by kernel_rfl) (by rfl) (by rfl) (by rfl) (vineryref01_Reader_Take.walk w232 _ hM g9 t182.2 ao184 cap184 f184 hBg9 (mr (mr (ml (List.mem_singleton.2 rfl)))) (2 : Int) _ H234) ?_
        rintro _ w234 ⟨ao235, cap235, ao236, cap236, rfl, f235, f236, qhBg9, ne_i235, hc234, hMn⟩ a ha
        have o1 : Ok [g9] ([g187] ++ ([g19] ++ ([g9] ++ ([g4] ++ (M))))) w232.heap.size := (fun _ h => .inl (mr (mr (ml h))))
        have o2 : Ok (blkL ao235 ++ ([g187] ++ ([g19] ++ ([g9] ++ ([g4] ++ (M)))))) ([g187] ++ ([g19] ++ ([g9] ++ ([g4] ++ (M))))) w232.heap.size := (Ok.app (fun x h => .inr (ne_i235 x h)) (Ok.refl _ _))
        have f184 := f184.chg hc234 o1 o2
        have hBg4 := hBg4.chg hc234 ((fun x (hx : x ∈ [g4]) (hy : x ∈ [g9]) => p_i10_i6 x hy hx) g4 (by simp))
        have hBg19 := hBg19.chg hc234 (p_i21_i10 g19 (by simp))
        have hBg187 := hBg187.chg hc234 (p_i189_i10 g187 (by simp))
        have p_i235_i189 : ∀ x ∈ blkL ao235, x ∉ ([g187]) := fun x hx hy => absurd (hM x (ml hy)) (Nat.not_lt.2 (ne_i235 x hx))
        have p_i235_i21 : ∀ x ∈ blkL ao235, x ∉ ([g19]) := fun x hx hy => absurd (hM x (mr (ml hy))) (Nat.not_lt.2 (ne_i235 x hx))
        have p_i235_i10 : ∀ x ∈ blkL ao235, x ∉ ([g9]) := fun x hx hy => absurd (hM x (mr (mr (ml hy)))) (Nat.not_lt.2 (ne_i235 x hx))
        have p_i235_i6 : ∀ x ∈ blkL ao235, x ∉ ([g4]) := fun x hx hy => absurd (hM x (mr (mr (mr (ml hy))))) (Nat.not_lt.2 (ne_i235 x hx))
        have p_i235_M : ∀ x ∈ blkL ao235, x ∉ M := fun x hx hy => absurd (hM x (mr (mr (mr (mr (hy)))))) (Nat.not_lt.2 (ne_i235 x hx))
        have e_i235 : ∀ x ∈ blkL ao235, w.heap.size ≤ x := fun x hx => Nat.le_trans hC.size (ne_i235 x hx)
        have hM : MS (blkL ao235 ++ ([g187] ++ ([g19] ++ ([g9] ++ ([g4] ++ (M)))))) w234 := (MS.app (fun x h => hMn x (ml h)) (hM.chg hc234))
        have hC := hC.trans hc234 (fun x h => .inr (e_i10 x h))
        have hBg9 := qhBg9
        obtain rfl := Option.some.inj H
        have o1 : Ok [] (blkL ao235 ++ ([g187] ++ ([g19] ++ ([g9] ++ ([g4] ++ (M)))))) w234.heap.size := Ok.nil _ _
        have o2 : Ok ([g187] ++ ([g19] ++ ([g9] ++ ([g4] ++ (M))))) (blkL ao235 ++ ([g187] ++ ([g19] ++ ([g9] ++ ([g4] ++ (M)))))) w234.heap.size := (fun _ h => .inl (mr (h)))
        have f236 := f236.chg (Chg.refl [] _) o1 o2
        have hBg4 := hBg4.chg (Chg.refl [] _) (fun h => nomatch h)
        have hBg9 := hBg9.chg (Chg.refl [] _) (fun h => nomatch h)
        have hBg19 := hBg19.chg (Chg.refl [] _) (fun h => nomatch h)
        have hBg187 := hBg187.chg (Chg.refl [] _) (fun h => nomatch h)
        have hM : MS ([g187] ++ ([g19] ++ ([g9] ++ ([g4] ++ (M))))) w234 := (fun x h => hM.chg (Chg.refl [] _) x (mr (h)))
        have hC := hC.trans (Chg.refl [] _) (Ok.nil _ _)
        exact J196 _ _ ao236 cap236 (ha.sel (by kernel_rfl)) f236 hBg4 hBg9 hBg19 hBg187 hC hM
       ·have H := ite_f hc233 H
        refine wp_skip ?_
        obtain rfl := Option.some.inj H
        exact J196 _ _ ao184 cap184 (ha.sel (by kernel_rfl)) f184 hBg4 hBg9 hBg19 hBg187 hC hM
      have H := H232
      refine seg ha 1 [(2, .pointer (some ⟨g4, 0, none⟩)), (3, .pointer (some ⟨g9, 0, none⟩)), (5, .pointer (some ⟨g19, 0, none⟩)), (68, .pointer (some ⟨g19, 1, none⟩))] (by kernel_rfl) fun a ha => ?_
      refine ld (v := .int .i64 t16.1) ha rfl (by kernel_rfl) rfl rfl rfl (hBg19.cell' (o := 1) rfl (by kernel_rfl)) fun a ha => ?_
      refine seg ha 2 [(71, .bool (t16.1 == (2 : Int))), (2, .pointer (some ⟨g4, 0, none⟩)), (3, .pointer (some ⟨g9, 0, none⟩)), (5, .pointer (some ⟨g19, 0, none⟩))] (by kernel_rfl) fun a ha => ?_
      rcases Bool.eq_false_or_eq_true (t16.1 == (2 : Int)) with hb237 | hb237
      ·have ha := ha.lit hb237
       have H := ite_t hb237 H
       refine sgh ha 4 [1, 1, 1, 3] [(2, .pointer (some ⟨g4, 0, none⟩)), (3, .pointer (some ⟨g9, 0, none⟩)), (5, .pointer (some ⟨g19, 0, none⟩)), (75, .bool true)] (by kernel_rfl) fun a ha => ?_
       obtain rfl := Option.some.inj H
       have o1 : Ok [] ([g187] ++ (blkL ao183 ++ ([g19] ++ ([g9] ++ ([g4] ++ (M)))))) w193.heap.size := Ok.nil _ _
       have o2 : Ok ([g187] ++ ([g19] ++ ([g9] ++ ([g4] ++ (M))))) ([g187] ++ (blkL ao183 ++ ([g19] ++ ([g9] ++ ([g4] ++ (M)))))) w193.heap.size := (Ok.app (fun _ h => .inl (ml h)) (fun _ h => .inl (mr (mr (h)))))
       have f184 := f184.chg (Chg.refl [] _) o1 o2
       have hBg4 := hBg4.chg (Chg.refl [] _) (fun h => nomatch h)
       have hBg9 := hBg9.chg (Chg.refl [] _) (fun h => nomatch h)
       have hBg19 := hBg19.chg (Chg.refl [] _) (fun h => nomatch h)
       have hBg187 := hBg187.chg (Chg.refl [] _) (fun h => nomatch h)
       have hM : MS ([g187] ++ ([g19] ++ ([g9] ++ ([g4] ++ (M))))) w193 := (MS.app (fun x h => hM.chg (Chg.refl [] _) x (ml h)) (fun x h => hM.chg (Chg.refl [] _) x (mr (mr (h)))))
       have hC := hC.trans (Chg.refl [] _) (Ok.nil _ _)
       exact J232 _ _ (ha.sel (by kernel_rfl)) f184 hBg4 hBg9 hBg19 hBg187 hC hM
      ·have ha := ha.lit hb237
       have H := ite_f hb237 H
       refine sgh ha 1 [2] [(2, .pointer (some ⟨g4, 0, none⟩)), (3, .pointer (some ⟨g9, 0, none⟩)), (5, .pointer (some ⟨g19, 0, none⟩)), (71, .bool false), (72, .pointer (some ⟨g19, 1, none⟩))] (by kernel_rfl) fun a ha => ?_
       refine ld (v := .int .i64 t16.1) ha rfl (by kernel_rfl) rfl rfl rfl (hBg19.cell' (o := 1) rfl (by kernel_rfl)) fun a ha => ?_
       refine sgh ha 2 [2, 4] [(2, .pointer (some ⟨g4, 0, none⟩)), (3, .pointer (some ⟨g9, 0, none⟩)), (5, .pointer (some ⟨g19, 0, none⟩)), (75, .bool (t16.1 == (7 : Int)))] (by kernel_rfl) fun a ha => ?_
       obtain rfl := Option.some.inj H
       have o1 : Ok [] ([g187] ++ (blkL ao183 ++ ([g19] ++ ([g9] ++ ([g4] ++ (M)))))) w193.heap.size := Ok.nil _ _
       have o2 : Ok ([g187] ++ ([g19] ++ ([g9] ++ ([g4] ++ (M))))) ([g187] ++ (blkL ao183 ++ ([g19] ++ ([g9] ++ ([g4] ++ (M)))))) w193.heap.size := (Ok.app (fun _ h => .inl (ml h)) (fun _ h => .inl (mr (mr (h)))))
       have f184 := f184.chg (Chg.refl [] _) o1 o2
       have hBg4 := hBg4.chg (Chg.refl [] _) (fun h => nomatch h)
       have hBg9 := hBg9.chg (Chg.refl [] _) (fun h => nomatch h)
       have hBg19 := hBg19.chg (Chg.refl [] _) (fun h => nomatch h)
       have hBg187 := hBg187.chg (Chg.refl [] _) (fun h => nomatch h)
       have hM : MS ([g187] ++ ([g19] ++ ([g9] ++ ([g4] ++ (M))))) w193 := (MS.app (fun x h => hM.chg (Chg.refl [] _) x (ml h)) (fun x h => hM.chg (Chg.refl [] _) x (mr (mr (h)))))
       have hC := hC.trans (Chg.refl [] _) (Ok.nil _ _)
       exact J232 _ _ (ha.sel (by kernel_rfl)) f184 hBg4 hBg9 hBg19 hBg187 hC hM
     ·have H := ite_f hc180 H
      refine wp_skip ?_
      refine hK34 _ _ ?_; try clear hK34 K34
      refine wp_seq_k fun K238 hK238 => ?_
      refine wp_region_lit ?_
      refine seg ha 2 [(2, .pointer (some ⟨g4, 0, none⟩)), (3, .pointer (some ⟨g9, 0, none⟩)), (5, .pointer (some ⟨g19, 0, none⟩)), (60, .pointer (some ⟨g9, 0, none⟩)), (61, .int .i64 t33)] (by kernel_rfl) fun a ha => ?_
      obtain ⟨t239, H239, H⟩ := bind_some H
      refine cl ha (by rfl) (by kernel_rfl) (by rfl) (by rfl) (by rfl) (vineryref01_Reader_Take.walk w179 _ hM g9 t25.2 ao27 cap27 f27 hBg9 (mr (ml (List.mem_singleton.2 rfl))) t33 _ H239) ?_
      rintro _ w239 ⟨ao240, cap240, ao241, cap241, rfl, f240, f241, qhBg9, ne_i240, hc239, hMn⟩ a ha
      have o1 : Ok [g9] ([g19] ++ ([g9] ++ ([g4] ++ (M)))) w179.heap.size := (fun _ h => .inl (mr (ml h)))
      have o2 : Ok (blkL ao240 ++ ([g19] ++ ([g9] ++ ([g4] ++ (M))))) ([g19] ++ ([g9] ++ ([g4] ++ (M)))) w179.heap.size := (Ok.app (fun x h => .inr (ne_i240 x h)) (Ok.refl _ _))
      have f27 := f27.chg hc239 o1 o2
      have hBg4 := hBg4.chg hc239 ((fun x (hx : x ∈ [g4]) (hy : x ∈ [g9]) => p_i10_i6 x hy hx) g4 (by simp))
      have hBg19 := hBg19.chg hc239 (p_i21_i10 g19 (by simp))
      have p_i240_i21 : ∀ x ∈ blkL ao240, x ∉ ([g19]) := fun x hx hy => absurd (hM x (ml hy)) (Nat.not_lt.2 (ne_i240 x hx))
      have p_i240_i10 : ∀ x ∈ blkL ao240, x ∉ ([g9]) := fun x hx hy => absurd (hM x (mr (ml hy))) (Nat.not_lt.2 (ne_i240 x hx))
      have p_i240_i6 : ∀ x ∈ blkL ao240, x ∉ ([g4]) := fun x hx hy => absurd (hM x (mr (mr (ml hy)))) (Nat.not_lt.2 (ne_i240 x hx))
      have p_i240_M : ∀ x ∈ blkL ao240, x ∉ M := fun x hx hy => absurd (hM x (mr (mr (mr (hy))))) (Nat.not_lt.2 (ne_i240 x hx))
      have e_i240 : ∀ x ∈ blkL ao240, w.heap.size ≤ x := fun x hx => Nat.le_trans hC.size (ne_i240 x hx)
      have hM : MS (blkL ao240 ++ ([g19] ++ ([g9] ++ ([g4] ++ (M))))) w239 := (MS.app (fun x h => hMn x (ml h)) (hM.chg hc239))
      have hC := hC.trans hc239 (fun x h => .inr (e_i10 x h))
      have hBg9 := qhBg9
      have hML : MS ([g19] ++ ([g9] ++ ([g4] ++ (M)))) w239 := MS.rest hM (fun _ h => (List.mem_append.1 h).elim (fun h => mr (ml h)) (fun h => (List.mem_append.1 h).elim (fun h => mr (mr (ml h))) (fun h => (List.mem_append.1 h).elim (fun h => mr (mr (mr (ml h)))) (fun h => mr (mr (mr (mr (h))))))))
      have oL : Ok ([g19] ++ ([g9] ++ ([g4] ++ (M)))) (blkL ao240 ++ ([g19] ++ ([g9] ++ ([g4] ++ (M))))) w239.heap.size := (fun _ h => .inl (mr (h)))
      obtain ⟨t242, H242, H⟩ := bind_some H
      refine cl ha (by rfl) (by kernel_rfl) (by rfl) (by rfl) (by rfl) (vineryref02_Of.walk w239 _ hML t239.1 ao240 cap240 (Own.toRSl (M' := [g19] ++ ([g9] ++ ([g4] ++ (M)))) f240 oL (fun x hx hm => (List.mem_append.1 hm).elim (fun h => p_i240_i21 x hx h) (fun h => (List.mem_append.1 h).elim (fun h => p_i240_i10 x hx h) (fun h => (List.mem_append.1 h).elim (fun h => p_i240_i6 x hx h) (fun h => p_i240_M x hx h))))) k _ H242) ?_
      rintro _ w242 ⟨rfl, hc242, hMn⟩ a ha
      have o1 : Ok [] (blkL ao240 ++ ([g19] ++ ([g9] ++ ([g4] ++ (M))))) w239.heap.size := Ok.nil _ _
      have o2 : Ok (blkL ao240 ++ ([g19] ++ ([g9] ++ ([g4] ++ (M))))) (blkL ao240 ++ ([g19] ++ ([g9] ++ ([g4] ++ (M))))) w239.heap.size := (Ok.refl _ _)
      have f240 := f240.chg hc242 o1 o2 (fun _ _ h => nomatch h) (fun _ h => ml h)
      have f241 := f241.chg hc242 o1 o2
      have hBg4 := hBg4.chg hc242 (fun h => nomatch h)
      have hBg9 := hBg9.chg hc242 (fun h => nomatch h)
      have hBg19 := hBg19.chg hc242 (fun h => nomatch h)
      have hM : MS (blkL ao240 ++ ([g19] ++ ([g9] ++ ([g4] ++ (M))))) w242 := (hM.chg hc242)
      have hC := hC.trans hc242 (Ok.nil _ _)
      refine seg ha 3 [(2, .pointer (some ⟨g4, 0, none⟩)), (3, .pointer (some ⟨g9, 0, none⟩)), (5, .pointer (some ⟨g19, 0, none⟩)), (64, .agg (cS_api_Addr t242.1).toArray), (65, .int .i64 t242.2)] (by kernel_rfl) fun a ha => ?_
      refine al (cs := (cS_api_Addr (⟨(0 : Int), (List.replicate 16 (0 : Int))⟩ : S_api_Addr))) (z := .agg (cS_api_Addr (⟨(0 : Int), (List.replicate 16 (0 : Int))⟩ : S_api_Addr)).toArray) ha (fun w => by kernel_rfl) rfl rfl rfl rfl fun a w243 g244 hN245 ha => ?_
      have o1 : Ok [] (blkL ao240 ++ ([g19] ++ ([g9] ++ ([g4] ++ (M))))) w242.heap.size := Ok.nil _ _
      have o2 : Ok ([g244] ++ (blkL ao240 ++ ([g19] ++ ([g9] ++ ([g4] ++ (M)))))) (blkL ao240 ++ ([g19] ++ ([g9] ++ ([g4] ++ (M))))) w242.heap.size := (Ok.app (hN245.ok _) (Ok.refl _ _))
      have f241 := f241.chg hN245.chg o1 o2
      have hBg4 := hBg4.chg hN245.chg (fun h => nomatch h)
      have hBg9 := hBg9.chg hN245.chg (fun h => nomatch h)
      have hBg19 := hBg19.chg hN245.chg (fun h => nomatch h)
      have p_i246_i240 : ∀ x ∈ [g244], x ∉ (blkL ao240) := fun x hx hy => absurd (hM x (ml hy)) (Nat.not_lt.2 ((hN245.ge1) x hx))
      have p_i246_i21 : ∀ x ∈ [g244], x ∉ ([g19]) := fun x hx hy => absurd (hM x (mr (ml hy))) (Nat.not_lt.2 ((hN245.ge1) x hx))
      have p_i246_i10 : ∀ x ∈ [g244], x ∉ ([g9]) := fun x hx hy => absurd (hM x (mr (mr (ml hy)))) (Nat.not_lt.2 ((hN245.ge1) x hx))
      have p_i246_i6 : ∀ x ∈ [g244], x ∉ ([g4]) := fun x hx hy => absurd (hM x (mr (mr (mr (ml hy))))) (Nat.not_lt.2 ((hN245.ge1) x hx))
      have p_i246_M : ∀ x ∈ [g244], x ∉ M := fun x hx hy => absurd (hM x (mr (mr (mr (mr (hy)))))) (Nat.not_lt.2 ((hN245.ge1) x hx))
      have e_i246 : ∀ x ∈ [g244], w.heap.size ≤ x := fun x hx => Nat.le_trans hC.size ((hN245.ge1) x hx)
      have hM : MS ([g244] ++ (blkL ao240 ++ ([g19] ++ ([g9] ++ ([g4] ++ (M)))))) w243 := (MS.app hN245.ms (hM.chg hN245.chg))
      have hC := hC.trans hN245.chg (Ok.nil _ _)
      have hBg244 : Box w243 g244 (cS_api_Addr (⟨(0 : Int), (List.replicate 16 (0 : Int))⟩ : S_api_Addr)) := hN245.box
      refine stA (l := (cS_api_Addr t242.1)) ha rfl rfl rfl (by kernel_rfl) rfl rfl hBg244 rfl fun a w247 ha hb2 hc248 _ => ?_
      have o1 : Ok [g244] ([g244] ++ (blkL ao240 ++ ([g19] ++ ([g9] ++ ([g4] ++ (M)))))) w243.heap.size := (fun _ h => .inl (ml h))
      have o2 : Ok ([g244] ++ (blkL ao240 ++ ([g19] ++ ([g9] ++ ([g4] ++ (M)))))) ([g244] ++ (blkL ao240 ++ ([g19] ++ ([g9] ++ ([g4] ++ (M)))))) w243.heap.size := (Ok.refl _ _)
      have f241 := f241.chg hc248 o1 o2
      have hBg4 := hBg4.chg hc248 ((fun x (hx : x ∈ [g4]) (hy : x ∈ [g244]) => p_i246_i6 x hy hx) g4 (by simp))
      have hBg9 := hBg9.chg hc248 ((fun x (hx : x ∈ [g9]) (hy : x ∈ [g244]) => p_i246_i10 x hy hx) g9 (by simp))
      have hBg19 := hBg19.chg hc248 ((fun x (hx : x ∈ [g19]) (hy : x ∈ [g244]) => p_i246_i21 x hy hx) g19 (by simp))
      have hM : MS ([g244] ++ (blkL ao240 ++ ([g19] ++ ([g9] ++ ([g4] ++ (M)))))) w247 := (hM.chg hc248)
      have hC := hC.trans hc248 (fun x h => .inr (e_i246 x h))
      have hBg244 : Box w247 g244 (cS_api_Addr t242.1) := hb2
      refine seg ha 1 [(2, .pointer (some ⟨g4, 0, none⟩)), (3, .pointer (some ⟨g9, 0, none⟩)), (5, .pointer (some ⟨g19, 0, none⟩)), (11, .pointer (some ⟨g244, 0, none⟩))] (by kernel_rfl) fun a ha => ?_
      refine hK238 _ _ ?_; try clear hK238 K238
      refine wp_seq_k fun K249 hK249 => ?_
      refine wp_region_lit ?_
      refine ldA (cs := (cS_api_Addr t242.1)) ha rfl (by kernel_rfl) rfl rfl rfl (cells_sub (Box.cells hBg244) (all := (cS_api_Addr t242.1)) [] [] (by kernel_rfl)) fun a ha => ?_
      refine seg ha 1 [(2, .pointer (some ⟨g4, 0, none⟩)), (3, .pointer (some ⟨g9, 0, none⟩)), (5, .pointer (some ⟨g19, 0, none⟩)), (66, .agg (cS_api_Addr t242.1).toArray), (67, .pointer (some ⟨g19, 3, none⟩))] (by kernel_rfl) fun a ha => ?_
      refine stA (l := (cS_api_Addr t242.1)) ha rfl rfl rfl (by kernel_rfl) rfl rfl hBg19 rfl fun a w250 ha hb2 hc251 _ => ?_
      have o1 : Ok [g19] ([g244] ++ (blkL ao240 ++ ([g19] ++ ([g9] ++ ([g4] ++ (M)))))) w247.heap.size := (fun _ h => .inl (mr (mr (ml h))))
      have o2 : Ok ([g244] ++ (blkL ao240 ++ ([g19] ++ ([g9] ++ ([g4] ++ (M)))))) ([g244] ++ (blkL ao240 ++ ([g19] ++ ([g9] ++ ([g4] ++ (M)))))) w247.heap.size := (Ok.refl _ _)
      have f241 := f241.chg hc251 o1 o2
      have hBg4 := hBg4.chg hc251 ((fun x (hx : x ∈ [g4]) (hy : x ∈ [g19]) => p_i21_i6 x hy hx) g4 (by simp))
      have hBg9 := hBg9.chg hc251 ((fun x (hx : x ∈ [g9]) (hy : x ∈ [g19]) => p_i21_i10 x hy hx) g9 (by simp))
      have hBg244 := hBg244.chg hc251 (p_i246_i21 g244 (by simp))
      have hM : MS ([g244] ++ (blkL ao240 ++ ([g19] ++ ([g9] ++ ([g4] ++ (M)))))) w250 := (hM.chg hc251)
      have hC := hC.trans hc251 (fun x h => .inr (e_i21 x h))
      have hBg19 : Box w250 g19 (cS_api_Tunnel (⟨t13.1 == (1 : Int), t16.1, t28.1, t242.1, ([] : List Int)⟩ : S_api_Tunnel) none 0) := hb2
      refine hK249 _ _ ?_; try clear hK249 K249
      refine wp_seq_k fun K252 hK252 => ?_
      obtain ⟨s253, H253, H⟩ := bind_some H
      have J253 : ∀ (a : Act) (w253 : World) (ao254 : Option Addr) (cap254 : Nat), Has a Tryd.f52.ntmps [(2, .pointer (some ⟨g4, 0, none⟩)), (3, .pointer (some ⟨g9, 0, none⟩)), (5, .pointer (some ⟨g19, 0, none⟩))] → (RSl (rInt .u8) 5 w253 ([g244] ++ ([g19] ++ ([g9] ++ ([g4] ++ (M))))) ao254 cap254 s253.1) → (Box w253 g4 (cS_api_Tunnel (⟨false, (0 : Int), (0 : Int), (⟨(0 : Int), (List.replicate 16 (0 : Int))⟩ : S_api_Addr), ([] : List Int)⟩ : S_api_Tunnel) none 0)) → (Box w253 g9 (cS_vineryref01_Reader (⟨s253.1, s253.2.1, s253.2.2⟩ : S_vineryref01_Reader) ao254 cap254)) → (Box w253 g19 (cS_api_Tunnel (⟨t13.1 == (1 : Int), t16.1, t28.1, t242.1, ([] : List Int)⟩ : S_api_Tunnel) none 0)) → (Box w253 g244 (cS_api_Addr t242.1)) → (Chg [] w w253) → (MS ([g244] ++ ([g19] ++ ([g9] ++ ([g4] ++ (M))))) w253) → K252 a w253 := by
       intro a w253 ao254 cap254 ha f254 hBg4 hBg9 hBg19 hBg244 hC hM
       refine hK252 _ _ ?_; try clear hK252 K252
       refine wp_seq_k fun K255 hK255 => ?_
       have z_f254 := f254
       have z_hBg4 := hBg4
       have z_hBg244 := hBg244
       have okS : Ok ([g9] ++ [g19]) ([g244] ++ ([g19] ++ ([g9] ++ ([g4] ++ (M))))) w253.heap.size := (Ok.app (fun _ h => .inl (mr (mr (ml h)))) (fun _ h => .inl (mr (ml h))))
       refine drw (fun w' => Chg ([g9] ++ [g19]) w253 w') (by kernel_rfl) fun w256 hc257 _ => ?_
       have hS : Chg ([g9] ++ [g19]) w253 w256 := (Chg.refl ([g9] ++ [g19]) _).trans hc257 (Ok.nil _ _)
       have o1 : Ok [] ([g244] ++ ([g19] ++ ([g9] ++ ([g4] ++ (M))))) w253.heap.size := Ok.nil _ _
       have o2 : Ok ([g244] ++ ([g19] ++ ([g9] ++ ([g4] ++ (M))))) ([g244] ++ ([g19] ++ ([g9] ++ ([g4] ++ (M))))) w253.heap.size := (Ok.refl _ _)
       have f254 := f254.chg hc257 o1 o2
       have hBg4 := hBg4.chg hc257 (fun h => nomatch h)
       have hBg9 := hBg9.chg hc257 (fun h => nomatch h)
       have hBg19 := hBg19.chg hc257 (fun h => nomatch h)
       have hBg244 := hBg244.chg hc257 (fun h => nomatch h)
       have hM : MS ([g244] ++ ([g19] ++ ([g9] ++ ([g4] ++ (M))))) w256 := (hM.chg hc257)
       have hC := hC.trans hc257 (Ok.nil _ _)
       obtain ⟨s258, H258, H⟩ := bind_some H
       have J258 : ∀ (a : Act) (w258 : World) (ao259 : Option Addr) (cap259 : Nat) (ao260 : Option Addr) (cap260 : Nat), Has a Tryd.f52.ntmps [(2, .pointer (some ⟨g4, 0, none⟩)), (5, .pointer (some ⟨g19, 0, none⟩))] → (RSl (rInt .u8) 5 w258 (blkL ao260 ++ ([g244] ++ ([g19] ++ ([g9] ++ ([g4] ++ (M)))))) ao259 cap259 s258.1) → (Own (rInt .u8) 5 w258 (blkL ao260 ++ ([g244] ++ ([g19] ++ ([g9] ++ ([g4] ++ (M)))))) ao260 cap260 s258.2.2.2) → (Box w258 g4 (cS_api_Tunnel (⟨false, (0 : Int), (0 : Int), (⟨(0 : Int), (List.replicate 16 (0 : Int))⟩ : S_api_Addr), ([] : List Int)⟩ : S_api_Tunnel) none 0)) → (Box w258 g9 (cS_vineryref01_Reader (⟨s258.1, s258.2.1, s258.2.2.1⟩ : S_vineryref01_Reader) ao259 cap259)) → (Box w258 g19 (cS_api_Tunnel (⟨t13.1 == (1 : Int), t16.1, t28.1, t242.1, s258.2.2.2⟩ : S_api_Tunnel) ao260 cap260)) → (Box w258 g244 (cS_api_Addr t242.1)) → (∀ x ∈ blkL ao260, w.heap.size ≤ x) → (∀ x ∈ blkL ao260, x ∉ [g244]) → (∀ x ∈ blkL ao260, x ∉ [g19]) → (∀ x ∈ blkL ao260, x ∉ [g9]) → (∀ x ∈ blkL ao260, x ∉ [g4]) → (∀ x ∈ blkL ao260, x ∉ M) → (Chg [] w w258) → (MS (blkL ao260 ++ ([g244] ++ ([g19] ++ ([g9] ++ ([g4] ++ (M)))))) w258) → K255 a w258 := by
        intro a w258 ao259 cap259 ao260 cap260 ha f259 f260 hBg4 hBg9 hBg19 hBg244 e_i260 p_i260_i246 p_i260_i21 p_i260_i10 p_i260_i6 p_i260_M hC hM
        refine hK255 _ _ ?_; try clear hK255 K255
        refine wp_seq_k fun K261 hK261 => ?_
        refine wp_region_lit ?_
        refine ldA (cs := (cS_api_Tunnel (⟨t13.1 == (1 : Int), t16.1, t28.1, t242.1, s258.2.2.2⟩ : S_api_Tunnel) ao260 cap260)) ha rfl (by kernel_rfl) rfl rfl rfl (cells_sub (Box.cells hBg19) (all := (cS_api_Tunnel (⟨t13.1 == (1 : Int), t16.1, t28.1, t242.1, s258.2.2.2⟩ : S_api_Tunnel) ao260 cap260)) [] [] (by kernel_rfl)) fun a ha => ?_
        refine stA (l := (cS_api_Tunnel (⟨t13.1 == (1 : Int), t16.1, t28.1, t242.1, s258.2.2.2⟩ : S_api_Tunnel) ao260 cap260)) ha rfl rfl rfl (by kernel_rfl) rfl rfl hBg4 rfl fun a w262 ha hb2 hc263 _ => ?_
        have o1 : Ok [g4] (blkL ao260 ++ ([g244] ++ ([g19] ++ ([g9] ++ ([g4] ++ (M)))))) w258.heap.size := (fun _ h => .inl (mr (mr (mr (mr (ml h))))))
        have o2 : Ok (blkL ao260 ++ ([g244] ++ ([g19] ++ ([g9] ++ ([g4] ++ (M)))))) (blkL ao260 ++ ([g244] ++ ([g19] ++ ([g9] ++ ([g4] ++ (M)))))) w258.heap.size := (Ok.refl _ _)
        have f260 := f260.chg hc263 o1 o2 p_i260_i6 (fun _ h => ml h)
        have f259 := f259.chg hc263 o1 o2
        have hBg9 := hBg9.chg hc263 (p_i10_i6 g9 (by simp))
        have hBg19 := hBg19.chg hc263 (p_i21_i6 g19 (by simp))
        have hBg244 := hBg244.chg hc263 (p_i246_i6 g244 (by simp))
        have hM : MS (blkL ao260 ++ ([g244] ++ ([g19] ++ ([g9] ++ ([g4] ++ (M)))))) w262 := (hM.chg hc263)
        have hC := hC.trans hc263 (fun x h => .inr (e_i6 x h))
        have hBg4 : Box w262 g4 (cS_api_Tunnel (⟨t13.1 == (1 : Int), t16.1, t28.1, t242.1, s258.2.2.2⟩ : S_api_Tunnel) ao260 cap260) := hb2
        refine hK261 _ _ ?_; try clear hK261 K261
        refine wp_ret ?_
        try simp only [Exit.then, Exit.inBlock]
        have o1 : Ok [] (blkL ao260 ++ ([g244] ++ ([g19] ++ ([g9] ++ ([g4] ++ (M)))))) w262.heap.size := Ok.nil _ _
        have o2 : Ok (blkL ao260 ++ (M)) (blkL ao260 ++ ([g244] ++ ([g19] ++ ([g9] ++ ([g4] ++ (M)))))) w262.heap.size := (Ok.app (fun _ h => .inl (ml h)) (fun _ h => .inl (mr (mr (mr (mr (mr (h))))))))
        have f260 := f260.chg (Chg.refl [] _) o1 o2 (fun _ _ h => nomatch h) (fun _ h => ml h)
        have f259 := f259.chg (Chg.refl [] _) o1 o2
        have hBg4 := hBg4.chg (Chg.refl [] _) (fun h => nomatch h)
        have hBg9 := hBg9.chg (Chg.refl [] _) (fun h => nomatch h)
        have hBg19 := hBg19.chg (Chg.refl [] _) (fun h => nomatch h)
        have hBg244 := hBg244.chg (Chg.refl [] _) (fun h => nomatch h)
        have hM : MS (blkL ao260 ++ (M)) w262 := (MS.app (fun x h => hM.chg (Chg.refl [] _) x (ml h)) (fun x h => hM.chg (Chg.refl [] _) x (mr (mr (mr (mr (mr (h))))))))
        have hC := hC.trans (Chg.refl [] _) (Ok.nil _ _)
        obtain rfl := Option.some.inj H
        refine rtr ha (res1 rfl (roA ha rfl hBg4 (by kernel_rfl))) ?_
        exact ⟨ao260, cap260, rfl, f260, e_i260, hC, hM⟩
       have H := H258
       refine tkpz 0 0 (.pointer (some ⟨g19, 20, none⟩)) ha (s := hS) (q := fun a ha => ?_)
       refine tkpz 2 0 (.pointer (some ⟨g9, 0, none⟩)) ha (s := hS) (q := fun a ha => ?_)
       refine acs [1, 3] (by kernel_rfl) (by simp) fun i hi => ?_
       simp only [List.mem_cons, List.not_mem_nil, or_false] at hi
       rcases hi with rfl | rfl
       ·refine ⟨_, rfl, fun K264 hK264 => ?_⟩
        refine ld (v := .slice none 0 0) ha rfl (by kernel_rfl) rfl rfl rfl (hBg19.cell' (o := 20) rfl (by kernel_rfl)) fun a ha => ?_
        refine ae hK264 hS ?_; clear hK264 K264
        refine ac 3 (by kernel_rfl) (by rfl) fun K265 hK265 => ?_
        obtain ⟨t266, H266, H⟩ := bind_some H
        refine cl ha (by rfl) (by kernel_rfl) (by rfl) (by rfl) (by rfl) (vineryref01_Reader_Rest.walk w256 _ hM g9 (⟨s253.1, s253.2.1, s253.2.2⟩ : S_vineryref01_Reader) ao254 cap254 f254 hBg9 (mr (mr (ml (List.mem_singleton.2 rfl)))) _ H266) ?_
        rintro _ w266 ⟨ao267, cap267, ao268, cap268, rfl, f267, f268, qhBg9, ne_iD000267, hc266, hMn⟩ a ha
        have o1 : Ok [g9] ([g244] ++ ([g19] ++ ([g9] ++ ([g4] ++ (M))))) w256.heap.size := (fun _ h => .inl (mr (mr (ml h))))
        have o2 : Ok (blkL ao267 ++ ([g244] ++ ([g19] ++ ([g9] ++ ([g4] ++ (M)))))) ([g244] ++ ([g19] ++ ([g9] ++ ([g4] ++ (M))))) w256.heap.size := (Ok.app (fun x h => .inr (ne_iD000267 x h)) (Ok.refl _ _))
        have f254 := f254.chg hc266 o1 o2
        have hBg4 := hBg4.chg hc266 ((fun x (hx : x ∈ [g4]) (hy : x ∈ [g9]) => p_i10_i6 x hy hx) g4 (by simp))
        have hBg19 := hBg19.chg hc266 (p_i21_i10 g19 (by simp))
        have hBg244 := hBg244.chg hc266 (p_i246_i10 g244 (by simp))
        have p_iD000267_i246 : ∀ x ∈ blkL ao267, x ∉ ([g244]) := fun x hx hy => absurd (hM x (ml hy)) (Nat.not_lt.2 (ne_iD000267 x hx))
        have p_iD000267_i21 : ∀ x ∈ blkL ao267, x ∉ ([g19]) := fun x hx hy => absurd (hM x (mr (ml hy))) (Nat.not_lt.2 (ne_iD000267 x hx))
        have p_iD000267_i10 : ∀ x ∈ blkL ao267, x ∉ ([g9]) := fun x hx hy => absurd (hM x (mr (mr (ml hy)))) (Nat.not_lt.2 (ne_iD000267 x hx))
        have p_iD000267_i6 : ∀ x ∈ blkL ao267, x ∉ ([g4]) := fun x hx hy => absurd (hM x (mr (mr (mr (ml hy))))) (Nat.not_lt.2 (ne_iD000267 x hx))
        have p_iD000267_M : ∀ x ∈ blkL ao267, x ∉ M := fun x hx hy => absurd (hM x (mr (mr (mr (mr (hy)))))) (Nat.not_lt.2 (ne_iD000267 x hx))
        have e_iD000267 : ∀ x ∈ blkL ao267, w.heap.size ≤ x := fun x hx => Nat.le_trans hC.size (ne_iD000267 x hx)
        have hM : MS (blkL ao267 ++ ([g244] ++ ([g19] ++ ([g9] ++ ([g4] ++ (M)))))) w266 := (MS.app (fun x h => hMn x (ml h)) (hM.chg hc266))
        have hC := hC.trans hc266 (fun x h => .inr (e_i10 x h))
        have d_iD000267 : Ok (blkL ao267) ([g9] ++ [g19]) w253.heap.size := fun x hx => .inr (Nat.le_trans hS.size (ne_iD000267 x hx))
        have hS := hS.trans hc266 (fun x h => .inl ((List.mem_append_left _ h)))
        have hBg9 := qhBg9
        refine ae hK265 hS ?_; clear hK265 K265
        refine ac 4 (by kernel_rfl) (by rfl) fun K269 hK269 => ?_
        obtain ⟨hx270, H⟩ := ite_some H
        refine app (r := (rInt .u8)) (xs := ([] : List Int)) (ys := t266.1) ha (ElemT.mk' (bytes := 1) (by kernel_rfl)) rfl rfl rfl rfl rfl Own.nil f267.src hx270 (by decide) fun a w271 ao272 cap272 hO272 hc272 hk272 hl272 ha => ?_
        have o1 : Ok [] (blkL ao267 ++ ([g244] ++ ([g19] ++ ([g9] ++ ([g4] ++ (M)))))) w266.heap.size := Ok.nil _ _
        have o2 : Ok (blkL ao272 ++ (blkL ao267 ++ ([g244] ++ ([g19] ++ ([g9] ++ ([g4] ++ (M))))))) (blkL ao267 ++ ([g244] ++ ([g19] ++ ([g9] ++ ([g4] ++ (M)))))) w266.heap.size := (Ok.app (Ok.to hk272 (fun _ h => nomatch h)) (Ok.refl _ _))
        have f267 := f267.chg hc272 o1 o2 (fun _ _ h => nomatch h) (fun _ h => mr (ml h))
        have f268 := f268.chg hc272 o1 o2
        have hBg4 := hBg4.chg hc272 (fun h => nomatch h)
        have hBg9 := hBg9.chg hc272 (fun h => nomatch h)
        have hBg19 := hBg19.chg hc272 (fun h => nomatch h)
        have hBg244 := hBg244.chg hc272 (fun h => nomatch h)
        have p_iD000272_iD000267 : ∀ x ∈ blkL ao272, x ∉ (blkL ao267) := fun x hx hy => absurd (hM x (ml hy)) (Nat.not_lt.2 ((fun x h => (hk272 x h).elim (fun h => nomatch h) id) x hx))
        have p_iD000272_i246 : ∀ x ∈ blkL ao272, x ∉ ([g244]) := fun x hx hy => absurd (hM x (mr (ml hy))) (Nat.not_lt.2 ((fun x h => (hk272 x h).elim (fun h => nomatch h) id) x hx))
        have p_iD000272_i21 : ∀ x ∈ blkL ao272, x ∉ ([g19]) := fun x hx hy => absurd (hM x (mr (mr (ml hy)))) (Nat.not_lt.2 ((fun x h => (hk272 x h).elim (fun h => nomatch h) id) x hx))
        have p_iD000272_i10 : ∀ x ∈ blkL ao272, x ∉ ([g9]) := fun x hx hy => absurd (hM x (mr (mr (mr (ml hy))))) (Nat.not_lt.2 ((fun x h => (hk272 x h).elim (fun h => nomatch h) id) x hx))
        have p_iD000272_i6 : ∀ x ∈ blkL ao272, x ∉ ([g4]) := fun x hx hy => absurd (hM x (mr (mr (mr (mr (ml hy)))))) (Nat.not_lt.2 ((fun x h => (hk272 x h).elim (fun h => nomatch h) id) x hx))
        have p_iD000272_M : ∀ x ∈ blkL ao272, x ∉ M := fun x hx hy => absurd (hM x (mr (mr (mr (mr (mr (hy))))))) (Nat.not_lt.2 ((fun x h => (hk272 x h).elim (fun h => nomatch h) id) x hx))
        have e_iD000272 : ∀ x ∈ blkL ao272, w.heap.size ≤ x := fun x hx => Nat.le_trans hC.size ((fun x h => (hk272 x h).elim (fun h => nomatch h) id) x hx)
        have hM : MS (blkL ao272 ++ (blkL ao267 ++ ([g244] ++ ([g19] ++ ([g9] ++ ([g4] ++ (M))))))) w271 := (MS.app hl272 (hM.chg hc272))
        have hC := hC.trans hc272 (Ok.nil _ _)
        have d_iD000272 : Ok (blkL ao272) ([g9] ++ [g19]) w253.heap.size := fun x hx => .inr (Nat.le_trans hS.size ((fun x h => (hk272 x h).elim (fun h => nomatch h) id) x hx))
        have hS := hS.trans hc272 (Ok.nil _ _)
        have f272 := hO272.chg (M' := blkL ao272 ++ (blkL ao267 ++ ([g244] ++ ([g19] ++ ([g9] ++ ([g4] ++ (M))))))) (Chg.refl [] _) (Ok.nil _ _) (Ok.app (fun _ h => .inl (ml h)) (Ok.to (Ok.refl _ _) (fun _ h => mr h))) (fun _ _ h => nomatch h) (fun _ h => ml h)
        refine ae hK269 hS ?_; clear hK269 K269
        refine tkpz 5 0 (.pointer (some ⟨g19, 20, none⟩)) ha (s := hS) (q := fun a ha => ?_)
        refine ac 6 (by kernel_rfl) (by rfl) fun K273 hK273 => ?_
        refine st ha rfl rfl rfl (by kernel_rfl) rfl rfl hBg19 (Nat.le_of_ble_eq_true (by kernel_rfl)) fun a w274 ha hb2 hc275 _ => ?_
        have o1 : Ok [g19] (blkL ao272 ++ (blkL ao267 ++ ([g244] ++ ([g19] ++ ([g9] ++ ([g4] ++ (M))))))) w271.heap.size := (fun _ h => .inl (mr (mr (mr (ml h)))))
        have o2 : Ok (blkL ao272 ++ (blkL ao267 ++ ([g244] ++ ([g19] ++ ([g9] ++ ([g4] ++ (M))))))) (blkL ao272 ++ (blkL ao267 ++ ([g244] ++ ([g19] ++ ([g9] ++ ([g4] ++ (M))))))) w271.heap.size := (Ok.refl _ _)
        have f267 := f267.chg hc275 o1 o2 p_iD000267_i21 (fun _ h => mr (ml h))
        have f272 := f272.chg hc275 o1 o2 p_iD000272_i21 (fun _ h => ml h)
        have f268 := f268.chg hc275 o1 o2
        have hBg4 := hBg4.chg hc275 ((fun x (hx : x ∈ [g4]) (hy : x ∈ [g19]) => p_i21_i6 x hy hx) g4 (by simp))
        have hBg9 := hBg9.chg hc275 ((fun x (hx : x ∈ [g9]) (hy : x ∈ [g19]) => p_i21_i10 x hy hx) g9 (by simp))
        have hBg244 := hBg244.chg hc275 (p_i246_i21 g244 (by simp))
        have hM : MS (blkL ao272 ++ (blkL ao267 ++ ([g244] ++ ([g19] ++ ([g9] ++ ([g4] ++ (M))))))) w274 := (hM.chg hc275)
        have hC := hC.trans hc275 (fun x h => .inr (e_i21 x h))
        have hS := hS.trans hc275 (fun x h => .inl ((List.mem_append_right _ h)))
        have hBg19 : Box w274 g19 (cS_api_Tunnel (⟨t13.1 == (1 : Int), t16.1, t28.1, t242.1, (([] : List Int) ++ t266.1)⟩ : S_api_Tunnel) ao272 cap272) := hb2
        refine ae hK273 hS ?_; clear hK273 K273
        refine dn (by kernel_rfl) ?_
        obtain rfl := Option.some.inj H
        have o1 : Ok [] (blkL ao272 ++ (blkL ao267 ++ ([g244] ++ ([g19] ++ ([g9] ++ ([g4] ++ (M))))))) w274.heap.size := Ok.nil _ _
        have o2 : Ok (blkL ao272 ++ ([g244] ++ ([g19] ++ ([g9] ++ ([g4] ++ (M)))))) (blkL ao272 ++ (blkL ao267 ++ ([g244] ++ ([g19] ++ ([g9] ++ ([g4] ++ (M))))))) w274.heap.size := (Ok.app (fun _ h => .inl (ml h)) (fun _ h => .inl (mr (mr (h)))))
        have f268 := f268.chg (Chg.refl [] _) o1 o2
        have f272 := f272.chg (Chg.refl [] _) o1 o2 (fun _ _ h => nomatch h) (fun _ h => ml h)
        have hBg4 := hBg4.chg (Chg.refl [] _) (fun h => nomatch h)
        have hBg9 := hBg9.chg (Chg.refl [] _) (fun h => nomatch h)
        have hBg19 := hBg19.chg (Chg.refl [] _) (fun h => nomatch h)
        have hBg244 := hBg244.chg (Chg.refl [] _) (fun h => nomatch h)
        have hM : MS (blkL ao272 ++ ([g244] ++ ([g19] ++ ([g9] ++ ([g4] ++ (M)))))) w274 := (MS.app (fun x h => hM.chg (Chg.refl [] _) x (ml h)) (fun x h => hM.chg (Chg.refl [] _) x (mr (mr (h)))))
        have hC := hC.trans (Chg.refl [] _) (Ok.nil _ _)
        exact J258 _ _ ao268 cap268 ao272 cap272 (ha.sel (by kernel_rfl)) f268 f272 hBg4 hBg9 hBg19 hBg244 e_iD000272 p_iD000272_i246 p_iD000272_i21 p_iD000272_i10 p_iD000272_i6 p_iD000272_M hC hM
       ·refine ⟨_, rfl, fun K276 hK276 => ?_⟩
        obtain ⟨t277, H277, H⟩ := bind_some H
        refine cl ha (by rfl) (by kernel_rfl) (by rfl) (by rfl) (by rfl) (vineryref01_Reader_Rest.walk w256 _ hM g9 (⟨s253.1, s253.2.1, s253.2.2⟩ : S_vineryref01_Reader) ao254 cap254 f254 hBg9 (mr (mr (ml (List.mem_singleton.2 rfl)))) _ H277) ?_
        rintro _ w277 ⟨ao278, cap278, ao279, cap279, rfl, f278, f279, qhBg9, ne_iD000278, hc277, hMn⟩ a ha
        have o1 : Ok [g9] ([g244] ++ ([g19] ++ ([g9] ++ ([g4] ++ (M))))) w256.heap.size := (fun _ h => .inl (mr (mr (ml h))))
        have o2 : Ok (blkL ao278 ++ ([g244] ++ ([g19] ++ ([g9] ++ ([g4] ++ (M)))))) ([g244] ++ ([g19] ++ ([g9] ++ ([g4] ++ (M))))) w256.heap.size := (Ok.app (fun x h => .inr (ne_iD000278 x h)) (Ok.refl _ _))
        have f254 := f254.chg hc277 o1 o2
        have hBg4 := hBg4.chg hc277 ((fun x (hx : x ∈ [g4]) (hy : x ∈ [g9]) => p_i10_i6 x hy hx) g4 (by simp))
        have hBg19 := hBg19.chg hc277 (p_i21_i10 g19 (by simp))
        have hBg244 := hBg244.chg hc277 (p_i246_i10 g244 (by simp))
        have p_iD000278_i246 : ∀ x ∈ blkL ao278, x ∉ ([g244]) := fun x hx hy => absurd (hM x (ml hy)) (Nat.not_lt.2 (ne_iD000278 x hx))
        have p_iD000278_i21 : ∀ x ∈ blkL ao278, x ∉ ([g19]) := fun x hx hy => absurd (hM x (mr (ml hy))) (Nat.not_lt.2 (ne_iD000278 x hx))
        have p_iD000278_i10 : ∀ x ∈ blkL ao278, x ∉ ([g9]) := fun x hx hy => absurd (hM x (mr (mr (ml hy)))) (Nat.not_lt.2 (ne_iD000278 x hx))
        have p_iD000278_i6 : ∀ x ∈ blkL ao278, x ∉ ([g4]) := fun x hx hy => absurd (hM x (mr (mr (mr (ml hy))))) (Nat.not_lt.2 (ne_iD000278 x hx))
        have p_iD000278_M : ∀ x ∈ blkL ao278, x ∉ M := fun x hx hy => absurd (hM x (mr (mr (mr (mr (hy)))))) (Nat.not_lt.2 (ne_iD000278 x hx))
        have e_iD000278 : ∀ x ∈ blkL ao278, w.heap.size ≤ x := fun x hx => Nat.le_trans hC.size (ne_iD000278 x hx)
        have hM : MS (blkL ao278 ++ ([g244] ++ ([g19] ++ ([g9] ++ ([g4] ++ (M)))))) w277 := (MS.app (fun x h => hMn x (ml h)) (hM.chg hc277))
        have hC := hC.trans hc277 (fun x h => .inr (e_i10 x h))
        have d_iD000278 : Ok (blkL ao278) ([g9] ++ [g19]) w253.heap.size := fun x hx => .inr (Nat.le_trans hS.size (ne_iD000278 x hx))
        have hS := hS.trans hc277 (fun x h => .inl ((List.mem_append_left _ h)))
        have hBg9 := qhBg9
        refine ae hK276 hS ?_; clear hK276 K276
        refine ac 1 (by kernel_rfl) (by rfl) fun K280 hK280 => ?_
        refine ld (v := .slice none 0 0) ha rfl (by kernel_rfl) rfl rfl rfl (hBg19.cell' (o := 20) rfl (by kernel_rfl)) fun a ha => ?_
        refine ae hK280 hS ?_; clear hK280 K280
        refine ac 4 (by kernel_rfl) (by rfl) fun K281 hK281 => ?_
        obtain ⟨hx282, H⟩ := ite_some H
        refine app (r := (rInt .u8)) (xs := ([] : List Int)) (ys := t277.1) ha (ElemT.mk' (bytes := 1) (by kernel_rfl)) rfl rfl rfl rfl rfl Own.nil f278.src hx282 (by decide) fun a w283 ao284 cap284 hO284 hc284 hk284 hl284 ha => ?_
        have o1 : Ok [] (blkL ao278 ++ ([g244] ++ ([g19] ++ ([g9] ++ ([g4] ++ (M)))))) w277.heap.size := Ok.nil _ _
        have o2 : Ok (blkL ao284 ++ (blkL ao278 ++ ([g244] ++ ([g19] ++ ([g9] ++ ([g4] ++ (M))))))) (blkL ao278 ++ ([g244] ++ ([g19] ++ ([g9] ++ ([g4] ++ (M)))))) w277.heap.size := (Ok.app (Ok.to hk284 (fun _ h => nomatch h)) (Ok.refl _ _))
        have f278 := f278.chg hc284 o1 o2 (fun _ _ h => nomatch h) (fun _ h => mr (ml h))
        have f279 := f279.chg hc284 o1 o2
        have hBg4 := hBg4.chg hc284 (fun h => nomatch h)
        have hBg9 := hBg9.chg hc284 (fun h => nomatch h)
        have hBg19 := hBg19.chg hc284 (fun h => nomatch h)
        have hBg244 := hBg244.chg hc284 (fun h => nomatch h)
        have p_iD000284_iD000278 : ∀ x ∈ blkL ao284, x ∉ (blkL ao278) := fun x hx hy => absurd (hM x (ml hy)) (Nat.not_lt.2 ((fun x h => (hk284 x h).elim (fun h => nomatch h) id) x hx))
        have p_iD000284_i246 : ∀ x ∈ blkL ao284, x ∉ ([g244]) := fun x hx hy => absurd (hM x (mr (ml hy))) (Nat.not_lt.2 ((fun x h => (hk284 x h).elim (fun h => nomatch h) id) x hx))
        have p_iD000284_i21 : ∀ x ∈ blkL ao284, x ∉ ([g19]) := fun x hx hy => absurd (hM x (mr (mr (ml hy)))) (Nat.not_lt.2 ((fun x h => (hk284 x h).elim (fun h => nomatch h) id) x hx))
        have p_iD000284_i10 : ∀ x ∈ blkL ao284, x ∉ ([g9]) := fun x hx hy => absurd (hM x (mr (mr (mr (ml hy))))) (Nat.not_lt.2 ((fun x h => (hk284 x h).elim (fun h => nomatch h) id) x hx))
        have p_iD000284_i6 : ∀ x ∈ blkL ao284, x ∉ ([g4]) := fun x hx hy => absurd (hM x (mr (mr (mr (mr (ml hy)))))) (Nat.not_lt.2 ((fun x h => (hk284 x h).elim (fun h => nomatch h) id) x hx))
        have p_iD000284_M : ∀ x ∈ blkL ao284, x ∉ M := fun x hx hy => absurd (hM x (mr (mr (mr (mr (mr (hy))))))) (Nat.not_lt.2 ((fun x h => (hk284 x h).elim (fun h => nomatch h) id) x hx))
        have e_iD000284 : ∀ x ∈ blkL ao284, w.heap.size ≤ x := fun x hx => Nat.le_trans hC.size ((fun x h => (hk284 x h).elim (fun h => nomatch h) id) x hx)
        have hM : MS (blkL ao284 ++ (blkL ao278 ++ ([g244] ++ ([g19] ++ ([g9] ++ ([g4] ++ (M))))))) w283 := (MS.app hl284 (hM.chg hc284))
        have hC := hC.trans hc284 (Ok.nil _ _)
        have d_iD000284 : Ok (blkL ao284) ([g9] ++ [g19]) w253.heap.size := fun x hx => .inr (Nat.le_trans hS.size ((fun x h => (hk284 x h).elim (fun h => nomatch h) id) x hx))
        have hS := hS.trans hc284 (Ok.nil _ _)
        have f284 := hO284.chg (M' := blkL ao284 ++ (blkL ao278 ++ ([g244] ++ ([g19] ++ ([g9] ++ ([g4] ++ (M))))))) (Chg.refl [] _) (Ok.nil _ _) (Ok.app (fun _ h => .inl (ml h)) (Ok.to (Ok.refl _ _) (fun _ h => mr h))) (fun _ _ h => nomatch h) (fun _ h => ml h)
        refine ae hK281 hS ?_; clear hK281 K281
        refine tkpz 5 0 (.pointer (some ⟨g19, 20, none⟩)) ha (s := hS) (q := fun a ha => ?_)
        refine ac 6 (by kernel_rfl) (by rfl) fun K285 hK285 => ?_
        refine st ha rfl rfl rfl (by kernel_rfl) rfl rfl hBg19 (Nat.le_of_ble_eq_true (by kernel_rfl)) fun a w286 ha hb2 hc287 _ => ?_
        have o1 : Ok [g19] (blkL ao284 ++ (blkL ao278 ++ ([g244] ++ ([g19] ++ ([g9] ++ ([g4] ++ (M))))))) w283.heap.size := (fun _ h => .inl (mr (mr (mr (ml h)))))
        have o2 : Ok (blkL ao284 ++ (blkL ao278 ++ ([g244] ++ ([g19] ++ ([g9] ++ ([g4] ++ (M))))))) (blkL ao284 ++ (blkL ao278 ++ ([g244] ++ ([g19] ++ ([g9] ++ ([g4] ++ (M))))))) w283.heap.size := (Ok.refl _ _)
        have f278 := f278.chg hc287 o1 o2 p_iD000278_i21 (fun _ h => mr (ml h))
        have f284 := f284.chg hc287 o1 o2 p_iD000284_i21 (fun _ h => ml h)
        have f279 := f279.chg hc287 o1 o2
        have hBg4 := hBg4.chg hc287 ((fun x (hx : x ∈ [g4]) (hy : x ∈ [g19]) => p_i21_i6 x hy hx) g4 (by simp))
        have hBg9 := hBg9.chg hc287 ((fun x (hx : x ∈ [g9]) (hy : x ∈ [g19]) => p_i21_i10 x hy hx) g9 (by simp))
        have hBg244 := hBg244.chg hc287 (p_i246_i21 g244 (by simp))
        have hM : MS (blkL ao284 ++ (blkL ao278 ++ ([g244] ++ ([g19] ++ ([g9] ++ ([g4] ++ (M))))))) w286 := (hM.chg hc287)
        have hC := hC.trans hc287 (fun x h => .inr (e_i21 x h))
        have hS := hS.trans hc287 (fun x h => .inl ((List.mem_append_right _ h)))
        have hBg19 : Box w286 g19 (cS_api_Tunnel (⟨t13.1 == (1 : Int), t16.1, t28.1, t242.1, (([] : List Int) ++ t277.1)⟩ : S_api_Tunnel) ao284 cap284) := hb2
        refine ae hK285 hS ?_; clear hK285 K285
        refine dn (by kernel_rfl) ?_
        obtain rfl := Option.some.inj H
        have o1 : Ok [] (blkL ao284 ++ (blkL ao278 ++ ([g244] ++ ([g19] ++ ([g9] ++ ([g4] ++ (M))))))) w286.heap.size := Ok.nil _ _
        have o2 : Ok (blkL ao284 ++ ([g244] ++ ([g19] ++ ([g9] ++ ([g4] ++ (M)))))) (blkL ao284 ++ (blkL ao278 ++ ([g244] ++ ([g19] ++ ([g9] ++ ([g4] ++ (M))))))) w286.heap.size := (Ok.app (fun _ h => .inl (ml h)) (fun _ h => .inl (mr (mr (h)))))
        have f279 := f279.chg (Chg.refl [] _) o1 o2
        have f284 := f284.chg (Chg.refl [] _) o1 o2 (fun _ _ h => nomatch h) (fun _ h => ml h)
        have hBg4 := hBg4.chg (Chg.refl [] _) (fun h => nomatch h)
        have hBg9 := hBg9.chg (Chg.refl [] _) (fun h => nomatch h)
        have hBg19 := hBg19.chg (Chg.refl [] _) (fun h => nomatch h)
        have hBg244 := hBg244.chg (Chg.refl [] _) (fun h => nomatch h)
        have hM : MS (blkL ao284 ++ ([g244] ++ ([g19] ++ ([g9] ++ ([g4] ++ (M)))))) w286 := (MS.app (fun x h => hM.chg (Chg.refl [] _) x (ml h)) (fun x h => hM.chg (Chg.refl [] _) x (mr (mr (h)))))
        have hC := hC.trans (Chg.refl [] _) (Ok.nil _ _)
        exact J258 _ _ ao279 cap279 ao284 cap284 (ha.sel (by kernel_rfl)) f279 f284 hBg4 hBg9 hBg19 hBg244 e_iD000284 p_iD000284_i246 p_iD000284_i21 p_iD000284_i10 p_iD000284_i6 p_iD000284_M hC hM
      have H := H253
      refine wp_seq_k fun K288 hK288 => ?_
      refine wp_region_lit ?_
      obtain ⟨s289, H289, H⟩ := bind_some H
      have J289 : ∀ (a : Act) (w289 : World), Has a Tryd.f52.ntmps [(2, .pointer (some ⟨g4, 0, none⟩)), (3, .pointer (some ⟨g9, 0, none⟩)), (5, .pointer (some ⟨g19, 0, none⟩)), (75, .bool s289)] → (RSl (rInt .u8) 5 w289 ([g244] ++ ([g19] ++ ([g9] ++ ([g4] ++ (M))))) ao241 cap241 t239.2.B) → (Box w289 g4 (cS_api_Tunnel (⟨false, (0 : Int), (0 : Int), (⟨(0 : Int), (List.replicate 16 (0 : Int))⟩ : S_api_Addr), ([] : List Int)⟩ : S_api_Tunnel) none 0)) → (Box w289 g9 (cS_vineryref01_Reader t239.2 ao241 cap241)) → (Box w289 g19 (cS_api_Tunnel (⟨t13.1 == (1 : Int), t16.1, t28.1, t242.1, ([] : List Int)⟩ : S_api_Tunnel) none 0)) → (Box w289 g244 (cS_api_Addr t242.1)) → (Chg [] w w289) → (MS ([g244] ++ ([g19] ++ ([g9] ++ ([g4] ++ (M))))) w289) → K288 a w289 := by
       intro a w289 ha f241 hBg4 hBg9 hBg19 hBg244 hC hM
       refine hK288 _ _ ?_; try clear hK288 K288
       refine cnd ha rfl (fun hc290 => ?_) (fun hc290 => ?_)
       ·have H := ite_t hc290 H
        refine wp_region_lit ?_
        refine seg ha 1 [(2, .pointer (some ⟨g4, 0, none⟩)), (3, .pointer (some ⟨g9, 0, none⟩)), (5, .pointer (some ⟨g19, 0, none⟩)), (76, .pointer (some ⟨g9, 0, none⟩))] (by kernel_rfl) fun a ha => ?_
        obtain ⟨t291, H291, H⟩ := bind_some H
        refine cl ha (by rfl) (by kernel_rfl) (by rfl) (by rfl) (by rfl) (vineryref01_Reader_Take.walk w289 _ hM g9 t239.2 ao241 cap241 f241 hBg9 (mr (mr (ml (List.mem_singleton.2 rfl)))) (2 : Int) _ H291) ?_
        rintro _ w291 ⟨ao292, cap292, ao293, cap293, rfl, f292, f293, qhBg9, ne_i292, hc291, hMn⟩ a ha
        have o1 : Ok [g9] ([g244] ++ ([g19] ++ ([g9] ++ ([g4] ++ (M))))) w289.heap.size := (fun _ h => .inl (mr (mr (ml h))))
        have o2 : Ok (blkL ao292 ++ ([g244] ++ ([g19] ++ ([g9] ++ ([g4] ++ (M)))))) ([g244] ++ ([g19] ++ ([g9] ++ ([g4] ++ (M))))) w289.heap.size := (Ok.app (fun x h => .inr (ne_i292 x h)) (Ok.refl _ _))
        have f241 := f241.chg hc291 o1 o2
        have hBg4 := hBg4.chg hc291 ((fun x (hx : x ∈ [g4]) (hy : x ∈ [g9]) => p_i10_i6 x hy hx) g4 (by simp))
        have hBg19 := hBg19.chg hc291 (p_i21_i10 g19 (by simp))
        have hBg244 := hBg244.chg hc291 (p_i246_i10 g244 (by simp))
        have p_i292_i246 : ∀ x ∈ blkL ao292, x ∉ ([g244]) := fun x hx hy => absurd (hM x (ml hy)) (Nat.not_lt.2 (ne_i292 x hx))
        have p_i292_i21 : ∀ x ∈ blkL ao292, x ∉ ([g19]) := fun x hx hy => absurd (hM x (mr (ml hy))) (Nat.not_lt.2 (ne_i292 x hx))
        have p_i292_i10 : ∀ x ∈ blkL ao292, x ∉ ([g9]) := fun x hx hy => absurd (hM x (mr (mr (ml hy)))) (Nat.not_lt.2 (ne_i292 x hx))
        have p_i292_i6 : ∀ x ∈ blkL ao292, x ∉ ([g4]) := fun x hx hy => absurd (hM x (mr (mr (mr (ml hy))))) (Nat.not_lt.2 (ne_i292 x hx))
        have p_i292_M : ∀ x ∈ blkL ao292, x ∉ M := fun x hx hy => absurd (hM x (mr (mr (mr (mr (hy)))))) (Nat.not_lt.2 (ne_i292 x hx))
        have e_i292 : ∀ x ∈ blkL ao292, w.heap.size ≤ x := fun x hx => Nat.le_trans hC.size (ne_i292 x hx)
        have hM : MS (blkL ao292 ++ ([g244] ++ ([g19] ++ ([g9] ++ ([g4] ++ (M)))))) w291 := (MS.app (fun x h => hMn x (ml h)) (hM.chg hc291))
        have hC := hC.trans hc291 (fun x h => .inr (e_i10 x h))
        have hBg9 := qhBg9
        obtain rfl := Option.some.inj H
        have o1 : Ok [] (blkL ao292 ++ ([g244] ++ ([g19] ++ ([g9] ++ ([g4] ++ (M)))))) w291.heap.size := Ok.nil _ _
        have o2 : Ok ([g244] ++ ([g19] ++ ([g9] ++ ([g4] ++ (M))))) (blkL ao292 ++ ([g244] ++ ([g19] ++ ([g9] ++ ([g4] ++ (M)))))) w291.heap.size := (fun _ h => .inl (mr (h)))
        have f293 := f293.chg (Chg.refl [] _) o1 o2
        have hBg4 := hBg4.chg (Chg.refl [] _) (fun h => nomatch h)
        have hBg9 := hBg9.chg (Chg.refl [] _) (fun h => nomatch h)
        have hBg19 := hBg19.chg (Chg.refl [] _) (fun h => nomatch h)
        have hBg244 := hBg244.chg (Chg.refl [] _) (fun h => nomatch h)
        have hM : MS ([g244] ++ ([g19] ++ ([g9] ++ ([g4] ++ (M))))) w291 := (fun x h => hM.chg (Chg.refl [] _) x (mr (h)))
        have hC := hC.trans (Chg.refl [] _) (Ok.nil _ _)
        exact J253 _ _ ao293 cap293 (ha.sel (by kernel_rfl)) f293 hBg4 hBg9 hBg19 hBg244 hC hM
       ·have H := ite_f hc290 H
        refine wp_skip ?_
        obtain rfl := Option.some.inj H
        exact J253 _ _ ao241 cap241 (ha.sel (by kernel_rfl)) f241 hBg4 hBg9 hBg19 hBg244 hC hM
      have H := H289
      refine seg ha 1 [(2, .pointer (some ⟨g4, 0, none⟩)), (3, .pointer (some ⟨g9, 0, none⟩)), (5, .pointer (some ⟨g19, 0, none⟩)), (68, .pointer (some ⟨g19, 1, none⟩))] (by kernel_rfl) fun a ha => ?_
      refine ld (v := .int .i64 t16.1) ha rfl (by kernel_rfl) rfl rfl rfl (hBg19.cell' (o := 1) rfl (by kernel_rfl)) fun a ha => ?_
      refine seg ha 2 [(71, .bool (t16.1 == (2 : Int))), (2, .pointer (some ⟨g4, 0, none⟩)), (3, .pointer (some ⟨g9, 0, none⟩)), (5, .pointer (some ⟨g19, 0, none⟩))] (by kernel_rfl) fun a ha => ?_
      rcases Bool.eq_false_or_eq_true (t16.1 == (2 : Int)) with hb294 | hb294
      ·have ha := ha.lit hb294
       have H := ite_t hb294 H
       refine sgh ha 4 [1, 1, 1, 3] [(2, .pointer (some ⟨g4, 0, none⟩)), (3, .pointer (some ⟨g9, 0, none⟩)), (5, .pointer (some ⟨g19, 0, none⟩)), (75, .bool true)] (by kernel_rfl) fun a ha => ?_
       obtain rfl := Option.some.inj H
       have o1 : Ok [] ([g244] ++ (blkL ao240 ++ ([g19] ++ ([g9] ++ ([g4] ++ (M)))))) w250.heap.size := Ok.nil _ _
       have o2 : Ok ([g244] ++ ([g19] ++ ([g9] ++ ([g4] ++ (M))))) ([g244] ++ (blkL ao240 ++ ([g19] ++ ([g9] ++ ([g4] ++ (M)))))) w250.heap.size := (Ok.app (fun _ h => .inl (ml h)) (fun _ h => .inl (mr (mr (h)))))
       have f241 := f241.chg (Chg.refl [] _) o1 o2
       have hBg4 := hBg4.chg (Chg.refl [] _) (fun h => nomatch h)
       have hBg9 := hBg9.chg (Chg.refl [] _) (fun h => nomatch h)
       have hBg19 := hBg19.chg (Chg.refl [] _) (fun h => nomatch h)
       have hBg244 := hBg244.chg (Chg.refl [] _) (fun h => nomatch h)
       have hM : MS ([g244] ++ ([g19] ++ ([g9] ++ ([g4] ++ (M))))) w250 := (MS.app (fun x h => hM.chg (Chg.refl [] _) x (ml h)) (fun x h => hM.chg (Chg.refl [] _) x (mr (mr (h)))))
       have hC := hC.trans (Chg.refl [] _) (Ok.nil _ _)
       exact J289 _ _ (ha.sel (by kernel_rfl)) f241 hBg4 hBg9 hBg19 hBg244 hC hM
      ·have ha := ha.lit hb294
       have H := ite_f hb294 H
       refine sgh ha 1 [2] [(2, .pointer (some ⟨g4, 0, none⟩)), (3, .pointer (some ⟨g9, 0, none⟩)), (5, .pointer (some ⟨g19, 0, none⟩)), (71, .bool false), (72, .pointer (some ⟨g19, 1, none⟩))] (by kernel_rfl) fun a ha => ?_
       refine ld (v := .int .i64 t16.1) ha rfl (by kernel_rfl) rfl rfl rfl (hBg19.cell' (o := 1) rfl (by kernel_rfl)) fun a ha => ?_
       refine sgh ha 2 [2, 4] [(2, .pointer (some ⟨g4, 0, none⟩)), (3, .pointer (some ⟨g9, 0, none⟩)), (5, .pointer (some ⟨g19, 0, none⟩)), (75, .bool (t16.1 == (7 : Int)))] (by kernel_rfl) fun a ha => ?_
       obtain rfl := Option.some.inj H
       have o1 : Ok [] ([g244] ++ (blkL ao240 ++ ([g19] ++ ([g9] ++ ([g4] ++ (M)))))) w250.heap.size := Ok.nil _ _
       have o2 : Ok ([g244] ++ ([g19] ++ ([g9] ++ ([g4] ++ (M))))) ([g244] ++ (blkL ao240 ++ ([g19] ++ ([g9] ++ ([g4] ++ (M)))))) w250.heap.size := (Ok.app (fun _ h => .inl (ml h)) (fun _ h => .inl (mr (mr (h)))))
       have f241 := f241.chg (Chg.refl [] _) o1 o2
       have hBg4 := hBg4.chg (Chg.refl [] _) (fun h => nomatch h)
       have hBg9 := hBg9.chg (Chg.refl [] _) (fun h => nomatch h)
       have hBg19 := hBg19.chg (Chg.refl [] _) (fun h => nomatch h)
       have hBg244 := hBg244.chg (Chg.refl [] _) (fun h => nomatch h)
       have hM : MS ([g244] ++ ([g19] ++ ([g9] ++ ([g4] ++ (M))))) w250 := (MS.app (fun x h => hM.chg (Chg.refl [] _) x (ml h)) (fun x h => hM.chg (Chg.refl [] _) x (mr (mr (h)))))
       have hC := hC.trans (Chg.refl [] _) (Ok.nil _ _)
       exact J289 _ _ (ha.sel (by kernel_rfl)) f241 hBg4 hBg9 hBg19 hBg244 hC hM
    have H := H179
    refine wp_seq_k fun K295 hK295 => ?_
    refine wp_region_lit ?_
    refine seg ha 2 [(2, .pointer (some ⟨g4, 0, none⟩)), (3, .pointer (some ⟨g9, 0, none⟩)), (5, .pointer (some ⟨g19, 0, none⟩)), (9, .int .i64 t33), (34, .int .i64 t16.1), (53, .bool (t16.1 == (3 : Int)))] (by kernel_rfl) fun a ha => ?_
    refine hK295 _ _ ?_; try clear hK295 K295
    refine cnd ha rfl (fun hc296 => ?_) (fun hc296 => ?_)
    ·have H := ite_t hc296 H
     refine wp_skip ?_
     obtain rfl := Option.some.inj H
     exact J179 _ _ (ha.sel (by kernel_rfl)) f27 hBg4 hBg9 hBg19 hC hM
    ·have H := ite_f hc296 H
     refine wp_seq_k fun K297 hK297 => ?_
     refine wp_region_lit ?_
     refine seg ha 2 [(2, .pointer (some ⟨g4, 0, none⟩)), (3, .pointer (some ⟨g9, 0, none⟩)), (5, .pointer (some ⟨g19, 0, none⟩)), (9, .int .i64 t33), (34, .int .i64 t16.1), (53, .bool (t16.1 == (4 : Int)))] (by kernel_rfl) fun a ha => ?_
     refine hK297 _ _ ?_; try clear hK297 K297
     refine cnd ha rfl (fun hc298 => ?_) (fun hc298 => ?_)
     ·have H := ite_t hc298 H
      refine wp_skip ?_
      obtain rfl := Option.some.inj H
      exact J179 _ _ (ha.sel (by kernel_rfl)) f27 hBg4 hBg9 hBg19 hC hM
     ·have H := ite_f hc298 H
      refine wp_region_lit ?_
      refine seg ha 2 [(2, .pointer (some ⟨g4, 0, none⟩)), (3, .pointer (some ⟨g9, 0, none⟩)), (5, .pointer (some ⟨g19, 0, none⟩)), (9, .int .i64 t33), (53, .bool (t16.1 == (5 : Int)))] (by kernel_rfl) fun a ha => ?_
      obtain rfl := Option.some.inj H
      exact J179 _ _ (ha.sel (by kernel_rfl)) f27 hBg4 hBg9 hBg19 hC hM
  have H := H113
  refine wp_seq_k fun K299 hK299 => ?_
  refine wp_region_lit ?_
  refine seg ha 2 [(2, .pointer (some ⟨g4, 0, none⟩)), (3, .pointer (some ⟨g9, 0, none⟩)), (5, .pointer (some ⟨g19, 0, none⟩)), (9, .int .i64 t33), (34, .int .i64 t16.1), (46, .bool (t16.1 == (2 : Int)))] (by kernel_rfl) fun a ha => ?_
  refine hK299 _ _ ?_; try clear hK299 K299
  refine cnd ha rfl (fun hc300 => ?_) (fun hc300 => ?_)
  ·have H := ite_t hc300 H
   refine wp_skip ?_
   obtain rfl := Option.some.inj H
   have o1 : Ok [] (blkL ao26 ++ ([g19] ++ ([g9] ++ ([g4] ++ (M))))) w33.heap.size := Ok.nil _ _
   have o2 : Ok ([g19] ++ ([g9] ++ ([g4] ++ (M)))) (blkL ao26 ++ ([g19] ++ ([g9] ++ ([g4] ++ (M))))) w33.heap.size := (fun _ h => .inl (mr (h)))
   have f27 := f27.chg (Chg.refl [] _) o1 o2
   have hBg4 := hBg4.chg (Chg.refl [] _) (fun h => nomatch h)
   have hBg9 := hBg9.chg (Chg.refl [] _) (fun h => nomatch h)
   have hBg19 := hBg19.chg (Chg.refl [] _) (fun h => nomatch h)
   have hM : MS ([g19] ++ ([g9] ++ ([g4] ++ (M)))) w33 := (fun x h => hM.chg (Chg.refl [] _) x (mr (h)))
   have hC := hC.trans (Chg.refl [] _) (Ok.nil _ _)
   exact J113 _ _ (ha.sel (by kernel_rfl)) f27 hBg4 hBg9 hBg19 hC hM
  ·have H := ite_f hc300 H
   refine wp_region_lit ?_
   refine seg ha 2 [(2, .pointer (some ⟨g4, 0, none⟩)), (3, .pointer (some ⟨g9, 0, none⟩)), (5, .pointer (some ⟨g19, 0, none⟩)), (9, .int .i64 t33), (34, .int .i64 t16.1), (46, .bool (t16.1 == (7 : Int)))] (by kernel_rfl) fun a ha => ?_
   obtain rfl := Option.some.inj H
   have o1 : Ok [] (blkL ao26 ++ ([g19] ++ ([g9] ++ ([g4] ++ (M))))) w33.heap.size := Ok.nil _ _
   have o2 : Ok ([g19] ++ ([g9] ++ ([g4] ++ (M)))) (blkL ao26 ++ ([g19] ++ ([g9] ++ ([g4] ++ (M))))) w33.heap.size := (fun _ h => .inl (mr (h)))
   have f27 := f27.chg (Chg.refl [] _) o1 o2
   have hBg4 := hBg4.chg (Chg.refl [] _) (fun h => nomatch h)
   have hBg9 := hBg9.chg (Chg.refl [] _) (fun h => nomatch h)
   have hBg19 := hBg19.chg (Chg.refl [] _) (fun h => nomatch h)
   have hM : MS ([g19] ++ ([g9] ++ ([g4] ++ (M)))) w33 := (fun x h => hM.chg (Chg.refl [] _) x (mr (h)))
   have hC := hC.trans (Chg.refl [] _) (Ok.nil _ _)
   exact J113 _ _ (ha.sel (by kernel_rfl)) f27 hBg4 hBg9 hBg19 hC hM
def vineryref06_Parse.f (k : Nat) (a0 : List Int) : Option (S_api_Tunnel × Int) := (vineryref06_rough.f k a0).bind fun t8 => (vineryref06_Bytes.f k t8).bind fun t17 => ((if (t17.2 != (0 : Int)) = true then some (true : Bool) else some (!((bstr (b2s t17.1)).toList == (bstr (b2s a0)).toList) : Bool))).bind fun s21 => (if s21 = true then some (((⟨false, (0 : Int), (0 : Int), (⟨(0 : Int), (List.replicate 16 (0 : Int))⟩ : S_api_Addr), ([] : List Int)⟩ : S_api_Tunnel) : S_api_Tunnel), ((4 : Int) : Int)) else some ((t8 : S_api_Tunnel), ((0 : Int) : Int)))
set_option maxRecDepth 100000 in
theorem vineryref06_Parse.walk (w : World) (M : List Nat) (hM : MS M w) (a0 : List Int) (ao1 : Option Addr) (cap1 : Nat) (f1 : RSl (rInt .u8) 5 w M ao1 cap1 a0) (k : Nat) (r : S_api_Tunnel × Int) (H : vineryref06_Parse.f k a0 = some r) :
    To Tryd.prog 18 [.slice ao1 a0.length cap1] w fun v w' => ∃ (ao31 : Option Addr) (cap31 : Nat), v = .tuple #[.agg (cS_api_Tunnel r.1 ao31 cap31).toArray, .int .i64 r.2] ∧ (Own (rInt .u8) 5 w' (blkL ao31 ++ (M)) ao31 cap31 r.1.Id) ∧ (∀ x ∈ blkL ao31, w.heap.size ≤ x) ∧ Chg [] w w' ∧ MS (blkL ao31 ++ (M)) w' := by
 unfold vineryref06_Parse.f at H
 refine ent Tryd.func18 rfl [(0, .slice ao1 a0.length cap1)] rfl (by rfl) fun a ha => ?_
 have hC : Chg [] w w := Chg.refl _ _
 refine wp_seq_k fun K2 hK2 => ?_
 refine wp_region_lit ?_
 refine al (cs := (cS_api_Tunnel (⟨false, (0 : Int), (0 : Int), (⟨(0 : Int), (List.replicate 16 (0 : Int))⟩ : S_api_Addr), ([] : List Int)⟩ : S_api_Tunnel) none 0)) (z := .agg (cS_api_Tunnel (⟨false, (0 : Int), (0 : Int), (⟨(0 : Int), (List.replicate 16 (0 : Int))⟩ : S_api_Addr), ([] : List Int)⟩ : S_api_Tunnel) none 0).toArray) ha (fun w => by kernel_rfl) rfl rfl rfl rfl fun a w3 g4 hN5 ha => ?_
 have o1 : Ok [] (M) w.heap.size := Ok.nil _ _
 have o2 : Ok ([g4] ++ (M)) (M) w.heap.size := (Ok.app (hN5.ok _) (Ok.refl _ _))
 have f1 := f1.chg hN5.chg o1 o2
 have p_i6_M : ∀ x ∈ [g4], x ∉ M := fun x hx hy => absurd (hM x (hy)) (Nat.not_lt.2 ((hN5.ge1) x hx))
 have e_i6 : ∀ x ∈ [g4], w.heap.size ≤ x := fun x hx => Nat.le_trans hC.size ((hN5.ge1) x hx)
 have hM : MS ([g4] ++ (M)) w3 := (MS.app hN5.ms (hM.chg hN5.chg))
 have hC := hC.trans hN5.chg (Ok.nil _ _)
 have hBg4 : Box w3 g4 (cS_api_Tunnel (⟨false, (0 : Int), (0 : Int), (⟨(0 : Int), (List.replicate 16 (0 : Int))⟩ : S_api_Addr), ([] : List Int)⟩ : S_api_Tunnel) none 0) := hN5.box
 refine seg ha 1 [(0, .slice ao1 a0.length cap1), (2, .pointer (some ⟨g4, 0, none⟩))] (by kernel_rfl) fun a ha => ?_
 refine hK2 _ _ ?_; try clear hK2 K2
 refine wp_seq_k fun K7 hK7 => ?_
 refine wp_region_lit ?_
 refine seg ha 1 [(0, .slice ao1 a0.length cap1), (2, .pointer (some ⟨g4, 0, none⟩)), (7, .slice ao1 a0.length cap1)] (by kernel_rfl) fun a ha => ?_
 obtain ⟨t8, H8, H⟩ := bind_some H
 refine cl ha (by rfl) (by kernel_rfl) (by rfl) (by rfl) (by rfl) (vineryref06_rough.walk w3 _ hM a0 ao1 cap1 f1 k _ H8) ?_
 rintro _ w8 ⟨ao9, cap9, rfl, f9, ne_i9, hc8, hMn⟩ a ha
 have o1 : Ok [] ([g4] ++ (M)) w3.heap.size := Ok.nil _ _
 have o2 : Ok (blkL ao9 ++ ([g4] ++ (M))) ([g4] ++ (M)) w3.heap.size := (Ok.app (fun x h => .inr (ne_i9 x h)) (Ok.refl _ _))
 have f1 := f1.chg hc8 o1 o2
 have hBg4 := hBg4.chg hc8 (fun h => nomatch h)
 have p_i9_i6 : ∀ x ∈ blkL ao9, x ∉ ([g4]) := fun x hx hy => absurd (hM x (ml hy)) (Nat.not_lt.2 (ne_i9 x hx))
 have p_i9_M : ∀ x ∈ blkL ao9, x ∉ M := fun x hx hy => absurd (hM x (mr (hy))) (Nat.not_lt.2 (ne_i9 x hx))
 have e_i9 : ∀ x ∈ blkL ao9, w.heap.size ≤ x := fun x hx => Nat.le_trans hC.size (ne_i9 x hx)
 have hM : MS (blkL ao9 ++ ([g4] ++ (M))) w8 := (MS.app (fun x h => hMn x (ml h)) (hM.chg hc8))
 have hC := hC.trans hc8 (Ok.nil _ _)
 refine al (cs := (cS_api_Tunnel (⟨false, (0 : Int), (0 : Int), (⟨(0 : Int), (List.replicate 16 (0 : Int))⟩ : S_api_Addr), ([] : List Int)⟩ : S_api_Tunnel) none 0)) (z := .agg (cS_api_Tunnel (⟨false, (0 : Int), (0 : Int), (⟨(0 : Int), (List.replicate 16 (0 : Int))⟩ : S_api_Addr), ([] : List Int)⟩ : S_api_Tunnel) none 0).toArray) ha (fun w => by kernel_rfl) rfl rfl rfl rfl fun a w10 g11 hN12 ha => ?_
 have o1 : Ok [] (blkL ao9 ++ ([g4] ++ (M))) w8.heap.size := Ok.nil _ _
 have o2 : Ok ([g11] ++ (blkL ao9 ++ ([g4] ++ (M)))) (blkL ao9 ++ ([g4] ++ (M))) w8.heap.size := (Ok.app (hN12.ok _) (Ok.refl _ _))
 have f1 := f1.chg hN12.chg o1 o2
 have f9 := f9.chg hN12.chg o1 o2 (fun _ _ h => nomatch h) (fun _ h => mr (ml h))
 have hBg4 := hBg4.chg hN12.chg (fun h => nomatch h)
 have p_i13_i9 : ∀ x ∈ [g11], x ∉ (blkL ao9) := fun x hx hy => absurd (hM x (ml hy)) (Nat.not_lt.2 ((hN12.ge1) x hx))
 have p_i13_i6 : ∀ x ∈ [g11], x ∉ ([g4]) := fun x hx hy => absurd (hM x (mr (ml hy))) (Nat.not_lt.2 ((hN12.ge1) x hx))
 have p_i13_M : ∀ x ∈ [g11], x ∉ M := fun x hx hy => absurd (hM x (mr (mr (hy)))) (Nat.not_lt.2 ((hN12.ge1) x hx))
 have e_i13 : ∀ x ∈ [g11], w.heap.size ≤ x := fun x hx => Nat.le_trans hC.size ((hN12.ge1) x hx)
 have hM : MS ([g11] ++ (blkL ao9 ++ ([g4] ++ (M)))) w10 := (MS.app hN12.ms (hM.chg hN12.chg))
 have hC := hC.trans hN12.chg (Ok.nil _ _)
 have hBg11 : Box w10 g11 (cS_api_Tunnel (⟨false, (0 : Int), (0 : Int), (⟨(0 : Int), (List.replicate 16 (0 : Int))⟩ : S_api_Addr), ([] : List Int)⟩ : S_api_Tunnel) none 0) := hN12.box
 refine stA (l := (cS_api_Tunnel t8 ao9 cap9)) ha rfl rfl rfl (by kernel_rfl) rfl rfl hBg11 rfl fun a w14 ha hb2 hc15 _ => ?_
 have o1 : Ok [g11] ([g11] ++ (blkL ao9 ++ ([g4] ++ (M)))) w10.heap.size := (fun _ h => .inl (ml h))
 have o2 : Ok ([g11] ++ (blkL ao9 ++ ([g4] ++ (M)))) ([g11] ++ (blkL ao9 ++ ([g4] ++ (M)))) w10.heap.size := (Ok.refl _ _)
 have f1 := f1.chg hc15 o1 o2
 have f9 := f9.chg hc15 o1 o2 (fun x (hx : x ∈ blkL ao9) (hy : x ∈ [g11]) => p_i13_i9 x hy hx) (fun _ h => mr (ml h))
 have hBg4 := hBg4.chg hc15 ((fun x (hx : x ∈ [g4]) (hy : x ∈ [g11]) => p_i13_i6 x hy hx) g4 (by simp))
 have hM : MS ([g11] ++ (blkL ao9 ++ ([g4] ++ (M)))) w14 := (hM.chg hc15)
 have hC := hC.trans hc15 (fun x h => .inr (e_i13 x h))
 have hBg11 : Box w14 g11 (cS_api_Tunnel t8 ao9 cap9) := hb2
 refine hK7 _ _ ?_; try clear hK7 K7
 refine wp_seq_k fun K16 hK16 => ?_
 refine wp_region_lit ?_
 refine ldA (cs := (cS_api_Tunnel t8 ao9 cap9)) ha rfl (by kernel_rfl) rfl rfl rfl (cells_sub (Box.cells hBg11) (all := (cS_api_Tunnel t8 ao9 cap9)) [] [] (by kernel_rfl)) fun a ha => ?_
 have hML : MS ([g11] ++ ([g4] ++ (M))) w14 := MS.rest hM (fun _ h => (List.mem_append.1 h).elim (fun h => ml h) (fun h => (List.mem_append.1 h).elim (fun h => mr (mr (ml h))) (fun h => mr (mr (mr (h))))))
 have oL : Ok ([g11] ++ ([g4] ++ (M))) ([g11] ++ (blkL ao9 ++ ([g4] ++ (M)))) w14.heap.size := (Ok.app (fun _ h => .inl (ml h)) (fun _ h => .inl (mr (mr (h)))))
 obtain ⟨t17, H17, H⟩ := bind_some H
 refine cl ha (by rfl) (by kernel_rfl) (by rfl) (by rfl) (by rfl) (vineryref06_Bytes.walk w14 _ hML t8 ao9 cap9 (Own.toRSl (M' := [g11] ++ ([g4] ++ (M))) f9 oL (fun x hx hm => (List.mem_append.1 hm).elim (fun h => (fun x hx hy => p_i13_i9 x hy hx) x hx h) (fun h => (List.mem_append.1 h).elim (fun h => p_i9_i6 x hx h) (fun h => p_i9_M x hx h)))) k _ H17) ?_
 rintro _ w17 ⟨ao18, cap18, rfl, f18, ne_i18, hc17, hMn⟩ a ha
 have o1 : Ok [] ([g11] ++ (blkL ao9 ++ ([g4] ++ (M)))) w14.heap.size := Ok.nil _ _
 have o2 : Ok (blkL ao18 ++ ([g11] ++ (blkL ao9 ++ ([g4] ++ (M))))) ([g11] ++ (blkL ao9 ++ ([g4] ++ (M)))) w14.heap.size := (Ok.app (fun x h => .inr (ne_i18 x h)) (Ok.refl _ _))
 have f1 := f1.chg hc17 o1 o2
 have f9 := f9.chg hc17 o1 o2 (fun _ _ h => nomatch h) (fun _ h => mr (mr (ml h)))
 have hBg4 := hBg4.chg hc17 (fun h => nomatch h)
 have hBg11 := hBg11.chg hc17 (fun h => nomatch h)
 have p_i18_i13 : ∀ x ∈ blkL ao18, x ∉ ([g11]) := fun x hx hy => absurd (hM x (ml hy)) (Nat.not_lt.2 (ne_i18 x hx))
 have p_i18_i9 : ∀ x ∈ blkL ao18, x ∉ (blkL ao9) := fun x hx hy => absurd (hM x (mr (ml hy))) (Nat.not_lt.2 (ne_i18 x hx))
 have p_i18_i6 : ∀ x ∈ blkL ao18, x ∉ ([g4]) := fun x hx hy => absurd (hM x (mr (mr (ml hy)))) (Nat.not_lt.2 (ne_i18 x hx))
 have p_i18_M : ∀ x ∈ blkL ao18, x ∉ M := fun x hx hy => absurd (hM x (mr (mr (mr (hy))))) (Nat.not_lt.2 (ne_i18 x hx))
 have e_i18 : ∀ x ∈ blkL ao18, w.heap.size ≤ x := fun x hx => Nat.le_trans hC.size (ne_i18 x hx)
 have hM : MS (blkL ao18 ++ ([g11] ++ (blkL ao9 ++ ([g4] ++ (M))))) w17 := (MS.app (fun x h => hMn x (ml h)) (hM.chg hc17))
 have hC := hC.trans hc17 (Ok.nil _ _)
 have f18 := Own.re (M' := blkL ao18 ++ ([g11] ++ (blkL ao9 ++ ([g4] ++ (M))))) (fun _ _ _ _ _ h => h) f18 (fun _ h => ml h)
 refine seg ha 5 [(0, .slice ao1 a0.length cap1), (2, .pointer (some ⟨g4, 0, none⟩)), (4, .pointer (some ⟨g11, 0, none⟩)), (5, .slice ao18 t17.1.length cap18), (6, .int .i64 t17.2)] (by kernel_rfl) fun a ha => ?_
 refine hK16 _ _ ?_; try clear hK16 K16
 refine wp_seq_k fun K19 hK19 => ?_
 refine wp_seq_k fun K20 hK20 => ?_
 refine wp_region_lit ?_
 obtain ⟨s21, H21, H⟩ := bind_some H
 have J21 : ∀ (a : Act) (w21 : World), Has a Tryd.f18.ntmps [(2, .pointer (some ⟨g4, 0, none⟩)), (4, .pointer (some ⟨g11, 0, none⟩)), (22, .bool s21)] → (Own (rInt .u8) 5 w21 ([g11] ++ (blkL ao9 ++ ([g4] ++ (M)))) ao9 cap9 t8.Id) → (Box w21 g4 (cS_api_Tunnel (⟨false, (0 : Int), (0 : Int), (⟨(0 : Int), (List.replicate 16 (0 : Int))⟩ : S_api_Addr), ([] : List Int)⟩ : S_api_Tunnel) none 0)) → (Box w21 g11 (cS_api_Tunnel t8 ao9 cap9)) → (Chg [] w w21) → (MS ([g11] ++ (blkL ao9 ++ ([g4] ++ (M)))) w21) → K20 a w21 := by
  intro a w21 ha f9 hBg4 hBg11 hC hM
  refine hK20 _ _ ?_; try clear hK20 K20
  refine cnd ha rfl (fun hc22 => ?_) (fun hc22 => ?_)
  ·have H := ite_t hc22 H
   refine wp_seq_k fun K23 hK23 => ?_
   refine wp_region_lit ?_
   refine opk (v := .agg (cS_api_Tunnel (⟨false, (0 : Int), (0 : Int), (⟨(0 : Int), (List.replicate 16 (0 : Int))⟩ : S_api_Addr), ([] : List Int)⟩ : S_api_Tunnel) none 0).toArray) ha rfl rfl rfl rfl rfl (fun w => by kernel_rfl) fun a ha => ?_
   refine stA (l := (cS_api_Tunnel (⟨false, (0 : Int), (0 : Int), (⟨(0 : Int), (List.replicate 16 (0 : Int))⟩ : S_api_Addr), ([] : List Int)⟩ : S_api_Tunnel) none 0)) ha rfl rfl rfl (by kernel_rfl) rfl rfl hBg4 rfl fun a w24 ha hb2 hc25 _ => ?_
   have o1 : Ok [g4] ([g11] ++ (blkL ao9 ++ ([g4] ++ (M)))) w21.heap.size := (fun _ h => .inl (mr (mr (ml h))))
   have o2 : Ok ([g11] ++ (blkL ao9 ++ ([g4] ++ (M)))) ([g11] ++ (blkL ao9 ++ ([g4] ++ (M)))) w21.heap.size := (Ok.refl _ _)
   have f9 := f9.chg hc25 o1 o2 p_i9_i6 (fun _ h => mr (ml h))
   have hBg11 := hBg11.chg hc25 (p_i13_i6 g11 (by simp))
   have hM : MS ([g11] ++ (blkL ao9 ++ ([g4] ++ (M)))) w24 := (hM.chg hc25)
   have hC := hC.trans hc25 (fun x h => .inr (e_i6 x h))
   have hBg4 : Box w24 g4 (cS_api_Tunnel (⟨false, (0 : Int), (0 : Int), (⟨(0 : Int), (List.replicate 16 (0 : Int))⟩ : S_api_Addr), ([] : List Int)⟩ : S_api_Tunnel) none 0) := hb2
   refine seg ha 1 [(2, .pointer (some ⟨g4, 0, none⟩)), (3, .int .i64 (4 : Int))] (by kernel_rfl) fun a ha => ?_
   refine hK23 _ _ ?_; try clear hK23 K23
   refine wp_ret ?_
   try simp only [Exit.then, Exit.inBlock]
   have hBg4 := hBg4.chg (Chg.refl [] _) (fun h => nomatch h)
   have hBg11 := hBg11.chg (Chg.refl [] _) (fun h => nomatch h)
   have p_z26_M : ∀ x ∈ blkL none, x ∉ M := fun x hx hy => absurd (hM x (mr (mr (mr (hy))))) (Nat.not_lt.2 ((fun _ h => nomatch h) x hx))
   have e_z26 : ∀ x ∈ blkL none, w.heap.size ≤ x := fun x hx => Nat.le_trans hC.size ((fun _ h => nomatch h) x hx)
   have hM : MS (blkL none ++ (M)) w24 := (MS.app (fun _ h => nomatch h) (fun x h => hM.chg (Chg.refl [] _) x (mr (mr (mr (h))))))
   have hC := hC.trans (Chg.refl [] _) (Ok.nil _ _)
   obtain rfl := Option.some.inj H
   refine rtr ha (res2 rfl (roA ha rfl hBg4 (by kernel_rfl)) (roT ha rfl)) ?_
   exact ⟨none, 0, rfl, Own.nil, e_z26, hC, hM⟩
  ·have H := ite_f hc22 H
   refine wp_skip ?_
   refine hK19 _ _ ?_; try clear hK19 K19
   refine wp_seq_k fun K27 hK27 => ?_
   refine wp_region_lit ?_
   refine ldA (cs := (cS_api_Tunnel t8 ao9 cap9)) ha rfl (by kernel_rfl) rfl rfl rfl (cells_sub (Box.cells hBg11) (all := (cS_api_Tunnel t8 ao9 cap9)) [] [] (by kernel_rfl)) fun a ha => ?_
   refine stA (l := (cS_api_Tunnel t8 ao9 cap9)) ha rfl rfl rfl (by kernel_rfl) rfl rfl hBg4 rfl fun a w28 ha hb2 hc29 _ => ?_
   have o1 : Ok [g4] ([g11] ++ (blkL ao9 ++ ([g4] ++ (M)))) w21.heap.size := (fun _ h => .inl (mr (mr (ml h))))
   have o2 : Ok ([g11] ++ (blkL ao9 ++ ([g4] ++ (M)))) ([g11] ++ (blkL ao9 ++ ([g4] ++ (M)))) w21.heap.size := (Ok.refl _ _)
   have f9 := f9.chg hc29 o1 o2 p_i9_i6 (fun _ h => mr (ml h))
   have hBg11 := hBg11.chg hc29 (p_i13_i6 g11 (by simp))
   have hM : MS ([g11] ++ (blkL ao9 ++ ([g4] ++ (M)))) w28 := (hM.chg hc29)
   have hC := hC.trans hc29 (fun x h => .inr (e_i6 x h))
   have hBg4 : Box w28 g4 (cS_api_Tunnel t8 ao9 cap9) := hb2
   refine seg ha 1 [(2, .pointer (some ⟨g4, 0, none⟩)), (3, .int .i64 (0 : Int))] (by kernel_rfl) fun a ha => ?_
   refine hK27 _ _ ?_; try clear hK27 K27
   refine wp_ret ?_
   try simp only [Exit.then, Exit.inBlock]
   have o1 : Ok [] ([g11] ++ (blkL ao9 ++ ([g4] ++ (M)))) w28.heap.size := Ok.nil _ _
   have o2 : Ok (blkL ao9 ++ (M)) ([g11] ++ (blkL ao9 ++ ([g4] ++ (M)))) w28.heap.size := (Ok.app (fun _ h => .inl (mr (ml h))) (fun _ h => .inl (mr (mr (mr (h))))))
   have f9 := f9.chg (Chg.refl [] _) o1 o2 (fun _ _ h => nomatch h) (fun _ h => ml h)
   have hBg4 := hBg4.chg (Chg.refl [] _) (fun h => nomatch h)
   have hBg11 := hBg11.chg (Chg.refl [] _) (fun h => nomatch h)
   have hM : MS (blkL ao9 ++ (M)) w28 := (MS.app (fun x h => hM.chg (Chg.refl [] _) x (mr (ml h))) (fun x h => hM.chg (Chg.refl [] _) x (mr (mr (mr (h))))))
   have hC := hC.trans (Chg.refl [] _) (Ok.nil _ _)
   obtain rfl := Option.some.inj H
   refine rtr ha (res2 rfl (roA ha rfl hBg4 (by kernel_rfl)) (roT ha rfl)) ?_
   exact ⟨ao9, cap9, rfl, f9, e_i9, hC, hM⟩
 have H := H21
 refine seg ha 3 [(16, .bool (t17.2 != (0 : Int))), (0, .slice ao1 a0.length cap1), (2, .pointer (some ⟨g4, 0, none⟩)), (4, .pointer (some ⟨g11, 0, none⟩)), (5, .slice ao18 t17.1.length cap18)] (by kernel_rfl) fun a ha => ?_
 rcases Bool.eq_false_or_eq_true (t17.2 != (0 : Int)) with hb30 | hb30
 ·have ha := ha.lit hb30
  have H := ite_t hb30 H
  refine sgh ha 6 [1, 1, 1, 1, 1, 3] [(2, .pointer (some ⟨g4, 0, none⟩)), (4, .pointer (some ⟨g11, 0, none⟩)), (22, .bool true)] (by kernel_rfl) fun a ha => ?_
  obtain rfl := Option.some.inj H
  have o1 : Ok [] (blkL ao18 ++ ([g11] ++ (blkL ao9 ++ ([g4] ++ (M))))) w17.heap.size := Ok.nil _ _
  have o2 : Ok ([g11] ++ (blkL ao9 ++ ([g4] ++ (M)))) (blkL ao18 ++ ([g11] ++ (blkL ao9 ++ ([g4] ++ (M))))) w17.heap.size := (fun _ h => .inl (mr (h)))
  have f9 := f9.chg (Chg.refl [] _) o1 o2 (fun _ _ h => nomatch h) (fun _ h => mr (ml h))
  have hBg4 := hBg4.chg (Chg.refl [] _) (fun h => nomatch h)
  have hBg11 := hBg11.chg (Chg.refl [] _) (fun h => nomatch h)
  have hM : MS ([g11] ++ (blkL ao9 ++ ([g4] ++ (M)))) w17 := (fun x h => hM.chg (Chg.refl [] _) x (mr (h)))
  have hC := hC.trans (Chg.refl [] _) (Ok.nil _ _)
  exact J21 _ _ (ha.sel (by kernel_rfl)) f9 hBg4 hBg11 hC hM
 ·have ha := ha.lit hb30
  have H := ite_f hb30 H
  refine sgh ha 1 [2] [(0, .slice ao1 a0.length cap1), (2, .pointer (some ⟨g4, 0, none⟩)), (4, .pointer (some ⟨g11, 0, none⟩)), (16, .bool false), (17, .slice ao18 t17.1.length cap18)] (by kernel_rfl) fun a ha => ?_
  refine cvs ha rfl (by kernel_rfl) (by kernel_rfl) (by kernel_rfl) rfl rfl rfl (Own.toRSl (M' := []) f18 (Ok.nil _ _) (fun _ _ h => nomatch h)) fun a ha => ?_
  refine sgh ha 1 [2] [(2, .pointer (some ⟨g4, 0, none⟩)), (4, .pointer (some ⟨g11, 0, none⟩)), (16, .bool false), (18, .string (bstr (b2s t17.1))), (19, .slice ao1 a0.length cap1)] (by kernel_rfl) fun a ha => ?_
  refine cvs ha rfl (by kernel_rfl) (by kernel_rfl) (by kernel_rfl) rfl rfl rfl f1 fun a ha => ?_
  refine sgh ha 2 [2, 4] [(2, .pointer (some ⟨g4, 0, none⟩)), (4, .pointer (some ⟨g11, 0, none⟩)), (22, .bool (!((bstr (b2s t17.1)).toList == (bstr (b2s a0)).toList)))] (by kernel_rfl) fun a ha => ?_
  obtain rfl := Option.some.inj H
  have o1 : Ok [] (blkL ao18 ++ ([g11] ++ (blkL ao9 ++ ([g4] ++ (M))))) w17.heap.size := Ok.nil _ _
  have o2 : Ok ([g11] ++ (blkL ao9 ++ ([g4] ++ (M)))) (blkL ao18 ++ ([g11] ++ (blkL ao9 ++ ([g4] ++ (M))))) w17.heap.size := (fun _ h => .inl (mr (h)))
  have f9 := f9.chg (Chg.refl [] _) o1 o2 (fun _ _ h => nomatch h) (fun _ h => mr (ml h))
  have hBg4 := hBg4.chg (Chg.refl [] _) (fun h => nomatch h)
  have hBg11 := hBg11.chg (Chg.refl [] _) (fun h => nomatch h)
  have hM : MS ([g11] ++ (blkL ao9 ++ ([g4] ++ (M)))) w17 := (fun x h => hM.chg (Chg.refl [] _) x (mr (h)))
  have hC := hC.trans (Chg.refl [] _) (Ok.nil _ _)
  exact J21 _ _ (ha.sel (by kernel_rfl)) f9 hBg4 hBg11 hC hM
def vineryref06_Same.f (a0 : S_api_Tunnel) (a1 : S_api_Tunnel) : Option (Bool) := ((if (a0.Kind == a1.Kind) = true then (if ((a0.Root.Size == a1.Root.Size) && ((eqA 16 a0.Root.B a1.Root.B) && true)) = true then some ((bstr (b2s a0.Id)).toList == (bstr (b2s a1.Id)).toList : Bool) else some (false : Bool)) else some (false : Bool))).bind fun s15 => some ((s15 : Bool))
set_option maxRecDepth 100000 in
theorem vineryref06_Same.walk (w : World) (M : List Nat) (hM : MS M w) (a0 : S_api_Tunnel) (ao1 : Option Addr) (cap1 : Nat) (f1 : RSl (rInt .u8) 5 w M ao1 cap1 a0.Id) (a1 : S_api_Tunnel) (ao2 : Option Addr) (cap2 : Nat) (f2 : RSl (rInt .u8) 5 w M ao2 cap2 a1.Id) (r : Bool) (H : vineryref06_Same.f a0 a1 = some r) :
    To Tryd.prog 24 [.agg (cS_api_Tunnel a0 ao1 cap1).toArray, .agg (cS_api_Tunnel a1 ao2 cap2).toArray] w fun v w' => v = .bool r ∧ Chg [] w w' ∧ MS (M) w' := by
 unfold vineryref06_Same.f at H
 refine ent Tryd.func24 rfl [(0, .agg (cS_api_Tunnel a0 ao1 cap1).toArray), (1, .agg (cS_api_Tunnel a1 ao2 cap2).toArray)] rfl (by rfl) fun a ha => ?_
 have hC : Chg [] w w := Chg.refl _ _
 refine wp_seq_k fun K3 hK3 => ?_
 refine wp_region_lit ?_
 refine bx (cs := (cS_api_Tunnel a0 ao1 cap1)) ha rfl rfl rfl rfl rfl fun a w4 g5 hN6 ha => ?_
 have hn8 := hN6.notin hM
 have o1 : Ok [] (M) w.heap.size := Ok.nil _ _
 have o2 : Ok (M) (M) w.heap.size := (Ok.refl _ _)
 have f1 := f1.chg hN6.chg o1 o2
 have f2 := f2.chg hN6.chg o1 o2
 have hM : MS (M) w4 := (hM.chg hN6.chg)
 have hC := hC.trans hN6.chg (Ok.nil _ _)
 have hE7 : ∀ j v, (cS_api_Tunnel a0 ao1 cap1)[j]? = some v → w4.cell? ⟨g5, 0 + j, none⟩ = some v := Box.cells (New.box hN6)
 refine bx (cs := (cS_api_Tunnel a1 ao2 cap2)) ha rfl rfl rfl rfl rfl fun a w9 g10 hN11 ha => ?_
 have hn13 := hN11.notin hM
 have o1 : Ok [] (M) w4.heap.size := Ok.nil _ _
 have o2 : Ok (M) (M) w4.heap.size := (Ok.refl _ _)
 have f2 := f2.chg hN11.chg o1 o2
 have f1 := f1.chg hN11.chg o1 o2
 have q_hn8 : g5 ∉ M := fun h => (o2 g5 h).elim hn8 (fun h => absurd (lt_cell (hE7 0 _ rfl)) (Nat.not_lt.2 h))
 have hE7 : ∀ j v, (cS_api_Tunnel a0 ao1 cap1)[j]? = some v → w9.cell? ⟨g5, 0 + j, none⟩ = some v := fun j v hv => (cell_keep hN11.chg o1 hn8 (hE7 j v hv))
 have hn8 := q_hn8
 have hM : MS (M) w9 := (hM.chg hN11.chg)
 have hC := hC.trans hN11.chg (Ok.nil _ _)
 have hE12 : ∀ j v, (cS_api_Tunnel a1 ao2 cap2)[j]? = some v → w9.cell? ⟨g10, 0 + j, none⟩ = some v := Box.cells (New.box hN11)
 refine seg ha 1 [(2, .pointer (some ⟨g5, 0, none⟩)), (3, .pointer (some ⟨g10, 0, none⟩))] (by kernel_rfl) fun a ha => ?_
 refine hK3 _ _ ?_; try clear hK3 K3
 refine wp_seq_k fun K14 hK14 => ?_
 refine wp_region_lit ?_
 obtain ⟨s15, H15, H⟩ := bind_some H
 have J15 : ∀ (a : Act) (w15 : World), Has a Tryd.f24.ntmps [(4, .bool s15)] → (Chg [] w w15) → (MS (M) w15) → K14 a w15 := by
  intro a w15 ha hC hM
  refine hK14 _ _ ?_; try clear hK14 K14
  refine wp_ret ?_
  try simp only [Exit.then, Exit.inBlock]
  obtain rfl := Option.some.inj H
  refine rt1 ha rfl rfl ?_
  exact ⟨rfl, hC, hM⟩
 have H := H15
 refine seg ha 1 [(2, .pointer (some ⟨g5, 0, none⟩)), (3, .pointer (some ⟨g10, 0, none⟩)), (5, .pointer (some ⟨g5, 0 + 1, none⟩))] (by kernel_rfl) fun a ha => ?_
 refine ld ha rfl (by kernel_rfl) rfl rfl rfl (hE7 1 (.int .i64 a0.Kind) (by kernel_rfl)) fun a ha => ?_
 refine seg ha 1 [(2, .pointer (some ⟨g5, 0, none⟩)), (3, .pointer (some ⟨g10, 0, none⟩)), (6, .int .i64 a0.Kind), (7, .pointer (some ⟨g10, 0 + 1, none⟩))] (by kernel_rfl) fun a ha => ?_
 refine ld ha rfl (by kernel_rfl) rfl rfl rfl (hE12 1 (.int .i64 a1.Kind) (by kernel_rfl)) fun a ha => ?_
 refine seg ha 2 [(10, .bool (a0.Kind == a1.Kind)), (2, .pointer (some ⟨g5, 0, none⟩)), (3, .pointer (some ⟨g10, 0, none⟩))] (by kernel_rfl) fun a ha => ?_
 rcases Bool.eq_false_or_eq_true (a0.Kind == a1.Kind) with hb16 | hb16
 ·have ha := ha.lit hb16
  have H := ite_t hb16 H
  refine sgh ha 1 [2] [(2, .pointer (some ⟨g5, 0, none⟩)), (3, .pointer (some ⟨g10, 0, none⟩)), (10, .bool true), (11, .pointer (some ⟨g5, 0 + 3, none⟩))] (by kernel_rfl) fun a ha => ?_
  refine ldA (cs := (cS_api_Addr a0.Root)) ha rfl (by kernel_rfl) rfl rfl rfl (cells_sub hE7 (all := (cS_api_Tunnel a0 ao1 cap1)) [.bool a0.Leaf, .int .i64 a0.Kind, .int .i64 a0.Label] [.slice ao1 a0.Id.length cap1] (by kernel_rfl)) fun a ha => ?_
  refine sgh ha 1 [2] [(2, .pointer (some ⟨g5, 0, none⟩)), (3, .pointer (some ⟨g10, 0, none⟩)), (10, .bool true), (12, .agg (cS_api_Addr a0.Root).toArray), (13, .pointer (some ⟨g10, 0 + 3, none⟩))] (by kernel_rfl) fun a ha => ?_
  refine ldA (cs := (cS_api_Addr a1.Root)) ha rfl (by kernel_rfl) rfl rfl rfl (cells_sub hE12 (all := (cS_api_Tunnel a1 ao2 cap2)) [.bool a1.Leaf, .int .i64 a1.Kind, .int .i64 a1.Label] [.slice ao2 a1.Id.length cap2] (by kernel_rfl)) fun a ha => ?_
  refine hop (v := .bool ((a0.Root.Size == a1.Root.Size) && ((eqA 16 a0.Root.B a1.Root.B) && true))) (w' := w9) ha rfl rfl rfl (eqs_run (r := ((a0.Root.Size == a1.Root.Size) && ((eqA 16 a0.Root.B a1.Root.B) && true))) (m := 9) ha rfl rfl (by kernel_rfl) rfl (by kernel_rfl) _) fun a ha => ?_
  refine sgh ha 2 [3, 0] [(17, .bool ((a0.Root.Size == a1.Root.Size) && ((eqA 16 a0.Root.B a1.Root.B) && true))), (2, .pointer (some ⟨g5, 0, none⟩)), (3, .pointer (some ⟨g10, 0, none⟩))] (by kernel_rfl) fun a ha => ?_
  rcases Bool.eq_false_or_eq_true (((a0.Root.Size == a1.Root.Size) && ((eqA 16 a0.Root.B a1.Root.B) && true))) with hb17 | hb17
  ·have ha := ha.lit hb17
   have H := ite_t hb17 H
   refine sgh ha 1 [2] [(3, .pointer (some ⟨g10, 0, none⟩)), (17, .bool true), (18, .pointer (some ⟨g5, 0 + 20, none⟩))] (by kernel_rfl) fun a ha => ?_
   refine ld ha rfl (by kernel_rfl) rfl rfl rfl (hE7 20 (.slice ao1 a0.Id.length cap1) (by kernel_rfl)) fun a ha => ?_
   refine cvs ha rfl (by kernel_rfl) (by kernel_rfl) (by kernel_rfl) rfl rfl rfl f1 fun a ha => ?_
   refine sgh ha 1 [2] [(17, .bool true), (20, .string (bstr (b2s a0.Id))), (21, .pointer (some ⟨g10, 0 + 20, none⟩))] (by kernel_rfl) fun a ha => ?_
   refine ld ha rfl (by kernel_rfl) rfl rfl rfl (hE12 20 (.slice ao2 a1.Id.length cap2) (by kernel_rfl)) fun a ha => ?_
   refine cvs ha rfl (by kernel_rfl) (by kernel_rfl) (by kernel_rfl) rfl rfl rfl f2 fun a ha => ?_
   refine sgh ha 3 [2, 3, 0] [(4, .bool ((bstr (b2s a0.Id)).toList == (bstr (b2s a1.Id)).toList))] (by kernel_rfl) fun a ha => ?_
   obtain rfl := Option.some.inj H
   exact J15 _ _ (ha.sel (by kernel_rfl)) hC hM
  ·have ha := ha.lit hb17
   have H := ite_f hb17 H
   refine sgh ha 9 [1, 1, 1, 1, 1, 1, 1, 4, 0] [(4, .bool false)] (by kernel_rfl) fun a ha => ?_
   obtain rfl := Option.some.inj H
   exact J15 _ _ (ha.sel (by kernel_rfl)) hC hM
 ·have ha := ha.lit hb16
  have H := ite_f hb16 H
  refine sgh ha 16 [1, 1, 1, 1, 1, 4, 0, 1, 1, 1, 1, 1, 1, 1, 4, 0] [(4, .bool false)] (by kernel_rfl) fun a ha => ?_
  obtain rfl := Option.some.inj H
  exact J15 _ _ (ha.sel (by kernel_rfl)) hC hM
end Go.E
