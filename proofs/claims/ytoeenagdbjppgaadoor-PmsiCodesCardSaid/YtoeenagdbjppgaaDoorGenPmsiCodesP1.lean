/- What the functions that the law reaches compute, and the walks that show it. -/
import Derived.Test.YtoeenagdbjppgaaDoorEngO
import Derived.Test.YtoeenagdbjppgaaDoorProg
import Derived.Test.YtoeenagdbjppgaaDoorGenPmsiCodesP0
set_option linter.unusedVariables false
set_option linter.unusedSimpArgs false
namespace Go.E
open Go.RowKit Go.Proofs
def pmsi_Parse.f (k : Nat) (a0 : List Int) : Option (S_api_Tunnel × Int) := (cursor_Open.f a0).bind fun t8 => (cursor_Reader_Num.f k t8 (1 : Int)).bind fun t13 => (cursor_Reader_Num.f k t13.2 (1 : Int)).bind fun t22 => (cursor_Reader_Take.f t22.2 (3 : Int)).bind fun t27 => (label_Read.f k t27.1).bind fun t30 => (if (t22.1 == (1 : Int)) = true then (cursor_Reader_Take.f t27.2 (4 : Int)).bind fun t38 => (cursor_Reader_Take.f t38.2 (2 : Int)).bind fun t44 => ((cursor_Reader_Take.f t44.2 (2 : Int)).bind fun t77 => (if (t38.1.length + t77.1.length) * 1 ≤ 140737488355328 then some ((t77.2.rest.left : List Int), (t77.2.rest.bad : Bool), ((t38.1 ++ t77.1) : List Int)) else none)).bind fun s50 => (pmsi_root.f (⟨(⟨s50.1, s50.2.1⟩ : S_cursor_rest)⟩ : S_cursor_Reader) (4 : Int)).bind fun t53 => (pmsi_Bytes.f k (⟨t13.1 == (1 : Int), t22.1, t30.1, t53.1, s50.2.2⟩ : S_api_Tunnel)).bind fun t59 => ((cursor_rest_Bad.f t53.2.rest).bind fun t71 => (if t71 = true then some (true : Bool) else (if (t59.2 != (0 : Int)) = true then some (true : Bool) else (bytes_Equal.f t59.1 a0).bind fun t74 => some (!t74 : Bool)))).bind fun s62 => (if s62 = true then some (((⟨false, (0 : Int), (0 : Int), (⟨(0 : Int), (List.replicate 16 (0 : Int))⟩ : S_api_Addr), ([] : List Int)⟩ : S_api_Tunnel) : S_api_Tunnel), ((4 : Int) : Int)) else some (((⟨t13.1 == (1 : Int), t22.1, t30.1, t53.1, s50.2.2⟩ : S_api_Tunnel) : S_api_Tunnel), ((0 : Int) : Int))) else ((if (t22.1 == (2 : Int)) = true then some (t22.1 == (2 : Int) : Bool) else some (t22.1 == (7 : Int) : Bool))).bind fun s100 => (if s100 = true then (cursor_Reader_Take.f t27.2 (3 : Int)).bind fun t103 => (cursor_Reader_Num.f k t103.2 (1 : Int)).bind fun t107 => (pmsi_root.f t107.2 t107.1).bind fun t109 => (cursor_Reader_Num.f k t109.2 (2 : Int)).bind fun t113 => (cursor_Reader_Take.f t113.2 t113.1).bind fun t115 => (pmsi_Bytes.f k (⟨t13.1 == (1 : Int), t22.1, t30.1, t109.1, t115.1⟩ : S_api_Tunnel)).bind fun t122 => ((cursor_rest_Bad.f t115.2.rest).bind fun t134 => (if t134 = true then some (true : Bool) else (if (t122.2 != (0 : Int)) = true then some (true : Bool) else (bytes_Equal.f t122.1 a0).bind fun t137 => some (!t137 : Bool)))).bind fun s125 => (if s125 = true then some (((⟨false, (0 : Int), (0 : Int), (⟨(0 : Int), (List.replicate 16 (0 : Int))⟩ : S_api_Addr), ([] : List Int)⟩ : S_api_Tunnel) : S_api_Tunnel), ((4 : Int) : Int)) else some (((⟨t13.1 == (1 : Int), t22.1, t30.1, t109.1, t115.1⟩ : S_api_Tunnel) : S_api_Tunnel), ((0 : Int) : Int))) else ((if (t22.1 == (3 : Int)) = true then some (t22.1 == (3 : Int) : Bool) else (if (t22.1 == (4 : Int)) = true then some (t22.1 == (4 : Int) : Bool) else some (t22.1 == (5 : Int) : Bool)))).bind fun s139 => (if s139 = true then (cursor_rest_Left.f t27.2.rest).bind fun t142 => (pmsi_root.f t27.2 (IntKind.i64.wrap (Int.tdiv t142 (2 : Int)))).bind fun t143 => (cursor_rest_Left.f t143.2.rest).bind fun t147 => (cursor_Reader_Take.f t143.2 t147).bind fun t148 => (pmsi_Bytes.f k (⟨t13.1 == (1 : Int), t22.1, t30.1, t143.1, t148.1⟩ : S_api_Tunnel)).bind fun t155 => ((cursor_rest_Bad.f t148.2.rest).bind fun t167 => (if t167 = true then some (true : Bool) else (if (t155.2 != (0 : Int)) = true then some (true : Bool) else (bytes_Equal.f t155.1 a0).bind fun t170 => some (!t170 : Bool)))).bind fun s158 => (if s158 = true then some (((⟨false, (0 : Int), (0 : Int), (⟨(0 : Int), (List.replicate 16 (0 : Int))⟩ : S_api_Addr), ([] : List Int)⟩ : S_api_Tunnel) : S_api_Tunnel), ((4 : Int) : Int)) else some (((⟨t13.1 == (1 : Int), t22.1, t30.1, t143.1, t148.1⟩ : S_api_Tunnel) : S_api_Tunnel), ((0 : Int) : Int))) else (cursor_rest_Left.f t27.2.rest).bind fun t171 => (pmsi_root.f t27.2 t171).bind fun t172 => (pmsi_Bytes.f k (⟨t13.1 == (1 : Int), t22.1, t30.1, t172.1, ([] : List Int)⟩ : S_api_Tunnel)).bind fun t178 => ((cursor_rest_Bad.f t172.2.rest).bind fun t191 => (if t191 = true then some (true : Bool) else (if (t178.2 != (0 : Int)) = true then some (true : Bool) else (bytes_Equal.f t178.1 a0).bind fun t194 => some (!t194 : Bool)))).bind fun s181 => (if s181 = true then some (((⟨false, (0 : Int), (0 : Int), (⟨(0 : Int), (List.replicate 16 (0 : Int))⟩ : S_api_Addr), ([] : List Int)⟩ : S_api_Tunnel) : S_api_Tunnel), ((4 : Int) : Int)) else some (((⟨t13.1 == (1 : Int), t22.1, t30.1, t172.1, ([] : List Int)⟩ : S_api_Tunnel) : S_api_Tunnel), ((0 : Int) : Int))))))
set_option maxRecDepth 100000 in
theorem pmsi_Parse.walk (w : World) (M : List Nat) (hM : MS M w) (a0 : List Int) (ao1 : Option Addr) (cap1 : Nat) (f1 : RSl (rInt .u8) 5 w M ao1 cap1 a0) (k : Nat) (r : S_api_Tunnel × Int) (H : pmsi_Parse.f k a0 = some r) :
    To Tryd.prog 15 [.slice ao1 a0.length cap1] w fun v w' => ∃ (ao201 : Option Addr) (cap201 : Nat), v = .tuple #[.agg (cS_api_Tunnel r.1 ao201 cap201).toArray, .int .i64 r.2] ∧ (Own (rInt .u8) 5 w' (blkL ao201 ++ (M)) ao201 cap201 r.1.Id) ∧ (∀ x ∈ blkL ao201, w.heap.size ≤ x) ∧ Chg [] w w' ∧ MS (blkL ao201 ++ (M)) w' := by
 unfold pmsi_Parse.f at H
 refine ent Tryd.func15 rfl [(0, .slice ao1 a0.length cap1)] rfl (by rfl) fun a ha => ?_
 have hC : Chg [] w w := Chg.refl _ _
 refine wp_seq_k fun K2 hK2 => ?_
 refine wp_region_lit ?_
 refine al (cs := (cS_api_Tunnel (⟨false, (0 : Int), (0 : Int), (⟨(0 : Int), (List.replicate 16 (0 : Int))⟩ : S_api_Addr), ([] : List Int)⟩ : S_api_Tunnel) none 0)) (z := .agg (cS_api_Tunnel (⟨false, (0 : Int), (0 : Int), (⟨(0 : Int), (List.replicate 16 (0 : Int))⟩ : S_api_Addr), ([] : List Int)⟩ : S_api_Tunnel) none 0).toArray) ha (fun w => by kernel_rfl) rfl rfl rfl rfl fun a w3 g4 hN5 ha => ?_
 have o1 : Ok [] (M) w.heap.size := Ok.nil _ _
 have o2 : Ok ([g4] ++ (M)) (M) w.heap.size := (Ok.app (hN5.ok _) (Ok.refl _ _))
 have f1 := f1.chg hN5.chg o1 o2
 have p_i6_M : ∀ x ∈ [g4], x ∉ M := fun x hx hy => absurd (hM x (hy)) (Nat.not_lt.2 ((hN5.ge1) x hx))
 have e_i6 : ∀ x ∈ [g4], w.heap.size ≤ x := fun x hx => Nat.le_trans hC.size ((hN5.ge1) x hx)
 have hM : MS ([g4] ++ (M)) w3 := (MS.app hN5.ms (hM.chg hN5.chg))
 have hC := hC.trans hN5.chg (Ok.nil _ _)
 have hBg4 : Box w3 g4 (cS_api_Tunnel (⟨false, (0 : Int), (0 : Int), (⟨(0 : Int), (List.replicate 16 (0 : Int))⟩ : S_api_Addr), ([] : List Int)⟩ : S_api_Tunnel) none 0) := hN5.box
 refine seg ha 1 [(0, .slice ao1 a0.length cap1), (2, .pointer (some ⟨g4, 0, none⟩))] (by kernel_rfl) fun a ha => ?_
 refine hK2 _ _ ?_; try clear hK2 K2
 refine wp_seq_k fun K7 hK7 => ?_
 refine wp_region_lit ?_
 refine seg ha 1 [(0, .slice ao1 a0.length cap1), (2, .pointer (some ⟨g4, 0, none⟩)), (8, .slice ao1 a0.length cap1)] (by kernel_rfl) fun a ha => ?_
 obtain ⟨t8, H8, H⟩ := bind_some H
 refine cl ha (by rfl) (by kernel_rfl) (by rfl) (by rfl) (by rfl) (cursor_Open.walk w3 _ hM a0 ao1 cap1 f1 _ H8) ?_
 rintro _ w8 ⟨g9, ao11, cap11, rfl, f11, hBg9, ne_i10, hc8, hMn⟩ a ha
 have o1 : Ok [] ([g4] ++ (M)) w3.heap.size := Ok.nil _ _
 have o2 : Ok ([g9] ++ ([g4] ++ (M))) ([g4] ++ (M)) w3.heap.size := (Ok.app (fun x h => .inr (ne_i10 x h)) (Ok.refl _ _))
 have f1 := f1.chg hc8 o1 o2
 have hBg4 := hBg4.chg hc8 (fun h => nomatch h)
 have p_i10_i6 : ∀ x ∈ [g9], x ∉ ([g4]) := fun x hx hy => absurd (hM x (ml hy)) (Nat.not_lt.2 (ne_i10 x hx))
 have p_i10_M : ∀ x ∈ [g9], x ∉ M := fun x hx hy => absurd (hM x (mr (hy))) (Nat.not_lt.2 (ne_i10 x hx))
 have e_i10 : ∀ x ∈ [g9], w.heap.size ≤ x := fun x hx => Nat.le_trans hC.size (ne_i10 x hx)
 have hM : MS ([g9] ++ ([g4] ++ (M))) w8 := (MS.app (fun x h => hMn x (ml h)) (hM.chg hc8))
 have hC := hC.trans hc8 (Ok.nil _ _)
 refine seg ha 1 [(0, .slice ao1 a0.length cap1), (2, .pointer (some ⟨g4, 0, none⟩)), (4, .pointer (some ⟨g9, 0, none⟩))] (by kernel_rfl) fun a ha => ?_
 refine hK7 _ _ ?_; try clear hK7 K7
 refine wp_seq_k fun K12 hK12 => ?_
 refine wp_region_lit ?_
 refine seg ha 1 [(0, .slice ao1 a0.length cap1), (2, .pointer (some ⟨g4, 0, none⟩)), (4, .pointer (some ⟨g9, 0, none⟩)), (10, .pointer (some ⟨g9, 0, none⟩))] (by kernel_rfl) fun a ha => ?_
 obtain ⟨t13, H13, H⟩ := bind_some H
 refine cl ha (by rfl) (by kernel_rfl) (by rfl) (by rfl) (by rfl) (cursor_Reader_Num.walk w8 _ hM g9 t8 ao11 cap11 f11 hBg9 (ml (List.mem_singleton.2 rfl)) (1 : Int) k _ H13) ?_
 rintro _ w13 ⟨ao14, cap14, rfl, f14, qhBg9, hc13, hMn⟩ a ha
 have o1 : Ok [g9] ([g9] ++ ([g4] ++ (M))) w8.heap.size := (fun _ h => .inl (ml h))
 have o2 : Ok ([g9] ++ ([g4] ++ (M))) ([g9] ++ ([g4] ++ (M))) w8.heap.size := (Ok.refl _ _)
 have f1 := f1.chg hc13 o1 o2
 have f11 := f11.chg hc13 o1 o2
 have hBg4 := hBg4.chg hc13 ((fun x (hx : x ∈ [g4]) (hy : x ∈ [g9]) => p_i10_i6 x hy hx) g4 (by simp))
 have hM : MS ([g9] ++ ([g4] ++ (M))) w13 := (hM.chg hc13)
 have hC := hC.trans hc13 (fun x h => .inr (e_i10 x h))
 have hBg9 := qhBg9
 refine seg ha 1 [(0, .slice ao1 a0.length cap1), (2, .pointer (some ⟨g4, 0, none⟩)), (4, .pointer (some ⟨g9, 0, none⟩)), (12, .bool (t13.1 == (1 : Int)))] (by kernel_rfl) fun a ha => ?_
 refine opk (v := .agg (cS_api_Tunnel (⟨t13.1 == (1 : Int), (0 : Int), (0 : Int), (⟨(0 : Int), (List.replicate 16 (0 : Int))⟩ : S_api_Addr), ([] : List Int)⟩ : S_api_Tunnel) none 0).toArray) ha rfl rfl rfl rfl rfl (fun w => by kernel_rfl) fun a ha => ?_
 refine al (cs := (cS_api_Tunnel (⟨false, (0 : Int), (0 : Int), (⟨(0 : Int), (List.replicate 16 (0 : Int))⟩ : S_api_Addr), ([] : List Int)⟩ : S_api_Tunnel) none 0)) (z := .agg (cS_api_Tunnel (⟨false, (0 : Int), (0 : Int), (⟨(0 : Int), (List.replicate 16 (0 : Int))⟩ : S_api_Addr), ([] : List Int)⟩ : S_api_Tunnel) none 0).toArray) ha (fun w => by kernel_rfl) rfl rfl rfl rfl fun a w15 g16 hN17 ha => ?_
 have o1 : Ok [] ([g9] ++ ([g4] ++ (M))) w13.heap.size := Ok.nil _ _
 have o2 : Ok ([g16] ++ ([g9] ++ ([g4] ++ (M)))) ([g9] ++ ([g4] ++ (M))) w13.heap.size := (Ok.app (hN17.ok _) (Ok.refl _ _))
 have f1 := f1.chg hN17.chg o1 o2
 have f14 := f14.chg hN17.chg o1 o2
 have hBg4 := hBg4.chg hN17.chg (fun h => nomatch h)
 have hBg9 := hBg9.chg hN17.chg (fun h => nomatch h)
 have p_i18_i10 : ∀ x ∈ [g16], x ∉ ([g9]) := fun x hx hy => absurd (hM x (ml hy)) (Nat.not_lt.2 ((hN17.ge1) x hx))
 have p_i18_i6 : ∀ x ∈ [g16], x ∉ ([g4]) := fun x hx hy => absurd (hM x (mr (ml hy))) (Nat.not_lt.2 ((hN17.ge1) x hx))
 have p_i18_M : ∀ x ∈ [g16], x ∉ M := fun x hx hy => absurd (hM x (mr (mr (hy)))) (Nat.not_lt.2 ((hN17.ge1) x hx))
 have e_i18 : ∀ x ∈ [g16], w.heap.size ≤ x := fun x hx => Nat.le_trans hC.size ((hN17.ge1) x hx)
 have hM : MS ([g16] ++ ([g9] ++ ([g4] ++ (M)))) w15 := (MS.app hN17.ms (hM.chg hN17.chg))
 have hC := hC.trans hN17.chg (Ok.nil _ _)
 have hBg16 : Box w15 g16 (cS_api_Tunnel (⟨false, (0 : Int), (0 : Int), (⟨(0 : Int), (List.replicate 16 (0 : Int))⟩ : S_api_Addr), ([] : List Int)⟩ : S_api_Tunnel) none 0) := hN17.box
 refine stA (l := (cS_api_Tunnel (⟨t13.1 == (1 : Int), (0 : Int), (0 : Int), (⟨(0 : Int), (List.replicate 16 (0 : Int))⟩ : S_api_Addr), ([] : List Int)⟩ : S_api_Tunnel) none 0)) ha rfl rfl rfl (by kernel_rfl) rfl rfl hBg16 rfl fun a w19 ha hb2 hc20 _ => ?_
 have o1 : Ok [g16] ([g16] ++ ([g9] ++ ([g4] ++ (M)))) w15.heap.size := (fun _ h => .inl (ml h))
 have o2 : Ok ([g16] ++ ([g9] ++ ([g4] ++ (M)))) ([g16] ++ ([g9] ++ ([g4] ++ (M)))) w15.heap.size := (Ok.refl _ _)
 have f1 := f1.chg hc20 o1 o2
 have f14 := f14.chg hc20 o1 o2
 have hBg4 := hBg4.chg hc20 ((fun x (hx : x ∈ [g4]) (hy : x ∈ [g16]) => p_i18_i6 x hy hx) g4 (by simp))
 have hBg9 := hBg9.chg hc20 ((fun x (hx : x ∈ [g9]) (hy : x ∈ [g16]) => p_i18_i10 x hy hx) g9 (by simp))
 have hM : MS ([g16] ++ ([g9] ++ ([g4] ++ (M)))) w19 := (hM.chg hc20)
 have hC := hC.trans hc20 (fun x h => .inr (e_i18 x h))
 have hBg16 : Box w19 g16 (cS_api_Tunnel (⟨t13.1 == (1 : Int), (0 : Int), (0 : Int), (⟨(0 : Int), (List.replicate 16 (0 : Int))⟩ : S_api_Addr), ([] : List Int)⟩ : S_api_Tunnel) none 0) := hb2
 refine hK12 _ _ ?_; try clear hK12 K12
 refine wp_seq_k fun K21 hK21 => ?_
 refine wp_region_lit ?_
 refine seg ha 1 [(0, .slice ao1 a0.length cap1), (2, .pointer (some ⟨g4, 0, none⟩)), (4, .pointer (some ⟨g9, 0, none⟩)), (5, .pointer (some ⟨g16, 0, none⟩)), (14, .pointer (some ⟨g9, 0, none⟩))] (by kernel_rfl) fun a ha => ?_
 obtain ⟨t22, H22, H⟩ := bind_some H
 refine cl ha (by rfl) (by kernel_rfl) (by rfl) (by rfl) (by rfl) (cursor_Reader_Num.walk w19 _ hM g9 t13.2 ao14 cap14 f14 hBg9 (mr (ml (List.mem_singleton.2 rfl))) (1 : Int) k _ H22) ?_
 rintro _ w22 ⟨ao23, cap23, rfl, f23, qhBg9, hc22, hMn⟩ a ha
 have o1 : Ok [g9] ([g16] ++ ([g9] ++ ([g4] ++ (M)))) w19.heap.size := (fun _ h => .inl (mr (ml h)))
 have o2 : Ok ([g16] ++ ([g9] ++ ([g4] ++ (M)))) ([g16] ++ ([g9] ++ ([g4] ++ (M)))) w19.heap.size := (Ok.refl _ _)
 have f1 := f1.chg hc22 o1 o2
 have f14 := f14.chg hc22 o1 o2
 have hBg4 := hBg4.chg hc22 ((fun x (hx : x ∈ [g4]) (hy : x ∈ [g9]) => p_i10_i6 x hy hx) g4 (by simp))
 have hBg16 := hBg16.chg hc22 (p_i18_i10 g16 (by simp))
 have hM : MS ([g16] ++ ([g9] ++ ([g4] ++ (M)))) w22 := (hM.chg hc22)
 have hC := hC.trans hc22 (fun x h => .inr (e_i10 x h))
 have hBg9 := qhBg9
 refine seg ha 1 [(0, .slice ao1 a0.length cap1), (2, .pointer (some ⟨g4, 0, none⟩)), (4, .pointer (some ⟨g9, 0, none⟩)), (5, .pointer (some ⟨g16, 0, none⟩)), (15, .int .i64 t22.1), (16, .pointer (some ⟨g16, 1, none⟩))] (by kernel_rfl) fun a ha => ?_
 refine st ha rfl rfl rfl (by kernel_rfl) rfl rfl hBg16 (Nat.le_of_ble_eq_true (by kernel_rfl)) fun a w24 ha hb2 hc25 _ => ?_
 have o1 : Ok [g16] ([g16] ++ ([g9] ++ ([g4] ++ (M)))) w22.heap.size := (fun _ h => .inl (ml h))
 have o2 : Ok ([g16] ++ ([g9] ++ ([g4] ++ (M)))) ([g16] ++ ([g9] ++ ([g4] ++ (M)))) w22.heap.size := (Ok.refl _ _)
 have f1 := f1.chg hc25 o1 o2
 have f23 := f23.chg hc25 o1 o2
 have hBg4 := hBg4.chg hc25 ((fun x (hx : x ∈ [g4]) (hy : x ∈ [g16]) => p_i18_i6 x hy hx) g4 (by simp))
 have hBg9 := hBg9.chg hc25 ((fun x (hx : x ∈ [g9]) (hy : x ∈ [g16]) => p_i18_i10 x hy hx) g9 (by simp))
 have hM : MS ([g16] ++ ([g9] ++ ([g4] ++ (M)))) w24 := (hM.chg hc25)
 have hC := hC.trans hc25 (fun x h => .inr (e_i18 x h))
 have hBg16 : Box w24 g16 (cS_api_Tunnel (⟨t13.1 == (1 : Int), t22.1, (0 : Int), (⟨(0 : Int), (List.replicate 16 (0 : Int))⟩ : S_api_Addr), ([] : List Int)⟩ : S_api_Tunnel) none 0) := hb2
 refine hK21 _ _ ?_; try clear hK21 K21
 refine wp_seq_k fun K26 hK26 => ?_
 refine wp_region_lit ?_
 refine seg ha 1 [(0, .slice ao1 a0.length cap1), (2, .pointer (some ⟨g4, 0, none⟩)), (4, .pointer (some ⟨g9, 0, none⟩)), (5, .pointer (some ⟨g16, 0, none⟩)), (18, .pointer (some ⟨g9, 0, none⟩))] (by kernel_rfl) fun a ha => ?_
 obtain ⟨t27, H27, H⟩ := bind_some H
 refine cl ha (by rfl) (by kernel_rfl) (by rfl) (by rfl) (by rfl) (cursor_Reader_Take.walk w24 _ hM g9 t22.2 ao23 cap23 f23 hBg9 (mr (ml (List.mem_singleton.2 rfl))) (3 : Int) _ H27) ?_
 rintro _ w27 ⟨ao28, cap28, ao29, cap29, rfl, f28, f29, qhBg9, ne_i28, hc27, hMn⟩ a ha
 have o1 : Ok [g9] ([g16] ++ ([g9] ++ ([g4] ++ (M)))) w24.heap.size := (fun _ h => .inl (mr (ml h)))
 have o2 : Ok (blkL ao28 ++ ([g16] ++ ([g9] ++ ([g4] ++ (M))))) ([g16] ++ ([g9] ++ ([g4] ++ (M)))) w24.heap.size := (Ok.app (fun x h => .inr (ne_i28 x h)) (Ok.refl _ _))
 have f1 := f1.chg hc27 o1 o2
 have f23 := f23.chg hc27 o1 o2
 have hBg4 := hBg4.chg hc27 ((fun x (hx : x ∈ [g4]) (hy : x ∈ [g9]) => p_i10_i6 x hy hx) g4 (by simp))
 have hBg16 := hBg16.chg hc27 (p_i18_i10 g16 (by simp))
 have p_i28_i18 : ∀ x ∈ blkL ao28, x ∉ ([g16]) := fun x hx hy => absurd (hM x (ml hy)) (Nat.not_lt.2 (ne_i28 x hx))
 have p_i28_i10 : ∀ x ∈ blkL ao28, x ∉ ([g9]) := fun x hx hy => absurd (hM x (mr (ml hy))) (Nat.not_lt.2 (ne_i28 x hx))
 have p_i28_i6 : ∀ x ∈ blkL ao28, x ∉ ([g4]) := fun x hx hy => absurd (hM x (mr (mr (ml hy)))) (Nat.not_lt.2 (ne_i28 x hx))
 have p_i28_M : ∀ x ∈ blkL ao28, x ∉ M := fun x hx hy => absurd (hM x (mr (mr (mr (hy))))) (Nat.not_lt.2 (ne_i28 x hx))
 have e_i28 : ∀ x ∈ blkL ao28, w.heap.size ≤ x := fun x hx => Nat.le_trans hC.size (ne_i28 x hx)
 have hM : MS (blkL ao28 ++ ([g16] ++ ([g9] ++ ([g4] ++ (M))))) w27 := (MS.app (fun x h => hMn x (ml h)) (hM.chg hc27))
 have hC := hC.trans hc27 (fun x h => .inr (e_i10 x h))
 have hBg9 := qhBg9
 have hML : MS ([g16] ++ ([g9] ++ ([g4] ++ (M)))) w27 := MS.rest hM (fun _ h => (List.mem_append.1 h).elim (fun h => mr (ml h)) (fun h => (List.mem_append.1 h).elim (fun h => mr (mr (ml h))) (fun h => (List.mem_append.1 h).elim (fun h => mr (mr (mr (ml h)))) (fun h => mr (mr (mr (mr (h))))))))
 have oL : Ok ([g16] ++ ([g9] ++ ([g4] ++ (M)))) (blkL ao28 ++ ([g16] ++ ([g9] ++ ([g4] ++ (M))))) w27.heap.size := (fun _ h => .inl (mr (h)))
 obtain ⟨t30, H30, H⟩ := bind_some H
 refine cl ha (by rfl) (by kernel_rfl) (by rfl) (by rfl) (by rfl) (label_Read.walk w27 _ hML t27.1 ao28 cap28 (Own.toRSl (M' := [g16] ++ ([g9] ++ ([g4] ++ (M)))) f28 oL (fun x hx hm => (List.mem_append.1 hm).elim (fun h => p_i28_i18 x hx h) (fun h => (List.mem_append.1 h).elim (fun h => p_i28_i10 x hx h) (fun h => (List.mem_append.1 h).elim (fun h => p_i28_i6 x hx h) (fun h => p_i28_M x hx h))))) k _ H30) ?_
 rintro _ w30 ⟨rfl, hc30, hMn⟩ a ha
 have o1 : Ok [] (blkL ao28 ++ ([g16] ++ ([g9] ++ ([g4] ++ (M))))) w27.heap.size := Ok.nil _ _
 have o2 : Ok (blkL ao28 ++ ([g16] ++ ([g9] ++ ([g4] ++ (M))))) (blkL ao28 ++ ([g16] ++ ([g9] ++ ([g4] ++ (M))))) w27.heap.size := (Ok.refl _ _)
 have f1 := f1.chg hc30 o1 o2
 have f28 := f28.chg hc30 o1 o2 (fun _ _ h => nomatch h) (fun _ h => ml h)
 have f29 := f29.chg hc30 o1 o2
 have hBg4 := hBg4.chg hc30 (fun h => nomatch h)
 have hBg9 := hBg9.chg hc30 (fun h => nomatch h)
 have hBg16 := hBg16.chg hc30 (fun h => nomatch h)
 have hM : MS (blkL ao28 ++ ([g16] ++ ([g9] ++ ([g4] ++ (M))))) w30 := (hM.chg hc30)
 have hC := hC.trans hc30 (Ok.nil _ _)
 refine seg ha 5 [(0, .slice ao1 a0.length cap1), (2, .pointer (some ⟨g4, 0, none⟩)), (4, .pointer (some ⟨g9, 0, none⟩)), (5, .pointer (some ⟨g16, 0, none⟩)), (21, .int .i64 t30.1), (24, .pointer (some ⟨g16, 2, none⟩))] (by kernel_rfl) fun a ha => ?_
 refine st ha rfl rfl rfl (by kernel_rfl) rfl rfl hBg16 (Nat.le_of_ble_eq_true (by kernel_rfl)) fun a w31 ha hb2 hc32 _ => ?_
 have o1 : Ok [g16] (blkL ao28 ++ ([g16] ++ ([g9] ++ ([g4] ++ (M))))) w30.heap.size := (fun _ h => .inl (mr (ml h)))
 have o2 : Ok (blkL ao28 ++ ([g16] ++ ([g9] ++ ([g4] ++ (M))))) (blkL ao28 ++ ([g16] ++ ([g9] ++ ([g4] ++ (M))))) w30.heap.size := (Ok.refl _ _)
 have f1 := f1.chg hc32 o1 o2
 have f29 := f29.chg hc32 o1 o2
 have hBg4 := hBg4.chg hc32 ((fun x (hx : x ∈ [g4]) (hy : x ∈ [g16]) => p_i18_i6 x hy hx) g4 (by simp))
 have hBg9 := hBg9.chg hc32 ((fun x (hx : x ∈ [g9]) (hy : x ∈ [g16]) => p_i18_i10 x hy hx) g9 (by simp))
 have hM : MS (blkL ao28 ++ ([g16] ++ ([g9] ++ ([g4] ++ (M))))) w31 := (hM.chg hc32)
 have hC := hC.trans hc32 (fun x h => .inr (e_i18 x h))
 have hBg16 : Box w31 g16 (cS_api_Tunnel (⟨t13.1 == (1 : Int), t22.1, t30.1, (⟨(0 : Int), (List.replicate 16 (0 : Int))⟩ : S_api_Addr), ([] : List Int)⟩ : S_api_Tunnel) none 0) := hb2
 refine hK26 _ _ ?_; try clear hK26 K26
 refine wp_seq_k fun K33 hK33 => ?_
 refine wp_seq_k fun K34 hK34 => ?_
 refine wp_region_lit ?_
 refine seg ha 1 [(0, .slice ao1 a0.length cap1), (2, .pointer (some ⟨g4, 0, none⟩)), (4, .pointer (some ⟨g9, 0, none⟩)), (5, .pointer (some ⟨g16, 0, none⟩)), (25, .pointer (some ⟨g16, 1, none⟩))] (by kernel_rfl) fun a ha => ?_
 refine ld (v := .int .i64 t22.1) ha rfl (by kernel_rfl) rfl rfl rfl (hBg16.cell' (o := 1) rfl (by kernel_rfl)) fun a ha => ?_
 refine hK34 _ _ ?_; try clear hK34 K34
 refine wp_block ?_
 refine wp_seq_k fun K35 hK35 => ?_
 refine wp_region_lit ?_
 refine seg ha 2 [(0, .slice ao1 a0.length cap1), (2, .pointer (some ⟨g4, 0, none⟩)), (4, .pointer (some ⟨g9, 0, none⟩)), (5, .pointer (some ⟨g16, 0, none⟩)), (26, .int .i64 t22.1), (34, .bool (t22.1 == (1 : Int)))] (by kernel_rfl) fun a ha => ?_
 refine hK35 _ _ ?_; try clear hK35 K35
 refine cnd ha rfl (fun hc36 => ?_) (fun hc36 => ?_)
 ·have H := ite_t hc36 H
  refine wp_seq_k fun K37 hK37 => ?_
  refine wp_region_lit ?_
  refine seg ha 1 [(0, .slice ao1 a0.length cap1), (2, .pointer (some ⟨g4, 0, none⟩)), (4, .pointer (some ⟨g9, 0, none⟩)), (5, .pointer (some ⟨g16, 0, none⟩)), (36, .pointer (some ⟨g9, 0, none⟩))] (by kernel_rfl) fun a ha => ?_
  obtain ⟨t38, H38, H⟩ := bind_some H
  refine cl ha (by rfl) (by kernel_rfl) (by rfl) (by rfl) (by rfl) (cursor_Reader_Take.walk w31 _ hM g9 t27.2 ao29 cap29 f29 hBg9 (mr (mr (ml (List.mem_singleton.2 rfl)))) (4 : Int) _ H38) ?_
  rintro _ w38 ⟨ao39, cap39, ao40, cap40, rfl, f39, f40, qhBg9, ne_i39, hc38, hMn⟩ a ha
  have o1 : Ok [g9] (blkL ao28 ++ ([g16] ++ ([g9] ++ ([g4] ++ (M))))) w31.heap.size := (fun _ h => .inl (mr (mr (ml h))))
  have o2 : Ok (blkL ao39 ++ (blkL ao28 ++ ([g16] ++ ([g9] ++ ([g4] ++ (M)))))) (blkL ao28 ++ ([g16] ++ ([g9] ++ ([g4] ++ (M))))) w31.heap.size := (Ok.app (fun x h => .inr (ne_i39 x h)) (Ok.refl _ _))
  have f1 := f1.chg hc38 o1 o2
  have f29 := f29.chg hc38 o1 o2
  have hBg4 := hBg4.chg hc38 ((fun x (hx : x ∈ [g4]) (hy : x ∈ [g9]) => p_i10_i6 x hy hx) g4 (by simp))
  have hBg16 := hBg16.chg hc38 (p_i18_i10 g16 (by simp))
  have p_i39_i28 : ∀ x ∈ blkL ao39, x ∉ (blkL ao28) := fun x hx hy => absurd (hM x (ml hy)) (Nat.not_lt.2 (ne_i39 x hx))
  have p_i39_i18 : ∀ x ∈ blkL ao39, x ∉ ([g16]) := fun x hx hy => absurd (hM x (mr (ml hy))) (Nat.not_lt.2 (ne_i39 x hx))
  have p_i39_i10 : ∀ x ∈ blkL ao39, x ∉ ([g9]) := fun x hx hy => absurd (hM x (mr (mr (ml hy)))) (Nat.not_lt.2 (ne_i39 x hx))
  have p_i39_i6 : ∀ x ∈ blkL ao39, x ∉ ([g4]) := fun x hx hy => absurd (hM x (mr (mr (mr (ml hy))))) (Nat.not_lt.2 (ne_i39 x hx))
  have p_i39_M : ∀ x ∈ blkL ao39, x ∉ M := fun x hx hy => absurd (hM x (mr (mr (mr (mr (hy)))))) (Nat.not_lt.2 (ne_i39 x hx))
  have e_i39 : ∀ x ∈ blkL ao39, w.heap.size ≤ x := fun x hx => Nat.le_trans hC.size (ne_i39 x hx)
  have hM : MS (blkL ao39 ++ (blkL ao28 ++ ([g16] ++ ([g9] ++ ([g4] ++ (M)))))) w38 := (MS.app (fun x h => hMn x (ml h)) (hM.chg hc38))
  have hC := hC.trans hc38 (fun x h => .inr (e_i10 x h))
  have hBg9 := qhBg9
  refine seg ha 1 [(0, .slice ao1 a0.length cap1), (2, .pointer (some ⟨g4, 0, none⟩)), (4, .pointer (some ⟨g9, 0, none⟩)), (5, .pointer (some ⟨g16, 0, none⟩)), (37, .slice ao39 t38.1.length cap39), (38, .pointer (some ⟨g16, 20, none⟩))] (by kernel_rfl) fun a ha => ?_
  refine st ha rfl rfl rfl (by kernel_rfl) rfl rfl hBg16 (Nat.le_of_ble_eq_true (by kernel_rfl)) fun a w41 ha hb2 hc42 _ => ?_
  have o1 : Ok [g16] (blkL ao39 ++ (blkL ao28 ++ ([g16] ++ ([g9] ++ ([g4] ++ (M)))))) w38.heap.size := (fun _ h => .inl (mr (mr (ml h))))
  have o2 : Ok (blkL ao39 ++ (blkL ao28 ++ ([g16] ++ ([g9] ++ ([g4] ++ (M)))))) (blkL ao39 ++ (blkL ao28 ++ ([g16] ++ ([g9] ++ ([g4] ++ (M)))))) w38.heap.size := (Ok.refl _ _)
  have f1 := f1.chg hc42 o1 o2
  have f39 := f39.chg hc42 o1 o2 p_i39_i18 (fun _ h => ml h)
  have f40 := f40.chg hc42 o1 o2
  have hBg4 := hBg4.chg hc42 ((fun x (hx : x ∈ [g4]) (hy : x ∈ [g16]) => p_i18_i6 x hy hx) g4 (by simp))
  have hBg9 := hBg9.chg hc42 ((fun x (hx : x ∈ [g9]) (hy : x ∈ [g16]) => p_i18_i10 x hy hx) g9 (by simp))
  have hM : MS (blkL ao39 ++ (blkL ao28 ++ ([g16] ++ ([g9] ++ ([g4] ++ (M)))))) w41 := (hM.chg hc42)
  have hC := hC.trans hc42 (fun x h => .inr (e_i18 x h))
  have hBg16 : Box w41 g16 (cS_api_Tunnel (⟨t13.1 == (1 : Int), t22.1, t30.1, (⟨(0 : Int), (List.replicate 16 (0 : Int))⟩ : S_api_Addr), t38.1⟩ : S_api_Tunnel) ao39 cap39) := hb2
  refine hK37 _ _ ?_; try clear hK37 K37
  refine wp_seq_k fun K43 hK43 => ?_
  refine wp_region_lit ?_
  refine seg ha 1 [(0, .slice ao1 a0.length cap1), (2, .pointer (some ⟨g4, 0, none⟩)), (4, .pointer (some ⟨g9, 0, none⟩)), (5, .pointer (some ⟨g16, 0, none⟩)), (39, .pointer (some ⟨g9, 0, none⟩))] (by kernel_rfl) fun a ha => ?_
  obtain ⟨t44, H44, H⟩ := bind_some H
  refine cl ha (by rfl) (by kernel_rfl) (by rfl) (by rfl) (by rfl) (cursor_Reader_Take.walk w41 _ hM g9 t38.2 ao40 cap40 f40 hBg9 (mr (mr (mr (ml (List.mem_singleton.2 rfl))))) (2 : Int) _ H44) ?_
  rintro _ w44 ⟨ao45, cap45, ao46, cap46, rfl, f45, f46, qhBg9, ne_i45, hc44, hMn⟩ a ha
  have o1 : Ok [g9] (blkL ao39 ++ (blkL ao28 ++ ([g16] ++ ([g9] ++ ([g4] ++ (M)))))) w41.heap.size := (fun _ h => .inl (mr (mr (mr (ml h)))))
  have o2 : Ok (blkL ao45 ++ (blkL ao39 ++ (blkL ao28 ++ ([g16] ++ ([g9] ++ ([g4] ++ (M))))))) (blkL ao39 ++ (blkL ao28 ++ ([g16] ++ ([g9] ++ ([g4] ++ (M)))))) w41.heap.size := (Ok.app (fun x h => .inr (ne_i45 x h)) (Ok.refl _ _))
  have f1 := f1.chg hc44 o1 o2
  have f40 := f40.chg hc44 o1 o2
  have f39 := f39.chg hc44 o1 o2 p_i39_i10 (fun _ h => mr (ml h))
  have hBg4 := hBg4.chg hc44 ((fun x (hx : x ∈ [g4]) (hy : x ∈ [g9]) => p_i10_i6 x hy hx) g4 (by simp))
  have hBg16 := hBg16.chg hc44 (p_i18_i10 g16 (by simp))
  have p_i45_i39 : ∀ x ∈ blkL ao45, x ∉ (blkL ao39) := fun x hx hy => absurd (hM x (ml hy)) (Nat.not_lt.2 (ne_i45 x hx))
  have p_i45_i28 : ∀ x ∈ blkL ao45, x ∉ (blkL ao28) := fun x hx hy => absurd (hM x (mr (ml hy))) (Nat.not_lt.2 (ne_i45 x hx))
  have p_i45_i18 : ∀ x ∈ blkL ao45, x ∉ ([g16]) := fun x hx hy => absurd (hM x (mr (mr (ml hy)))) (Nat.not_lt.2 (ne_i45 x hx))
  have p_i45_i10 : ∀ x ∈ blkL ao45, x ∉ ([g9]) := fun x hx hy => absurd (hM x (mr (mr (mr (ml hy))))) (Nat.not_lt.2 (ne_i45 x hx))
  have p_i45_i6 : ∀ x ∈ blkL ao45, x ∉ ([g4]) := fun x hx hy => absurd (hM x (mr (mr (mr (mr (ml hy)))))) (Nat.not_lt.2 (ne_i45 x hx))
  have p_i45_M : ∀ x ∈ blkL ao45, x ∉ M := fun x hx hy => absurd (hM x (mr (mr (mr (mr (mr (hy))))))) (Nat.not_lt.2 (ne_i45 x hx))
  have e_i45 : ∀ x ∈ blkL ao45, w.heap.size ≤ x := fun x hx => Nat.le_trans hC.size (ne_i45 x hx)
  have hM : MS (blkL ao45 ++ (blkL ao39 ++ (blkL ao28 ++ ([g16] ++ ([g9] ++ ([g4] ++ (M))))))) w44 := (MS.app (fun x h => hMn x (ml h)) (hM.chg hc44))
  have hC := hC.trans hc44 (fun x h => .inr (e_i10 x h))
  have hBg9 := qhBg9
  refine hK43 _ _ ?_; try clear hK43 K43
  refine wp_seq_k fun K47 hK47 => ?_
  have z_f1 := f1
  have z_f46 := f46
  have z_hBg4 := hBg4
  have okS : Ok ([g9] ++ blkL ao39 ++ [g16]) (blkL ao45 ++ (blkL ao39 ++ (blkL ao28 ++ ([g16] ++ ([g9] ++ ([g4] ++ (M))))))) w44.heap.size := (Ok.app (Ok.app (fun _ h => .inl (mr (mr (mr (mr (ml h)))))) (fun _ h => .inl (mr (ml h)))) (fun _ h => .inl (mr (mr (mr (ml h))))))
  refine drw (fun w' => Chg ([g9] ++ blkL ao39 ++ [g16]) w44 w') (by kernel_rfl) fun w48 hc49 _ => ?_
  have hS : Chg ([g9] ++ blkL ao39 ++ [g16]) w44 w48 := (Chg.refl ([g9] ++ blkL ao39 ++ [g16]) _).trans hc49 (Ok.nil _ _)
  have o1 : Ok [] (blkL ao45 ++ (blkL ao39 ++ (blkL ao28 ++ ([g16] ++ ([g9] ++ ([g4] ++ (M))))))) w44.heap.size := Ok.nil _ _
  have o2 : Ok (blkL ao45 ++ (blkL ao39 ++ (blkL ao28 ++ ([g16] ++ ([g9] ++ ([g4] ++ (M))))))) (blkL ao45 ++ (blkL ao39 ++ (blkL ao28 ++ ([g16] ++ ([g9] ++ ([g4] ++ (M))))))) w44.heap.size := (Ok.refl _ _)
  have f1 := f1.chg hc49 o1 o2
  have f46 := f46.chg hc49 o1 o2
  have f39 := f39.chg hc49 o1 o2 (fun _ _ h => nomatch h) (fun _ h => mr (ml h))
  have hBg4 := hBg4.chg hc49 (fun h => nomatch h)
  have hBg9 := hBg9.chg hc49 (fun h => nomatch h)
  have hBg16 := hBg16.chg hc49 (fun h => nomatch h)
  have hM : MS (blkL ao45 ++ (blkL ao39 ++ (blkL ao28 ++ ([g16] ++ ([g9] ++ ([g4] ++ (M))))))) w48 := (hM.chg hc49)
  have hC := hC.trans hc49 (Ok.nil _ _)
  obtain ⟨s50, H50, H⟩ := bind_some H
  have J50 : ∀ (a : Act) (w50 : World) (ao51 : Option Addr) (cap51 : Nat) (ao52 : Option Addr) (cap52 : Nat), Has a Tryd.f15.ntmps [(0, .slice ao1 a0.length cap1), (2, .pointer (some ⟨g4, 0, none⟩)), (4, .pointer (some ⟨g9, 0, none⟩)), (5, .pointer (some ⟨g16, 0, none⟩))] → (RSl (rInt .u8) 5 w50 (blkL ao52 ++ ([g16] ++ ([g9] ++ ([g4] ++ (M))))) ao1 cap1 a0) → (RSl (rInt .u8) 5 w50 (blkL ao52 ++ ([g16] ++ ([g9] ++ ([g4] ++ (M))))) ao51 cap51 s50.1) → (Own (rInt .u8) 5 w50 (blkL ao52 ++ ([g16] ++ ([g9] ++ ([g4] ++ (M))))) ao52 cap52 s50.2.2) → (Box w50 g4 (cS_api_Tunnel (⟨false, (0 : Int), (0 : Int), (⟨(0 : Int), (List.replicate 16 (0 : Int))⟩ : S_api_Addr), ([] : List Int)⟩ : S_api_Tunnel) none 0)) → (Box w50 g9 (cS_cursor_Reader (⟨(⟨s50.1, s50.2.1⟩ : S_cursor_rest)⟩ : S_cursor_Reader) ao51 cap51)) → (Box w50 g16 (cS_api_Tunnel (⟨t13.1 == (1 : Int), t22.1, t30.1, (⟨(0 : Int), (List.replicate 16 (0 : Int))⟩ : S_api_Addr), s50.2.2⟩ : S_api_Tunnel) ao52 cap52)) → (∀ x ∈ blkL ao52, w.heap.size ≤ x) → (∀ x ∈ blkL ao52, x ∉ [g16]) → (∀ x ∈ blkL ao52, x ∉ [g9]) → (∀ x ∈ blkL ao52, x ∉ [g4]) → (∀ x ∈ blkL ao52, x ∉ M) → (Chg [] w w50) → (MS (blkL ao52 ++ ([g16] ++ ([g9] ++ ([g4] ++ (M))))) w50) → K47 a w50 := by
   intro a w50 ao51 cap51 ao52 cap52 ha f1 f51 f52 hBg4 hBg9 hBg16 e_i52 p_i52_i18 p_i52_i10 p_i52_i6 p_i52_M hC hM
   refine hK47 _ _ ?_; try clear hK47 K47
   refine wp_region_lit ?_
   refine seg ha 1 [(0, .slice ao1 a0.length cap1), (2, .pointer (some ⟨g4, 0, none⟩)), (4, .pointer (some ⟨g9, 0, none⟩)), (5, .pointer (some ⟨g16, 0, none⟩)), (47, .pointer (some ⟨g9, 0, none⟩))] (by kernel_rfl) fun a ha => ?_
   obtain ⟨t53, H53, H⟩ := bind_some H
   refine cl ha (by rfl) (by kernel_rfl) (by rfl) (by rfl) (by rfl) (pmsi_root.walk w50 _ hM g9 (⟨(⟨s50.1, s50.2.1⟩ : S_cursor_rest)⟩ : S_cursor_Reader) ao51 cap51 f51 hBg9 (mr (mr (ml (List.mem_singleton.2 rfl)))) (4 : Int) _ H53) ?_
   rintro _ w53 ⟨ao54, cap54, rfl, f54, qhBg9, hc53, hMn⟩ a ha
   have o1 : Ok [g9] (blkL ao52 ++ ([g16] ++ ([g9] ++ ([g4] ++ (M))))) w50.heap.size := (fun _ h => .inl (mr (mr (ml h))))
   have o2 : Ok (blkL ao52 ++ ([g16] ++ ([g9] ++ ([g4] ++ (M))))) (blkL ao52 ++ ([g16] ++ ([g9] ++ ([g4] ++ (M))))) w50.heap.size := (Ok.refl _ _)
   have f1 := f1.chg hc53 o1 o2
   have f51 := f51.chg hc53 o1 o2
   have f52 := f52.chg hc53 o1 o2 p_i52_i10 (fun _ h => ml h)
   have hBg4 := hBg4.chg hc53 ((fun x (hx : x ∈ [g4]) (hy : x ∈ [g9]) => p_i10_i6 x hy hx) g4 (by simp))
   have hBg16 := hBg16.chg hc53 (p_i18_i10 g16 (by simp))
   have hM : MS (blkL ao52 ++ ([g16] ++ ([g9] ++ ([g4] ++ (M))))) w53 := (hM.chg hc53)
   have hC := hC.trans hc53 (fun x h => .inr (e_i10 x h))
   have hBg9 := qhBg9
   refine seg ha 1 [(0, .slice ao1 a0.length cap1), (2, .pointer (some ⟨g4, 0, none⟩)), (4, .pointer (some ⟨g9, 0, none⟩)), (5, .pointer (some ⟨g16, 0, none⟩)), (48, .agg (cS_api_Addr t53.1).toArray), (49, .pointer (some ⟨g16, 3, none⟩))] (by kernel_rfl) fun a ha => ?_
   refine stA (l := (cS_api_Addr t53.1)) ha rfl rfl rfl (by kernel_rfl) rfl rfl hBg16 rfl fun a w55 ha hb2 hc56 _ => ?_
   have o1 : Ok [g16] (blkL ao52 ++ ([g16] ++ ([g9] ++ ([g4] ++ (M))))) w53.heap.size := (fun _ h => .inl (mr (ml h)))
   have o2 : Ok (blkL ao52 ++ ([g16] ++ ([g9] ++ ([g4] ++ (M))))) (blkL ao52 ++ ([g16] ++ ([g9] ++ ([g4] ++ (M))))) w53.heap.size := (Ok.refl _ _)
   have f1 := f1.chg hc56 o1 o2
   have f54 := f54.chg hc56 o1 o2
   have f52 := f52.chg hc56 o1 o2 p_i52_i18 (fun _ h => ml h)
   have hBg4 := hBg4.chg hc56 ((fun x (hx : x ∈ [g4]) (hy : x ∈ [g16]) => p_i18_i6 x hy hx) g4 (by simp))
   have hBg9 := hBg9.chg hc56 ((fun x (hx : x ∈ [g9]) (hy : x ∈ [g16]) => p_i18_i10 x hy hx) g9 (by simp))
   have hM : MS (blkL ao52 ++ ([g16] ++ ([g9] ++ ([g4] ++ (M))))) w55 := (hM.chg hc56)
   have hC := hC.trans hc56 (fun x h => .inr (e_i18 x h))
   have hBg16 : Box w55 g16 (cS_api_Tunnel (⟨t13.1 == (1 : Int), t22.1, t30.1, t53.1, s50.2.2⟩ : S_api_Tunnel) ao52 cap52) := hb2
   refine hK33 _ _ ?_; try clear hK33 K33
   refine wp_seq_k fun K57 hK57 => ?_
   refine wp_seq_k fun K58 hK58 => ?_
   refine wp_region_lit ?_
   refine ldA (cs := (cS_api_Tunnel (⟨t13.1 == (1 : Int), t22.1, t30.1, t53.1, s50.2.2⟩ : S_api_Tunnel) ao52 cap52)) ha rfl (by kernel_rfl) rfl rfl rfl (cells_sub (Box.cells hBg16) (all := (cS_api_Tunnel (⟨t13.1 == (1 : Int), t22.1, t30.1, t53.1, s50.2.2⟩ : S_api_Tunnel) ao52 cap52)) [] [] (by kernel_rfl)) fun a ha => ?_
   have hML : MS ([g16] ++ ([g9] ++ ([g4] ++ (M)))) w55 := MS.rest hM (fun _ h => (List.mem_append.1 h).elim (fun h => mr (ml h)) (fun h => (List.mem_append.1 h).elim (fun h => mr (mr (ml h))) (fun h => (List.mem_append.1 h).elim (fun h => mr (mr (mr (ml h)))) (fun h => mr (mr (mr (mr (h))))))))
   have oL : Ok ([g16] ++ ([g9] ++ ([g4] ++ (M)))) (blkL ao52 ++ ([g16] ++ ([g9] ++ ([g4] ++ (M))))) w55.heap.size := (fun _ h => .inl (mr (h)))
   obtain ⟨t59, H59, H⟩ := bind_some H
   refine cl ha (by rfl) (by kernel_rfl) (by rfl) (by rfl) (by rfl) (pmsi_Bytes.walk w55 _ hML (⟨t13.1 == (1 : Int), t22.1, t30.1, t53.1, s50.2.2⟩ : S_api_Tunnel) ao52 cap52 (Own.toRSl (M' := [g16] ++ ([g9] ++ ([g4] ++ (M)))) f52 oL (fun x hx hm => (List.mem_append.1 hm).elim (fun h => p_i52_i18 x hx h) (fun h => (List.mem_append.1 h).elim (fun h => p_i52_i10 x hx h) (fun h => (List.mem_append.1 h).elim (fun h => p_i52_i6 x hx h) (fun h => p_i52_M x hx h))))) k _ H59) ?_
   rintro _ w59 ⟨ao60, cap60, rfl, f60, ne_i60, hc59, hMn⟩ a ha
   have o1 : Ok [] (blkL ao52 ++ ([g16] ++ ([g9] ++ ([g4] ++ (M))))) w55.heap.size := Ok.nil _ _
   have o2 : Ok (blkL ao60 ++ (blkL ao52 ++ ([g16] ++ ([g9] ++ ([g4] ++ (M)))))) (blkL ao52 ++ ([g16] ++ ([g9] ++ ([g4] ++ (M))))) w55.heap.size := (Ok.app (fun x h => .inr (ne_i60 x h)) (Ok.refl _ _))
   have f1 := f1.chg hc59 o1 o2
   have f52 := f52.chg hc59 o1 o2 (fun _ _ h => nomatch h) (fun _ h => mr (ml h))
   have f54 := f54.chg hc59 o1 o2
   have hBg4 := hBg4.chg hc59 (fun h => nomatch h)
   have hBg9 := hBg9.chg hc59 (fun h => nomatch h)
   have hBg16 := hBg16.chg hc59 (fun h => nomatch h)
   have p_i60_i52 : ∀ x ∈ blkL ao60, x ∉ (blkL ao52) := fun x hx hy => absurd (hM x (ml hy)) (Nat.not_lt.2 (ne_i60 x hx))
   have p_i60_i18 : ∀ x ∈ blkL ao60, x ∉ ([g16]) := fun x hx hy => absurd (hM x (mr (ml hy))) (Nat.not_lt.2 (ne_i60 x hx))
   have p_i60_i10 : ∀ x ∈ blkL ao60, x ∉ ([g9]) := fun x hx hy => absurd (hM x (mr (mr (ml hy)))) (Nat.not_lt.2 (ne_i60 x hx))
   have p_i60_i6 : ∀ x ∈ blkL ao60, x ∉ ([g4]) := fun x hx hy => absurd (hM x (mr (mr (mr (ml hy))))) (Nat.not_lt.2 (ne_i60 x hx))
   have p_i60_M : ∀ x ∈ blkL ao60, x ∉ M := fun x hx hy => absurd (hM x (mr (mr (mr (mr (hy)))))) (Nat.not_lt.2 (ne_i60 x hx))
   have e_i60 : ∀ x ∈ blkL ao60, w.heap.size ≤ x := fun x hx => Nat.le_trans hC.size (ne_i60 x hx)
   have hM : MS (blkL ao60 ++ (blkL ao52 ++ ([g16] ++ ([g9] ++ ([g4] ++ (M)))))) w59 := (MS.app (fun x h => hMn x (ml h)) (hM.chg hc59))
   have hC := hC.trans hc59 (Ok.nil _ _)
   have f60 := Own.re (M' := blkL ao60 ++ (blkL ao52 ++ ([g16] ++ ([g9] ++ ([g4] ++ (M)))))) (fun _ _ _ _ _ h => h) f60 (fun _ h => ml h)
   refine seg ha 5 [(0, .slice ao1 a0.length cap1), (2, .pointer (some ⟨g4, 0, none⟩)), (4, .pointer (some ⟨g9, 0, none⟩)), (5, .pointer (some ⟨g16, 0, none⟩)), (6, .slice ao60 t59.1.length cap60), (7, .int .i64 t59.2)] (by kernel_rfl) fun a ha => ?_
   refine hK58 _ _ ?_; try clear hK58 K58
   refine wp_seq_k fun K61 hK61 => ?_
   refine wp_region_lit ?_
   obtain ⟨s62, H62, H⟩ := bind_some H
   have J62 : ∀ (a : Act) (w62 : World), Has a Tryd.f15.ntmps [(2, .pointer (some ⟨g4, 0, none⟩)), (5, .pointer (some ⟨g16, 0, none⟩)), (102, .bool s62)] → (RSl (rInt .u8) 5 w62 (blkL ao52 ++ ([g16] ++ ([g9] ++ ([g4] ++ (M))))) ao54 cap54 t53.2.rest.left) → (Own (rInt .u8) 5 w62 (blkL ao52 ++ ([g16] ++ ([g9] ++ ([g4] ++ (M))))) ao52 cap52 s50.2.2) → (Box w62 g4 (cS_api_Tunnel (⟨false, (0 : Int), (0 : Int), (⟨(0 : Int), (List.replicate 16 (0 : Int))⟩ : S_api_Addr), ([] : List Int)⟩ : S_api_Tunnel) none 0)) → (Box w62 g9 (cS_cursor_Reader t53.2 ao54 cap54)) → (Box w62 g16 (cS_api_Tunnel (⟨t13.1 == (1 : Int), t22.1, t30.1, t53.1, s50.2.2⟩ : S_api_Tunnel) ao52 cap52)) → (Chg [] w w62) → (MS (blkL ao52 ++ ([g16] ++ ([g9] ++ ([g4] ++ (M))))) w62) → K61 a w62 := by
    intro a w62 ha f54 f52 hBg4 hBg9 hBg16 hC hM
    refine hK61 _ _ ?_; try clear hK61 K61
    refine cnd ha rfl (fun hc63 => ?_) (fun hc63 => ?_)
    ·have H := ite_t hc63 H
     refine wp_seq_k fun K64 hK64 => ?_
     refine wp_region_lit ?_
     refine opk (v := .agg (cS_api_Tunnel (⟨false, (0 : Int), (0 : Int), (⟨(0 : Int), (List.replicate 16 (0 : Int))⟩ : S_api_Addr), ([] : List Int)⟩ : S_api_Tunnel) none 0).toArray) ha rfl rfl rfl rfl rfl (fun w => by kernel_rfl) fun a ha => ?_
     refine stA (l := (cS_api_Tunnel (⟨false, (0 : Int), (0 : Int), (⟨(0 : Int), (List.replicate 16 (0 : Int))⟩ : S_api_Addr), ([] : List Int)⟩ : S_api_Tunnel) none 0)) ha rfl rfl rfl (by kernel_rfl) rfl rfl hBg4 rfl fun a w65 ha hb2 hc66 _ => ?_
     have o1 : Ok [g4] (blkL ao52 ++ ([g16] ++ ([g9] ++ ([g4] ++ (M))))) w62.heap.size := (fun _ h => .inl (mr (mr (mr (ml h)))))
     have o2 : Ok (blkL ao52 ++ ([g16] ++ ([g9] ++ ([g4] ++ (M))))) (blkL ao52 ++ ([g16] ++ ([g9] ++ ([g4] ++ (M))))) w62.heap.size := (Ok.refl _ _)
     have f54 := f54.chg hc66 o1 o2
     have f52 := f52.chg hc66 o1 o2 p_i52_i6 (fun _ h => ml h)
     have hBg9 := hBg9.chg hc66 (p_i10_i6 g9 (by simp))
     have hBg16 := hBg16.chg hc66 (p_i18_i6 g16 (by simp))
     have hM : MS (blkL ao52 ++ ([g16] ++ ([g9] ++ ([g4] ++ (M))))) w65 := (hM.chg hc66)
     have hC := hC.trans hc66 (fun x h => .inr (e_i6 x h))
     have hBg4 : Box w65 g4 (cS_api_Tunnel (⟨false, (0 : Int), (0 : Int), (⟨(0 : Int), (List.replicate 16 (0 : Int))⟩ : S_api_Addr), ([] : List Int)⟩ : S_api_Tunnel) none 0) := hb2
     refine seg ha 1 [(2, .pointer (some ⟨g4, 0, none⟩)), (3, .int .i64 (4 : Int))] (by kernel_rfl) fun a ha => ?_
     refine hK64 _ _ ?_; try clear hK64 K64
     refine wp_ret ?_
     try simp only [Exit.then, Exit.inBlock]
     have o1 : Ok [] (blkL ao52 ++ ([g16] ++ ([g9] ++ ([g4] ++ (M))))) w65.heap.size := Ok.nil _ _
     have o2 : Ok (blkL none ++ (M)) (blkL ao52 ++ ([g16] ++ ([g9] ++ ([g4] ++ (M))))) w65.heap.size := (Ok.app (fun _ h => nomatch h) (fun _ h => .inl (mr (mr (mr (mr (h)))))))
     have f54 := f54.chg (Chg.refl [] _) o1 o2
     have hBg4 := hBg4.chg (Chg.refl [] _) (fun h => nomatch h)
     have hBg9 := hBg9.chg (Chg.refl [] _) (fun h => nomatch h)
     have hBg16 := hBg16.chg (Chg.refl [] _) (fun h => nomatch h)
     have p_z67_M : ∀ x ∈ blkL none, x ∉ M := fun x hx hy => absurd (hM x (mr (mr (mr (mr (hy)))))) (Nat.not_lt.2 ((fun _ h => nomatch h) x hx))
     have e_z67 : ∀ x ∈ blkL none, w.heap.size ≤ x := fun x hx => Nat.le_trans hC.size ((fun _ h => nomatch h) x hx)
     have hM : MS (blkL none ++ (M)) w65 := (MS.app (fun _ h => nomatch h) (fun x h => hM.chg (Chg.refl [] _) x (mr (mr (mr (mr (h)))))))
     have hC := hC.trans (Chg.refl [] _) (Ok.nil _ _)
     obtain rfl := Option.some.inj H
     refine rtr ha (res2 rfl (roA ha rfl hBg4 (by kernel_rfl)) (roT ha rfl)) ?_
     exact ⟨none, 0, rfl, Own.nil, e_z67, hC, hM⟩
    ·have H := ite_f hc63 H
     refine wp_skip ?_
     refine hK57 _ _ ?_; try clear hK57 K57
     refine wp_seq_k fun K68 hK68 => ?_
     refine wp_region_lit ?_
     refine ldA (cs := (cS_api_Tunnel (⟨t13.1 == (1 : Int), t22.1, t30.1, t53.1, s50.2.2⟩ : S_api_Tunnel) ao52 cap52)) ha rfl (by kernel_rfl) rfl rfl rfl (cells_sub (Box.cells hBg16) (all := (cS_api_Tunnel (⟨t13.1 == (1 : Int), t22.1, t30.1, t53.1, s50.2.2⟩ : S_api_Tunnel) ao52 cap52)) [] [] (by kernel_rfl)) fun a ha => ?_
     refine stA (l := (cS_api_Tunnel (⟨t13.1 == (1 : Int), t22.1, t30.1, t53.1, s50.2.2⟩ : S_api_Tunnel) ao52 cap52)) ha rfl rfl rfl (by kernel_rfl) rfl rfl hBg4 rfl fun a w69 ha hb2 hc70 _ => ?_
     have o1 : Ok [g4] (blkL ao52 ++ ([g16] ++ ([g9] ++ ([g4] ++ (M))))) w62.heap.size := (fun _ h => .inl (mr (mr (mr (ml h)))))
     have o2 : Ok (blkL ao52 ++ ([g16] ++ ([g9] ++ ([g4] ++ (M))))) (blkL ao52 ++ ([g16] ++ ([g9] ++ ([g4] ++ (M))))) w62.heap.size := (Ok.refl _ _)
     have f52 := f52.chg hc70 o1 o2 p_i52_i6 (fun _ h => ml h)
     have f54 := f54.chg hc70 o1 o2
     have hBg9 := hBg9.chg hc70 (p_i10_i6 g9 (by simp))
     have hBg16 := hBg16.chg hc70 (p_i18_i6 g16 (by simp))
     have hM : MS (blkL ao52 ++ ([g16] ++ ([g9] ++ ([g4] ++ (M))))) w69 := (hM.chg hc70)
     have hC := hC.trans hc70 (fun x h => .inr (e_i6 x h))
     have hBg4 : Box w69 g4 (cS_api_Tunnel (⟨t13.1 == (1 : Int), t22.1, t30.1, t53.1, s50.2.2⟩ : S_api_Tunnel) ao52 cap52) := hb2
     refine seg ha 1 [(2, .pointer (some ⟨g4, 0, none⟩)), (3, .int .i64 (0 : Int))] (by kernel_rfl) fun a ha => ?_
     refine hK68 _ _ ?_; try clear hK68 K68
     refine wp_ret ?_
     try simp only [Exit.then, Exit.inBlock]
     have o1 : Ok [] (blkL ao52 ++ ([g16] ++ ([g9] ++ ([g4] ++ (M))))) w69.heap.size := Ok.nil _ _
     have o2 : Ok (blkL ao52 ++ (M)) (blkL ao52 ++ ([g16] ++ ([g9] ++ ([g4] ++ (M))))) w69.heap.size := (Ok.app (fun _ h => .inl (ml h)) (fun _ h => .inl (mr (mr (mr (mr (h)))))))
     have f52 := f52.chg (Chg.refl [] _) o1 o2 (fun _ _ h => nomatch h) (fun _ h => ml h)
     have f54 := f54.chg (Chg.refl [] _) o1 o2
     have hBg4 := hBg4.chg (Chg.refl [] _) (fun h => nomatch h)
     have hBg9 := hBg9.chg (Chg.refl [] _) (fun h => nomatch h)
     have hBg16 := hBg16.chg (Chg.refl [] _) (fun h => nomatch h)
     have hM : MS (blkL ao52 ++ (M)) w69 := (MS.app (fun x h => hM.chg (Chg.refl [] _) x (ml h)) (fun x h => hM.chg (Chg.refl [] _) x (mr (mr (mr (mr (h)))))))
     have hC := hC.trans (Chg.refl [] _) (Ok.nil _ _)
     obtain rfl := Option.some.inj H
     refine rtr ha (res2 rfl (roA ha rfl hBg4 (by kernel_rfl)) (roT ha rfl)) ?_
     exact ⟨ao52, cap52, rfl, f52, e_i52, hC, hM⟩
   have H := H62
   refine seg ha 3 [(0, .slice ao1 a0.length cap1), (2, .pointer (some ⟨g4, 0, none⟩)), (5, .pointer (some ⟨g16, 0, none⟩)), (6, .slice ao60 t59.1.length cap60), (7, .int .i64 t59.2), (91, .pointer (some ⟨g9, 0, none⟩))] (by kernel_rfl) fun a ha => ?_
   obtain ⟨t71, H71, H⟩ := bind_some H
   refine cl ha (by rfl) (by kernel_rfl) (by rfl) (by rfl) (by rfl) (cursor_rest_Bad.walk w59 _ hM g9 t53.2.rest ao54 cap54 f54 hBg9 (mr (mr (mr (ml (List.mem_singleton.2 rfl))))) _ H71) ?_
   rintro _ w71 ⟨rfl, hc71, hMn⟩ a ha
   have o1 : Ok [] (blkL ao60 ++ (blkL ao52 ++ ([g16] ++ ([g9] ++ ([g4] ++ (M)))))) w59.heap.size := Ok.nil _ _
   have o2 : Ok (blkL ao60 ++ (blkL ao52 ++ ([g16] ++ ([g9] ++ ([g4] ++ (M)))))) (blkL ao60 ++ (blkL ao52 ++ ([g16] ++ ([g9] ++ ([g4] ++ (M)))))) w59.heap.size := (Ok.refl _ _)
   have f1 := f1.chg hc71 o1 o2
   have f60 := f60.chg hc71 o1 o2 (fun _ _ h => nomatch h) (fun _ h => ml h)
   have f54 := f54.chg hc71 o1 o2
   have f52 := f52.chg hc71 o1 o2 (fun _ _ h => nomatch h) (fun _ h => mr (ml h))
   have hBg4 := hBg4.chg hc71 (fun h => nomatch h)
   have hBg9 := hBg9.chg hc71 (fun h => nomatch h)
   have hBg16 := hBg16.chg hc71 (fun h => nomatch h)
   have hM : MS (blkL ao60 ++ (blkL ao52 ++ ([g16] ++ ([g9] ++ ([g4] ++ (M)))))) w71 := (hM.chg hc71)
   have hC := hC.trans hc71 (Ok.nil _ _)
   refine seg ha 1 [(93, .bool t71), (0, .slice ao1 a0.length cap1), (2, .pointer (some ⟨g4, 0, none⟩)), (5, .pointer (some ⟨g16, 0, none⟩)), (6, .slice ao60 t59.1.length cap60), (7, .int .i64 t59.2)] (by kernel_rfl) fun a ha => ?_
   rcases Bool.eq_false_or_eq_true (t71) with hb72 | hb72
   ·have ha := ha.lit hb72
    have H := ite_t hb72 H
    refine sgh ha 9 [1, 1, 3, 0, 1, 1, 1, 1, 3] [(2, .pointer (some ⟨g4, 0, none⟩)), (5, .pointer (some ⟨g16, 0, none⟩)), (102, .bool true)] (by kernel_rfl) fun a ha => ?_
    obtain rfl := Option.some.inj H
    have o1 : Ok [] (blkL ao60 ++ (blkL ao52 ++ ([g16] ++ ([g9] ++ ([g4] ++ (M)))))) w71.heap.size := Ok.nil _ _
    have o2 : Ok (blkL ao52 ++ ([g16] ++ ([g9] ++ ([g4] ++ (M))))) (blkL ao60 ++ (blkL ao52 ++ ([g16] ++ ([g9] ++ ([g4] ++ (M)))))) w71.heap.size := (fun _ h => .inl (mr (h)))
    have f54 := f54.chg (Chg.refl [] _) o1 o2
    have f52 := f52.chg (Chg.refl [] _) o1 o2 (fun _ _ h => nomatch h) (fun _ h => ml h)
    have hBg4 := hBg4.chg (Chg.refl [] _) (fun h => nomatch h)
    have hBg9 := hBg9.chg (Chg.refl [] _) (fun h => nomatch h)
    have hBg16 := hBg16.chg (Chg.refl [] _) (fun h => nomatch h)
    have hM : MS (blkL ao52 ++ ([g16] ++ ([g9] ++ ([g4] ++ (M))))) w71 := (fun x h => hM.chg (Chg.refl [] _) x (mr (h)))
    have hC := hC.trans (Chg.refl [] _) (Ok.nil _ _)
    exact J62 _ _ (ha.sel (by kernel_rfl)) f54 f52 hBg4 hBg9 hBg16 hC hM
   ·have ha := ha.lit hb72
    have H := ite_f hb72 H
    refine sgh ha 4 [2, 2, 4, 0] [(97, .bool (t59.2 != (0 : Int))), (0, .slice ao1 a0.length cap1), (2, .pointer (some ⟨g4, 0, none⟩)), (5, .pointer (some ⟨g16, 0, none⟩)), (6, .slice ao60 t59.1.length cap60)] (by kernel_rfl) fun a ha => ?_
    rcases Bool.eq_false_or_eq_true (t59.2 != (0 : Int)) with hb73 | hb73
    ·have ha := ha.lit hb73
     have H := ite_t hb73 H
     refine sgh ha 5 [1, 1, 1, 1, 3] [(2, .pointer (some ⟨g4, 0, none⟩)), (5, .pointer (some ⟨g16, 0, none⟩)), (102, .bool true)] (by kernel_rfl) fun a ha => ?_
     obtain rfl := Option.some.inj H
     have o1 : Ok [] (blkL ao60 ++ (blkL ao52 ++ ([g16] ++ ([g9] ++ ([g4] ++ (M)))))) w71.heap.size := Ok.nil _ _
     have o2 : Ok (blkL ao52 ++ ([g16] ++ ([g9] ++ ([g4] ++ (M))))) (blkL ao60 ++ (blkL ao52 ++ ([g16] ++ ([g9] ++ ([g4] ++ (M)))))) w71.heap.size := (fun _ h => .inl (mr (h)))
     have f54 := f54.chg (Chg.refl [] _) o1 o2
     have f52 := f52.chg (Chg.refl [] _) o1 o2 (fun _ _ h => nomatch h) (fun _ h => ml h)
     have hBg4 := hBg4.chg (Chg.refl [] _) (fun h => nomatch h)
     have hBg9 := hBg9.chg (Chg.refl [] _) (fun h => nomatch h)
     have hBg16 := hBg16.chg (Chg.refl [] _) (fun h => nomatch h)
     have hM : MS (blkL ao52 ++ ([g16] ++ ([g9] ++ ([g4] ++ (M))))) w71 := (fun x h => hM.chg (Chg.refl [] _) x (mr (h)))
     have hC := hC.trans (Chg.refl [] _) (Ok.nil _ _)
     exact J62 _ _ (ha.sel (by kernel_rfl)) f54 f52 hBg4 hBg9 hBg16 hC hM
    ·have ha := ha.lit hb73
     have H := ite_f hb73 H
     refine sgh ha 2 [2, 2] [(2, .pointer (some ⟨g4, 0, none⟩)), (5, .pointer (some ⟨g16, 0, none⟩)), (97, .bool false), (98, .slice ao60 t59.1.length cap60), (99, .slice ao1 a0.length cap1)] (by kernel_rfl) fun a ha => ?_
     have hML : MS (blkL ao52 ++ ([g16] ++ ([g9] ++ ([g4] ++ (M))))) w71 := MS.rest hM (fun _ h => (List.mem_append.1 h).elim (fun h => mr (ml h)) (fun h => (List.mem_append.1 h).elim (fun h => mr (mr (ml h))) (fun h => (List.mem_append.1 h).elim (fun h => mr (mr (mr (ml h)))) (fun h => (List.mem_append.1 h).elim (fun h => mr (mr (mr (mr (ml h))))) (fun h => mr (mr (mr (mr (mr (h))))))))))
     have oL : Ok (blkL ao52 ++ ([g16] ++ ([g9] ++ ([g4] ++ (M))))) (blkL ao60 ++ (blkL ao52 ++ ([g16] ++ ([g9] ++ ([g4] ++ (M)))))) w71.heap.size := (fun _ h => .inl (mr (h)))
     obtain ⟨t74, H74, H⟩ := bind_some H
     refine cl ha (by rfl) (by kernel_rfl) (by rfl) (by rfl) (by rfl) (bytes_Equal.walk w71 _ hML t59.1 ao60 cap60 (Own.toRSl (M' := blkL ao52 ++ ([g16] ++ ([g9] ++ ([g4] ++ (M))))) f60 oL (fun x hx hm => (List.mem_append.1 hm).elim (fun h => p_i60_i52 x hx h) (fun h => (List.mem_append.1 h).elim (fun h => p_i60_i18 x hx h) (fun h => (List.mem_append.1 h).elim (fun h => p_i60_i10 x hx h) (fun h => (List.mem_append.1 h).elim (fun h => p_i60_i6 x hx h) (fun h => p_i60_M x hx h)))))) a0 ao1 cap1 (RSl.chg f1 (Chg.refl [] _) (Ok.nil _ _) oL) _ H74) ?_
     rintro _ w74 ⟨rfl, hc74, hMn⟩ a ha
     have o1 : Ok [] (blkL ao60 ++ (blkL ao52 ++ ([g16] ++ ([g9] ++ ([g4] ++ (M)))))) w71.heap.size := Ok.nil _ _
     have o2 : Ok (blkL ao60 ++ (blkL ao52 ++ ([g16] ++ ([g9] ++ ([g4] ++ (M)))))) (blkL ao60 ++ (blkL ao52 ++ ([g16] ++ ([g9] ++ ([g4] ++ (M)))))) w71.heap.size := (Ok.refl _ _)
     have f60 := f60.chg hc74 o1 o2 (fun _ _ h => nomatch h) (fun _ h => ml h)
     have f1 := f1.chg hc74 o1 o2
     have f54 := f54.chg hc74 o1 o2
     have f52 := f52.chg hc74 o1 o2 (fun _ _ h => nomatch h) (fun _ h => mr (ml h))
     have hBg4 := hBg4.chg hc74 (fun h => nomatch h)
     have hBg9 := hBg9.chg hc74 (fun h => nomatch h)
     have hBg16 := hBg16.chg hc74 (fun h => nomatch h)
     have hM : MS (blkL ao60 ++ (blkL ao52 ++ ([g16] ++ ([g9] ++ ([g4] ++ (M)))))) w74 := (hM.chg hc74)
     have hC := hC.trans hc74 (Ok.nil _ _)
     refine sgh ha 2 [2, 4] [(2, .pointer (some ⟨g4, 0, none⟩)), (5, .pointer (some ⟨g16, 0, none⟩)), (102, .bool (!t74))] (by kernel_rfl) fun a ha => ?_
     obtain rfl := Option.some.inj H
     have o1 : Ok [] (blkL ao60 ++ (blkL ao52 ++ ([g16] ++ ([g9] ++ ([g4] ++ (M)))))) w74.heap.size := Ok.nil _ _
     have o2 : Ok (blkL ao52 ++ ([g16] ++ ([g9] ++ ([g4] ++ (M))))) (blkL ao60 ++ (blkL ao52 ++ ([g16] ++ ([g9] ++ ([g4] ++ (M)))))) w74.heap.size := (fun _ h => .inl (mr (h)))
     have f54 := f54.chg (Chg.refl [] _) o1 o2
     have f52 := f52.chg (Chg.refl [] _) o1 o2 (fun _ _ h => nomatch h) (fun _ h => ml h)
     have hBg4 := hBg4.chg (Chg.refl [] _) (fun h => nomatch h)
     have hBg9 := hBg9.chg (Chg.refl [] _) (fun h => nomatch h)
     have hBg16 := hBg16.chg (Chg.refl [] _) (fun h => nomatch h)
     have hM : MS (blkL ao52 ++ ([g16] ++ ([g9] ++ ([g4] ++ (M))))) w74 := (fun x h => hM.chg (Chg.refl [] _) x (mr (h)))
     have hC := hC.trans (Chg.refl [] _) (Ok.nil _ _)
     exact J62 _ _ (ha.sel (by kernel_rfl)) f54 f52 hBg4 hBg9 hBg16 hC hM
  have H := H50
  refine tkpz 0 0 (.pointer (some ⟨g16, 20, none⟩)) ha (s := hS) (q := fun a ha => ?_)
  refine tkpz 2 0 (.pointer (some ⟨g9, 0, none⟩)) ha (s := hS) (q := fun a ha => ?_)
  refine acs [1, 3] (by kernel_rfl) (by simp) fun i hi => ?_
  simp only [List.mem_cons, List.not_mem_nil, or_false] at hi
  rcases hi with rfl | rfl
  ·refine ⟨_, rfl, fun K75 hK75 => ?_⟩
   refine ld (v := .slice ao39 t38.1.length cap39) ha rfl (by kernel_rfl) rfl rfl rfl (hBg16.cell' (o := 20) rfl (by kernel_rfl)) fun a ha => ?_
   refine ae hK75 hS ?_; clear hK75 K75
   refine ac 3 (by kernel_rfl) (by rfl) fun K76 hK76 => ?_
   obtain ⟨t77, H77, H⟩ := bind_some H
   refine cl ha (by rfl) (by kernel_rfl) (by rfl) (by rfl) (by rfl) (cursor_Reader_Take.walk w48 _ hM g9 t44.2 ao46 cap46 f46 hBg9 (mr (mr (mr (mr (ml (List.mem_singleton.2 rfl)))))) (2 : Int) _ H77) ?_
   rintro _ w77 ⟨ao78, cap78, ao79, cap79, rfl, f78, f79, qhBg9, ne_iD000078, hc77, hMn⟩ a ha
   have o1 : Ok [g9] (blkL ao45 ++ (blkL ao39 ++ (blkL ao28 ++ ([g16] ++ ([g9] ++ ([g4] ++ (M))))))) w48.heap.size := (fun _ h => .inl (mr (mr (mr (mr (ml h))))))
   have o2 : Ok (blkL ao78 ++ (blkL ao45 ++ (blkL ao39 ++ (blkL ao28 ++ ([g16] ++ ([g9] ++ ([g4] ++ (M)))))))) (blkL ao45 ++ (blkL ao39 ++ (blkL ao28 ++ ([g16] ++ ([g9] ++ ([g4] ++ (M))))))) w48.heap.size := (Ok.app (fun x h => .inr (ne_iD000078 x h)) (Ok.refl _ _))
   have f1 := f1.chg hc77 o1 o2
   have f39 := f39.chg hc77 o1 o2 p_i39_i10 (fun _ h => mr (mr (ml h)))
   have f46 := f46.chg hc77 o1 o2
   have hBg4 := hBg4.chg hc77 ((fun x (hx : x ∈ [g4]) (hy : x ∈ [g9]) => p_i10_i6 x hy hx) g4 (by simp))
   have hBg16 := hBg16.chg hc77 (p_i18_i10 g16 (by simp))
   have p_iD000078_i45 : ∀ x ∈ blkL ao78, x ∉ (blkL ao45) := fun x hx hy => absurd (hM x (ml hy)) (Nat.not_lt.2 (ne_iD000078 x hx))
   have p_iD000078_i39 : ∀ x ∈ blkL ao78, x ∉ (blkL ao39) := fun x hx hy => absurd (hM x (mr (ml hy))) (Nat.not_lt.2 (ne_iD000078 x hx))
   have p_iD000078_i28 : ∀ x ∈ blkL ao78, x ∉ (blkL ao28) := fun x hx hy => absurd (hM x (mr (mr (ml hy)))) (Nat.not_lt.2 (ne_iD000078 x hx))
   have p_iD000078_i18 : ∀ x ∈ blkL ao78, x ∉ ([g16]) := fun x hx hy => absurd (hM x (mr (mr (mr (ml hy))))) (Nat.not_lt.2 (ne_iD000078 x hx))
   have p_iD000078_i10 : ∀ x ∈ blkL ao78, x ∉ ([g9]) := fun x hx hy => absurd (hM x (mr (mr (mr (mr (ml hy)))))) (Nat.not_lt.2 (ne_iD000078 x hx))
   have p_iD000078_i6 : ∀ x ∈ blkL ao78, x ∉ ([g4]) := fun x hx hy => absurd (hM x (mr (mr (mr (mr (mr (ml hy))))))) (Nat.not_lt.2 (ne_iD000078 x hx))
   have p_iD000078_M : ∀ x ∈ blkL ao78, x ∉ M := fun x hx hy => absurd (hM x (mr (mr (mr (mr (mr (mr (hy)))))))) (Nat.not_lt.2 (ne_iD000078 x hx))
   have e_iD000078 : ∀ x ∈ blkL ao78, w.heap.size ≤ x := fun x hx => Nat.le_trans hC.size (ne_iD000078 x hx)
   have hM : MS (blkL ao78 ++ (blkL ao45 ++ (blkL ao39 ++ (blkL ao28 ++ ([g16] ++ ([g9] ++ ([g4] ++ (M)))))))) w77 := (MS.app (fun x h => hMn x (ml h)) (hM.chg hc77))
   have hC := hC.trans hc77 (fun x h => .inr (e_i10 x h))
   have d_iD000078 : Ok (blkL ao78) ([g9] ++ blkL ao39 ++ [g16]) w44.heap.size := fun x hx => .inr (Nat.le_trans hS.size (ne_iD000078 x hx))
   have hS := hS.trans hc77 (fun x h => .inl ((List.mem_append_left _ (List.mem_append_left _ h))))
   have hBg9 := qhBg9
   refine ae hK76 hS ?_; clear hK76 K76
   refine ac 4 (by kernel_rfl) (by rfl) fun K80 hK80 => ?_
   obtain ⟨hx81, H⟩ := ite_some H
   refine app (r := (rInt .u8)) (xs := t38.1) (ys := t77.1) ha (ElemT.mk' (bytes := 1) (by kernel_rfl)) rfl rfl rfl rfl rfl f39 f78.src hx81 (by decide) fun a w82 ao83 cap83 hO83 hc83 hk83 hl83 ha => ?_
   have o1 : Ok (blkL ao39) (blkL ao78 ++ (blkL ao45 ++ (blkL ao39 ++ (blkL ao28 ++ ([g16] ++ ([g9] ++ ([g4] ++ (M)))))))) w77.heap.size := (fun _ h => .inl (mr (mr (ml h))))
   have o2 : Ok (blkL ao83 ++ (blkL ao78 ++ (blkL ao45 ++ (blkL ao28 ++ ([g16] ++ ([g9] ++ ([g4] ++ (M)))))))) (blkL ao78 ++ (blkL ao45 ++ (blkL ao39 ++ (blkL ao28 ++ ([g16] ++ ([g9] ++ ([g4] ++ (M)))))))) w77.heap.size := (Ok.app (Ok.to hk83 (fun _ h => mr (mr (ml h)))) (Ok.app (fun _ h => .inl (ml h)) (Ok.app (fun _ h => .inl (mr (ml h))) (fun _ h => .inl (mr (mr (mr (h))))))))
   have f1 := f1.chg hc83 o1 o2
   have f78 := f78.chg hc83 o1 o2 p_iD000078_i39 (fun _ h => mr (ml h))
   have f79 := f79.chg hc83 o1 o2
   have hBg4 := hBg4.chg hc83 ((fun x (hx : x ∈ [g4]) (hy : x ∈ blkL ao39) => p_i39_i6 x hy hx) g4 (by simp))
   have hBg9 := hBg9.chg hc83 ((fun x (hx : x ∈ [g9]) (hy : x ∈ blkL ao39) => p_i39_i10 x hy hx) g9 (by simp))
   have hBg16 := hBg16.chg hc83 ((fun x (hx : x ∈ [g16]) (hy : x ∈ blkL ao39) => p_i39_i18 x hy hx) g16 (by simp))
   have p_iD000083_iD000078 : ∀ x ∈ blkL ao83, x ∉ (blkL ao78) := fun x hx hy => (hk83 x hx).elim (fun h => (fun x hx hy => p_iD000078_i39 x hy hx) x h hy) (fun h => absurd (hM x (ml hy)) (Nat.not_lt.2 h))
   have p_iD000083_i45 : ∀ x ∈ blkL ao83, x ∉ (blkL ao45) := fun x hx hy => (hk83 x hx).elim (fun h => (fun x hx hy => p_i45_i39 x hy hx) x h hy) (fun h => absurd (hM x (mr (ml hy))) (Nat.not_lt.2 h))
   have p_iD000083_i28 : ∀ x ∈ blkL ao83, x ∉ (blkL ao28) := fun x hx hy => (hk83 x hx).elim (fun h => p_i39_i28 x h hy) (fun h => absurd (hM x (mr (mr (mr (ml hy))))) (Nat.not_lt.2 h))
   have p_iD000083_i18 : ∀ x ∈ blkL ao83, x ∉ ([g16]) := fun x hx hy => (hk83 x hx).elim (fun h => p_i39_i18 x h hy) (fun h => absurd (hM x (mr (mr (mr (mr (ml hy)))))) (Nat.not_lt.2 h))
   have p_iD000083_i10 : ∀ x ∈ blkL ao83, x ∉ ([g9]) := fun x hx hy => (hk83 x hx).elim (fun h => p_i39_i10 x h hy) (fun h => absurd (hM x (mr (mr (mr (mr (mr (ml hy))))))) (Nat.not_lt.2 h))
   have p_iD000083_i6 : ∀ x ∈ blkL ao83, x ∉ ([g4]) := fun x hx hy => (hk83 x hx).elim (fun h => p_i39_i6 x h hy) (fun h => absurd (hM x (mr (mr (mr (mr (mr (mr (ml hy)))))))) (Nat.not_lt.2 h))
   have p_iD000083_M : ∀ x ∈ blkL ao83, x ∉ M := fun x hx hy => (hk83 x hx).elim (fun h => p_i39_M x h hy) (fun h => absurd (hM x (mr (mr (mr (mr (mr (mr (mr (hy))))))))) (Nat.not_lt.2 h))
   have e_iD000083 : ∀ x ∈ blkL ao83, w.heap.size ≤ x := fun x hx => (hk83 x hx).elim (e_i39 x) (Nat.le_trans hC.size)
   have hM : MS (blkL ao83 ++ (blkL ao78 ++ (blkL ao45 ++ (blkL ao28 ++ ([g16] ++ ([g9] ++ ([g4] ++ (M)))))))) w82 := (MS.app hl83 (MS.app (fun x h => hM.chg hc83 x (ml h)) (MS.app (fun x h => hM.chg hc83 x (mr (ml h))) (fun x h => hM.chg hc83 x (mr (mr (mr (h))))))))
   have hC := hC.trans hc83 (fun x h => .inr (e_i39 x h))
   have d_iD000083 : Ok (blkL ao83) ([g9] ++ blkL ao39 ++ [g16]) w44.heap.size := fun x hx => (hk83 x hx).elim (fun h => .inl ((List.mem_append_left _ (List.mem_append_right _ h)))) (fun h => .inr (Nat.le_trans hS.size h))
   have hS := hS.trans hc83 (fun x h => .inl ((List.mem_append_left _ (List.mem_append_right _ h))))
   have f83 := hO83.chg (M' := blkL ao83 ++ (blkL ao78 ++ (blkL ao45 ++ (blkL ao28 ++ ([g16] ++ ([g9] ++ ([g4] ++ (M)))))))) (Chg.refl [] _) (Ok.nil _ _) (Ok.app (fun _ h => .inl (ml h)) (Ok.to (Ok.app (fun _ h => .inl (ml h)) (Ok.app (fun _ h => .inl (mr (ml h))) (fun _ h => .inl (mr (mr (mr (h))))))) (fun _ h => mr h))) (fun _ _ h => nomatch h) (fun _ h => ml h)
   refine ae hK80 hS ?_; clear hK80 K80
   refine tkpz 5 0 (.pointer (some ⟨g16, 20, none⟩)) ha (s := hS) (q := fun a ha => ?_)
   refine ac 6 (by kernel_rfl) (by rfl) fun K84 hK84 => ?_
   refine st ha rfl rfl rfl (by kernel_rfl) rfl rfl hBg16 (Nat.le_of_ble_eq_true (by kernel_rfl)) fun a w85 ha hb2 hc86 _ => ?_
   have o1 : Ok [g16] (blkL ao83 ++ (blkL ao78 ++ (blkL ao45 ++ (blkL ao28 ++ ([g16] ++ ([g9] ++ ([g4] ++ (M)))))))) w82.heap.size := (fun _ h => .inl (mr (mr (mr (mr (ml h))))))
   have o2 : Ok (blkL ao83 ++ (blkL ao78 ++ (blkL ao45 ++ (blkL ao28 ++ ([g16] ++ ([g9] ++ ([g4] ++ (M)))))))) (blkL ao83 ++ (blkL ao78 ++ (blkL ao45 ++ (blkL ao28 ++ ([g16] ++ ([g9] ++ ([g4] ++ (M)))))))) w82.heap.size := (Ok.refl _ _)
   have f1 := f1.chg hc86 o1 o2
   have f78 := f78.chg hc86 o1 o2 p_iD000078_i18 (fun _ h => mr (ml h))
   have f83 := f83.chg hc86 o1 o2 p_iD000083_i18 (fun _ h => ml h)
   have f79 := f79.chg hc86 o1 o2
   have hBg4 := hBg4.chg hc86 ((fun x (hx : x ∈ [g4]) (hy : x ∈ [g16]) => p_i18_i6 x hy hx) g4 (by simp))
   have hBg9 := hBg9.chg hc86 ((fun x (hx : x ∈ [g9]) (hy : x ∈ [g16]) => p_i18_i10 x hy hx) g9 (by simp))
   have hM : MS (blkL ao83 ++ (blkL ao78 ++ (blkL ao45 ++ (blkL ao28 ++ ([g16] ++ ([g9] ++ ([g4] ++ (M)))))))) w85 := (hM.chg hc86)
   have hC := hC.trans hc86 (fun x h => .inr (e_i18 x h))
   have hS := hS.trans hc86 (fun x h => .inl ((List.mem_append_right _ h)))
   have hBg16 : Box w85 g16 (cS_api_Tunnel (⟨t13.1 == (1 : Int), t22.1, t30.1, (⟨(0 : Int), (List.replicate 16 (0 : Int))⟩ : S_api_Addr), (t38.1 ++ t77.1)⟩ : S_api_Tunnel) ao83 cap83) := hb2
   refine ae hK84 hS ?_; clear hK84 K84
   refine dn (by kernel_rfl) ?_
   obtain rfl := Option.some.inj H
   have o1 : Ok [] (blkL ao83 ++ (blkL ao78 ++ (blkL ao45 ++ (blkL ao28 ++ ([g16] ++ ([g9] ++ ([g4] ++ (M)))))))) w85.heap.size := Ok.nil _ _
   have o2 : Ok (blkL ao83 ++ ([g16] ++ ([g9] ++ ([g4] ++ (M))))) (blkL ao83 ++ (blkL ao78 ++ (blkL ao45 ++ (blkL ao28 ++ ([g16] ++ ([g9] ++ ([g4] ++ (M)))))))) w85.heap.size := (Ok.app (fun _ h => .inl (ml h)) (fun _ h => .inl (mr (mr (mr (mr (h)))))))
   have f1 := f1.chg (Chg.refl [] _) o1 o2
   have f79 := f79.chg (Chg.refl [] _) o1 o2
   have f83 := f83.chg (Chg.refl [] _) o1 o2 (fun _ _ h => nomatch h) (fun _ h => ml h)
   have hBg4 := hBg4.chg (Chg.refl [] _) (fun h => nomatch h)
   have hBg9 := hBg9.chg (Chg.refl [] _) (fun h => nomatch h)
   have hBg16 := hBg16.chg (Chg.refl [] _) (fun h => nomatch h)
   have hM : MS (blkL ao83 ++ ([g16] ++ ([g9] ++ ([g4] ++ (M))))) w85 := (MS.app (fun x h => hM.chg (Chg.refl [] _) x (ml h)) (fun x h => hM.chg (Chg.refl [] _) x (mr (mr (mr (mr (h)))))))
   have hC := hC.trans (Chg.refl [] _) (Ok.nil _ _)
   exact J50 _ _ ao79 cap79 ao83 cap83 (ha.sel (by kernel_rfl)) f1 f79 f83 hBg4 hBg9 hBg16 e_iD000083 p_iD000083_i18 p_iD000083_i10 p_iD000083_i6 p_iD000083_M hC hM
  ·refine ⟨_, rfl, fun K87 hK87 => ?_⟩
   obtain ⟨t88, H88, H⟩ := bind_some H
   refine cl ha (by rfl) (by kernel_rfl) (by rfl) (by rfl) (by rfl) (cursor_Reader_Take.walk w48 _ hM g9 t44.2 ao46 cap46 f46 hBg9 (mr (mr (mr (mr (ml (List.mem_singleton.2 rfl)))))) (2 : Int) _ H88) ?_
   rintro _ w88 ⟨ao89, cap89, ao90, cap90, rfl, f89, f90, qhBg9, ne_iD000089, hc88, hMn⟩ a ha
   have o1 : Ok [g9] (blkL ao45 ++ (blkL ao39 ++ (blkL ao28 ++ ([g16] ++ ([g9] ++ ([g4] ++ (M))))))) w48.heap.size := (fun _ h => .inl (mr (mr (mr (mr (ml h))))))
   have o2 : Ok (blkL ao89 ++ (blkL ao45 ++ (blkL ao39 ++ (blkL ao28 ++ ([g16] ++ ([g9] ++ ([g4] ++ (M)))))))) (blkL ao45 ++ (blkL ao39 ++ (blkL ao28 ++ ([g16] ++ ([g9] ++ ([g4] ++ (M))))))) w48.heap.size := (Ok.app (fun x h => .inr (ne_iD000089 x h)) (Ok.refl _ _))
   have f1 := f1.chg hc88 o1 o2
   have f46 := f46.chg hc88 o1 o2
   have f39 := f39.chg hc88 o1 o2 p_i39_i10 (fun _ h => mr (mr (ml h)))
   have hBg4 := hBg4.chg hc88 ((fun x (hx : x ∈ [g4]) (hy : x ∈ [g9]) => p_i10_i6 x hy hx) g4 (by simp))
   have hBg16 := hBg16.chg hc88 (p_i18_i10 g16 (by simp))
   have p_iD000089_i45 : ∀ x ∈ blkL ao89, x ∉ (blkL ao45) := fun x hx hy => absurd (hM x (ml hy)) (Nat.not_lt.2 (ne_iD000089 x hx))
   have p_iD000089_i39 : ∀ x ∈ blkL ao89, x ∉ (blkL ao39) := fun x hx hy => absurd (hM x (mr (ml hy))) (Nat.not_lt.2 (ne_iD000089 x hx))
   have p_iD000089_i28 : ∀ x ∈ blkL ao89, x ∉ (blkL ao28) := fun x hx hy => absurd (hM x (mr (mr (ml hy)))) (Nat.not_lt.2 (ne_iD000089 x hx))
   have p_iD000089_i18 : ∀ x ∈ blkL ao89, x ∉ ([g16]) := fun x hx hy => absurd (hM x (mr (mr (mr (ml hy))))) (Nat.not_lt.2 (ne_iD000089 x hx))
   have p_iD000089_i10 : ∀ x ∈ blkL ao89, x ∉ ([g9]) := fun x hx hy => absurd (hM x (mr (mr (mr (mr (ml hy)))))) (Nat.not_lt.2 (ne_iD000089 x hx))
   have p_iD000089_i6 : ∀ x ∈ blkL ao89, x ∉ ([g4]) := fun x hx hy => absurd (hM x (mr (mr (mr (mr (mr (ml hy))))))) (Nat.not_lt.2 (ne_iD000089 x hx))
   have p_iD000089_M : ∀ x ∈ blkL ao89, x ∉ M := fun x hx hy => absurd (hM x (mr (mr (mr (mr (mr (mr (hy)))))))) (Nat.not_lt.2 (ne_iD000089 x hx))
   have e_iD000089 : ∀ x ∈ blkL ao89, w.heap.size ≤ x := fun x hx => Nat.le_trans hC.size (ne_iD000089 x hx)
   have hM : MS (blkL ao89 ++ (blkL ao45 ++ (blkL ao39 ++ (blkL ao28 ++ ([g16] ++ ([g9] ++ ([g4] ++ (M)))))))) w88 := (MS.app (fun x h => hMn x (ml h)) (hM.chg hc88))
   have hC := hC.trans hc88 (fun x h => .inr (e_i10 x h))
   have d_iD000089 : Ok (blkL ao89) ([g9] ++ blkL ao39 ++ [g16]) w44.heap.size := fun x hx => .inr (Nat.le_trans hS.size (ne_iD000089 x hx))
   have hS := hS.trans hc88 (fun x h => .inl ((List.mem_append_left _ (List.mem_append_left _ h))))
   have hBg9 := qhBg9
   refine ae hK87 hS ?_; clear hK87 K87
   refine ac 1 (by kernel_rfl) (by rfl) fun K91 hK91 => ?_
   refine ld (v := .slice ao39 t38.1.length cap39) ha rfl (by kernel_rfl) rfl rfl rfl (hBg16.cell' (o := 20) rfl (by kernel_rfl)) fun a ha => ?_
   refine ae hK91 hS ?_; clear hK91 K91
   refine ac 4 (by kernel_rfl) (by rfl) fun K92 hK92 => ?_
   obtain ⟨hx93, H⟩ := ite_some H
   refine app (r := (rInt .u8)) (xs := t38.1) (ys := t88.1) ha (ElemT.mk' (bytes := 1) (by kernel_rfl)) rfl rfl rfl rfl rfl f39 f89.src hx93 (by decide) fun a w94 ao95 cap95 hO95 hc95 hk95 hl95 ha => ?_
   have o1 : Ok (blkL ao39) (blkL ao89 ++ (blkL ao45 ++ (blkL ao39 ++ (blkL ao28 ++ ([g16] ++ ([g9] ++ ([g4] ++ (M)))))))) w88.heap.size := (fun _ h => .inl (mr (mr (ml h))))
   have o2 : Ok (blkL ao95 ++ (blkL ao89 ++ (blkL ao45 ++ (blkL ao28 ++ ([g16] ++ ([g9] ++ ([g4] ++ (M)))))))) (blkL ao89 ++ (blkL ao45 ++ (blkL ao39 ++ (blkL ao28 ++ ([g16] ++ ([g9] ++ ([g4] ++ (M)))))))) w88.heap.size := (Ok.app (Ok.to hk95 (fun _ h => mr (mr (ml h)))) (Ok.app (fun _ h => .inl (ml h)) (Ok.app (fun _ h => .inl (mr (ml h))) (fun _ h => .inl (mr (mr (mr (h))))))))
   have f1 := f1.chg hc95 o1 o2
   have f89 := f89.chg hc95 o1 o2 p_iD000089_i39 (fun _ h => mr (ml h))
   have f90 := f90.chg hc95 o1 o2
   have hBg4 := hBg4.chg hc95 ((fun x (hx : x ∈ [g4]) (hy : x ∈ blkL ao39) => p_i39_i6 x hy hx) g4 (by simp))
   have hBg9 := hBg9.chg hc95 ((fun x (hx : x ∈ [g9]) (hy : x ∈ blkL ao39) => p_i39_i10 x hy hx) g9 (by simp))
   have hBg16 := hBg16.chg hc95 ((fun x (hx : x ∈ [g16]) (hy : x ∈ blkL ao39) => p_i39_i18 x hy hx) g16 (by simp))
   have p_iD000095_iD000089 : ∀ x ∈ blkL ao95, x ∉ (blkL ao89) := fun x hx hy => (hk95 x hx).elim (fun h => (fun x hx hy => p_iD000089_i39 x hy hx) x h hy) (fun h => absurd (hM x (ml hy)) (Nat.not_lt.2 h))
   have p_iD000095_i45 : ∀ x ∈ blkL ao95, x ∉ (blkL ao45) := fun x hx hy => (hk95 x hx).elim (fun h => (fun x hx hy => p_i45_i39 x hy hx) x h hy) (fun h => absurd (hM x (mr (ml hy))) (Nat.not_lt.2 h))
   have p_iD000095_i28 : ∀ x ∈ blkL ao95, x ∉ (blkL ao28) := fun x hx hy => (hk95 x hx).elim (fun h => p_i39_i28 x h hy) (fun h => absurd (hM x (mr (mr (mr (ml hy))))) (Nat.not_lt.2 h))
   have p_iD000095_i18 : ∀ x ∈ blkL ao95, x ∉ ([g16]) := fun x hx hy => (hk95 x hx).elim (fun h => p_i39_i18 x h hy) (fun h => absurd (hM x (mr (mr (mr (mr (ml hy)))))) (Nat.not_lt.2 h))
   have p_iD000095_i10 : ∀ x ∈ blkL ao95, x ∉ ([g9]) := fun x hx hy => (hk95 x hx).elim (fun h => p_i39_i10 x h hy) (fun h => absurd (hM x (mr (mr (mr (mr (mr (ml hy))))))) (Nat.not_lt.2 h))
   have p_iD000095_i6 : ∀ x ∈ blkL ao95, x ∉ ([g4]) := fun x hx hy => (hk95 x hx).elim (fun h => p_i39_i6 x h hy) (fun h => absurd (hM x (mr (mr (mr (mr (mr (mr (ml hy)))))))) (Nat.not_lt.2 h))
   have p_iD000095_M : ∀ x ∈ blkL ao95, x ∉ M := fun x hx hy => (hk95 x hx).elim (fun h => p_i39_M x h hy) (fun h => absurd (hM x (mr (mr (mr (mr (mr (mr (mr (hy))))))))) (Nat.not_lt.2 h))
   have e_iD000095 : ∀ x ∈ blkL ao95, w.heap.size ≤ x := fun x hx => (hk95 x hx).elim (e_i39 x) (Nat.le_trans hC.size)
   have hM : MS (blkL ao95 ++ (blkL ao89 ++ (blkL ao45 ++ (blkL ao28 ++ ([g16] ++ ([g9] ++ ([g4] ++ (M)))))))) w94 := (MS.app hl95 (MS.app (fun x h => hM.chg hc95 x (ml h)) (MS.app (fun x h => hM.chg hc95 x (mr (ml h))) (fun x h => hM.chg hc95 x (mr (mr (mr (h))))))))
   have hC := hC.trans hc95 (fun x h => .inr (e_i39 x h))
   have d_iD000095 : Ok (blkL ao95) ([g9] ++ blkL ao39 ++ [g16]) w44.heap.size := fun x hx => (hk95 x hx).elim (fun h => .inl ((List.mem_append_left _ (List.mem_append_right _ h)))) (fun h => .inr (Nat.le_trans hS.size h))
   have hS := hS.trans hc95 (fun x h => .inl ((List.mem_append_left _ (List.mem_append_right _ h))))
   have f95 := hO95.chg (M' := blkL ao95 ++ (blkL ao89 ++ (blkL ao45 ++ (blkL ao28 ++ ([g16] ++ ([g9] ++ ([g4] ++ (M)))))))) (Chg.refl [] _) (Ok.nil _ _) (Ok.app (fun _ h => .inl (ml h)) (Ok.to (Ok.app (fun _ h => .inl (ml h)) (Ok.app (fun _ h => .inl (mr (ml h))) (fun _ h => .inl (mr (mr (mr (h))))))) (fun _ h => mr h))) (fun _ _ h => nomatch h) (fun _ h => ml h)
   refine ae hK92 hS ?_; clear hK92 K92
   refine tkpz 5 0 (.pointer (some ⟨g16, 20, none⟩)) ha (s := hS) (q := fun a ha => ?_)
   refine ac 6 (by kernel_rfl) (by rfl) fun K96 hK96 => ?_
   refine st ha rfl rfl rfl (by kernel_rfl) rfl rfl hBg16 (Nat.le_of_ble_eq_true (by kernel_rfl)) fun a w97 ha hb2 hc98 _ => ?_
   have o1 : Ok [g16] (blkL ao95 ++ (blkL ao89 ++ (blkL ao45 ++ (blkL ao28 ++ ([g16] ++ ([g9] ++ ([g4] ++ (M)))))))) w94.heap.size := (fun _ h => .inl (mr (mr (mr (mr (ml h))))))
   have o2 : Ok (blkL ao95 ++ (blkL ao89 ++ (blkL ao45 ++ (blkL ao28 ++ ([g16] ++ ([g9] ++ ([g4] ++ (M)))))))) (blkL ao95 ++ (blkL ao89 ++ (blkL ao45 ++ (blkL ao28 ++ ([g16] ++ ([g9] ++ ([g4] ++ (M)))))))) w94.heap.size := (Ok.refl _ _)
   have f1 := f1.chg hc98 o1 o2
   have f89 := f89.chg hc98 o1 o2 p_iD000089_i18 (fun _ h => mr (ml h))
   have f95 := f95.chg hc98 o1 o2 p_iD000095_i18 (fun _ h => ml h)
   have f90 := f90.chg hc98 o1 o2
   have hBg4 := hBg4.chg hc98 ((fun x (hx : x ∈ [g4]) (hy : x ∈ [g16]) => p_i18_i6 x hy hx) g4 (by simp))
   have hBg9 := hBg9.chg hc98 ((fun x (hx : x ∈ [g9]) (hy : x ∈ [g16]) => p_i18_i10 x hy hx) g9 (by simp))
   have hM : MS (blkL ao95 ++ (blkL ao89 ++ (blkL ao45 ++ (blkL ao28 ++ ([g16] ++ ([g9] ++ ([g4] ++ (M)))))))) w97 := (hM.chg hc98)
   have hC := hC.trans hc98 (fun x h => .inr (e_i18 x h))
   have hS := hS.trans hc98 (fun x h => .inl ((List.mem_append_right _ h)))
   have hBg16 : Box w97 g16 (cS_api_Tunnel (⟨t13.1 == (1 : Int), t22.1, t30.1, (⟨(0 : Int), (List.replicate 16 (0 : Int))⟩ : S_api_Addr), (t38.1 ++ t88.1)⟩ : S_api_Tunnel) ao95 cap95) := hb2
   refine ae hK96 hS ?_; clear hK96 K96
   refine dn (by kernel_rfl) ?_
   obtain rfl := Option.some.inj H
   have o1 : Ok [] (blkL ao95 ++ (blkL ao89 ++ (blkL ao45 ++ (blkL ao28 ++ ([g16] ++ ([g9] ++ ([g4] ++ (M)))))))) w97.heap.size := Ok.nil _ _
   have o2 : Ok (blkL ao95 ++ ([g16] ++ ([g9] ++ ([g4] ++ (M))))) (blkL ao95 ++ (blkL ao89 ++ (blkL ao45 ++ (blkL ao28 ++ ([g16] ++ ([g9] ++ ([g4] ++ (M)))))))) w97.heap.size := (Ok.app (fun _ h => .inl (ml h)) (fun _ h => .inl (mr (mr (mr (mr (h)))))))
   have f1 := f1.chg (Chg.refl [] _) o1 o2
   have f90 := f90.chg (Chg.refl [] _) o1 o2
   have f95 := f95.chg (Chg.refl [] _) o1 o2 (fun _ _ h => nomatch h) (fun _ h => ml h)
   have hBg4 := hBg4.chg (Chg.refl [] _) (fun h => nomatch h)
   have hBg9 := hBg9.chg (Chg.refl [] _) (fun h => nomatch h)
   have hBg16 := hBg16.chg (Chg.refl [] _) (fun h => nomatch h)
   have hM : MS (blkL ao95 ++ ([g16] ++ ([g9] ++ ([g4] ++ (M))))) w97 := (MS.app (fun x h => hM.chg (Chg.refl [] _) x (ml h)) (fun x h => hM.chg (Chg.refl [] _) x (mr (mr (mr (mr (h)))))))
   have hC := hC.trans (Chg.refl [] _) (Ok.nil _ _)
   exact J50 _ _ ao90 cap90 ao95 cap95 (ha.sel (by kernel_rfl)) f1 f90 f95 hBg4 hBg9 hBg16 e_iD000095 p_iD000095_i18 p_iD000095_i10 p_iD000095_i6 p_iD000095_M hC hM
 ·have H := ite_f hc36 H
  refine wp_seq_k fun K99 hK99 => ?_
  obtain ⟨s100, H100, H⟩ := bind_some H
  have J100 : ∀ (a : Act) (w100 : World), Has a Tryd.f15.ntmps [(0, .slice ao1 a0.length cap1), (2, .pointer (some ⟨g4, 0, none⟩)), (4, .pointer (some ⟨g9, 0, none⟩)), (5, .pointer (some ⟨g16, 0, none⟩)), (26, .int .i64 t22.1), (50, .bool s100)] → (RSl (rInt .u8) 5 w100 ([g16] ++ ([g9] ++ ([g4] ++ (M)))) ao1 cap1 a0) → (RSl (rInt .u8) 5 w100 ([g16] ++ ([g9] ++ ([g4] ++ (M)))) ao29 cap29 t27.2.rest.left) → (Box w100 g4 (cS_api_Tunnel (⟨false, (0 : Int), (0 : Int), (⟨(0 : Int), (List.replicate 16 (0 : Int))⟩ : S_api_Addr), ([] : List Int)⟩ : S_api_Tunnel) none 0)) → (Box w100 g9 (cS_cursor_Reader t27.2 ao29 cap29)) → (Box w100 g16 (cS_api_Tunnel (⟨t13.1 == (1 : Int), t22.1, t30.1, (⟨(0 : Int), (List.replicate 16 (0 : Int))⟩ : S_api_Addr), ([] : List Int)⟩ : S_api_Tunnel) none 0)) → (Chg [] w w100) → (MS ([g16] ++ ([g9] ++ ([g4] ++ (M)))) w100) → K99 a w100 := by
   intro a w100 ha f1 f29 hBg4 hBg9 hBg16 hC hM
   refine hK99 _ _ ?_; try clear hK99 K99
   refine cnd ha rfl (fun hc101 => ?_) (fun hc101 => ?_)
   ·have H := ite_t hc101 H
    refine wp_seq_k fun K102 hK102 => ?_
    refine wp_region_lit ?_
    refine seg ha 1 [(0, .slice ao1 a0.length cap1), (2, .pointer (some ⟨g4, 0, none⟩)), (4, .pointer (some ⟨g9, 0, none⟩)), (5, .pointer (some ⟨g16, 0, none⟩)), (53, .pointer (some ⟨g9, 0, none⟩))] (by kernel_rfl) fun a ha => ?_
    obtain ⟨t103, H103, H⟩ := bind_some H
    refine cl ha (by rfl) (by kernel_rfl) (by rfl) (by rfl) (by rfl) (cursor_Reader_Take.walk w100 _ hM g9 t27.2 ao29 cap29 f29 hBg9 (mr (ml (List.mem_singleton.2 rfl))) (3 : Int) _ H103) ?_
    rintro _ w103 ⟨ao104, cap104, ao105, cap105, rfl, f104, f105, qhBg9, ne_i104, hc103, hMn⟩ a ha
    have o1 : Ok [g9] ([g16] ++ ([g9] ++ ([g4] ++ (M)))) w100.heap.size := (fun _ h => .inl (mr (ml h)))
    have o2 : Ok (blkL ao104 ++ ([g16] ++ ([g9] ++ ([g4] ++ (M))))) ([g16] ++ ([g9] ++ ([g4] ++ (M)))) w100.heap.size := (Ok.app (fun x h => .inr (ne_i104 x h)) (Ok.refl _ _))
    have f1 := f1.chg hc103 o1 o2
    have f29 := f29.chg hc103 o1 o2
    have hBg4 := hBg4.chg hc103 ((fun x (hx : x ∈ [g4]) (hy : x ∈ [g9]) => p_i10_i6 x hy hx) g4 (by simp))
    have hBg16 := hBg16.chg hc103 (p_i18_i10 g16 (by simp))
    have p_i104_i18 : ∀ x ∈ blkL ao104, x ∉ ([g16]) := fun x hx hy => absurd (hM x (ml hy)) (Nat.not_lt.2 (ne_i104 x hx))
    have p_i104_i10 : ∀ x ∈ blkL ao104, x ∉ ([g9]) := fun x hx hy => absurd (hM x (mr (ml hy))) (Nat.not_lt.2 (ne_i104 x hx))
    have p_i104_i6 : ∀ x ∈ blkL ao104, x ∉ ([g4]) := fun x hx hy => absurd (hM x (mr (mr (ml hy)))) (Nat.not_lt.2 (ne_i104 x hx))
    have p_i104_M : ∀ x ∈ blkL ao104, x ∉ M := fun x hx hy => absurd (hM x (mr (mr (mr (hy))))) (Nat.not_lt.2 (ne_i104 x hx))
    have e_i104 : ∀ x ∈ blkL ao104, w.heap.size ≤ x := fun x hx => Nat.le_trans hC.size (ne_i104 x hx)
    have hM : MS (blkL ao104 ++ ([g16] ++ ([g9] ++ ([g4] ++ (M))))) w103 := (MS.app (fun x h => hMn x (ml h)) (hM.chg hc103))
    have hC := hC.trans hc103 (fun x h => .inr (e_i10 x h))
    have hBg9 := qhBg9
    refine hK102 _ _ ?_; try clear hK102 K102
    refine wp_seq_k fun K106 hK106 => ?_
    refine wp_region_lit ?_
    refine seg ha 2 [(0, .slice ao1 a0.length cap1), (2, .pointer (some ⟨g4, 0, none⟩)), (4, .pointer (some ⟨g9, 0, none⟩)), (5, .pointer (some ⟨g16, 0, none⟩)), (55, .pointer (some ⟨g9, 0, none⟩)), (56, .pointer (some ⟨g9, 0, none⟩))] (by kernel_rfl) fun a ha => ?_
    obtain ⟨t107, H107, H⟩ := bind_some H
    refine cl ha (by rfl) (by kernel_rfl) (by rfl) (by rfl) (by rfl) (cursor_Reader_Num.walk w103 _ hM g9 t103.2 ao105 cap105 f105 hBg9 (mr (mr (ml (List.mem_singleton.2 rfl)))) (1 : Int) k _ H107) ?_
    rintro _ w107 ⟨ao108, cap108, rfl, f108, qhBg9, hc107, hMn⟩ a ha
    have o1 : Ok [g9] (blkL ao104 ++ ([g16] ++ ([g9] ++ ([g4] ++ (M))))) w103.heap.size := (fun _ h => .inl (mr (mr (ml h))))
    have o2 : Ok (blkL ao104 ++ ([g16] ++ ([g9] ++ ([g4] ++ (M))))) (blkL ao104 ++ ([g16] ++ ([g9] ++ ([g4] ++ (M))))) w103.heap.size := (Ok.refl _ _)
    have f1 := f1.chg hc107 o1 o2
    have f105 := f105.chg hc107 o1 o2
    have hBg4 := hBg4.chg hc107 ((fun x (hx : x ∈ [g4]) (hy : x ∈ [g9]) => p_i10_i6 x hy hx) g4 (by simp))
    have hBg16 := hBg16.chg hc107 (p_i18_i10 g16 (by simp))
    have hM : MS (blkL ao104 ++ ([g16] ++ ([g9] ++ ([g4] ++ (M))))) w107 := (hM.chg hc107)
    have hC := hC.trans hc107 (fun x h => .inr (e_i10 x h))
    have hBg9 := qhBg9
    obtain ⟨t109, H109, H⟩ := bind_some H
    refine cl ha (by rfl) (by kernel_rfl) (by rfl) (by rfl) (by rfl) (pmsi_root.walk w107 _ hM g9 t107.2 ao108 cap108 f108 hBg9 (mr (mr (ml (List.mem_singleton.2 rfl)))) t107.1 _ H109) ?_
    rintro _ w109 ⟨ao110, cap110, rfl, f110, qhBg9, hc109, hMn⟩ a ha
    have o1 : Ok [g9] (blkL ao104 ++ ([g16] ++ ([g9] ++ ([g4] ++ (M))))) w107.heap.size := (fun _ h => .inl (mr (mr (ml h))))
    have o2 : Ok (blkL ao104 ++ ([g16] ++ ([g9] ++ ([g4] ++ (M))))) (blkL ao104 ++ ([g16] ++ ([g9] ++ ([g4] ++ (M))))) w107.heap.size := (Ok.refl _ _)
    have f1 := f1.chg hc109 o1 o2
    have f108 := f108.chg hc109 o1 o2
    have hBg4 := hBg4.chg hc109 ((fun x (hx : x ∈ [g4]) (hy : x ∈ [g9]) => p_i10_i6 x hy hx) g4 (by simp))
    have hBg16 := hBg16.chg hc109 (p_i18_i10 g16 (by simp))
    have hM : MS (blkL ao104 ++ ([g16] ++ ([g9] ++ ([g4] ++ (M))))) w109 := (hM.chg hc109)
    have hC := hC.trans hc109 (fun x h => .inr (e_i10 x h))
    have hBg9 := qhBg9
    refine seg ha 1 [(0, .slice ao1 a0.length cap1), (2, .pointer (some ⟨g4, 0, none⟩)), (4, .pointer (some ⟨g9, 0, none⟩)), (5, .pointer (some ⟨g16, 0, none⟩)), (58, .agg (cS_api_Addr t109.1).toArray), (59, .pointer (some ⟨g16, 3, none⟩))] (by kernel_rfl) fun a ha => ?_
    refine stA (l := (cS_api_Addr t109.1)) ha rfl rfl rfl (by kernel_rfl) rfl rfl hBg16 rfl fun a w111 ha hb2 hc112 _ => ?_
    have o1 : Ok [g16] (blkL ao104 ++ ([g16] ++ ([g9] ++ ([g4] ++ (M))))) w109.heap.size := (fun _ h => .inl (mr (ml h)))
    have o2 : Ok (blkL ao104 ++ ([g16] ++ ([g9] ++ ([g4] ++ (M))))) (blkL ao104 ++ ([g16] ++ ([g9] ++ ([g4] ++ (M))))) w109.heap.size := (Ok.refl _ _)
    have f1 := f1.chg hc112 o1 o2
    have f110 := f110.chg hc112 o1 o2
    have hBg4 := hBg4.chg hc112 ((fun x (hx : x ∈ [g4]) (hy : x ∈ [g16]) => p_i18_i6 x hy hx) g4 (by simp))
    have hBg9 := hBg9.chg hc112 ((fun x (hx : x ∈ [g9]) (hy : x ∈ [g16]) => p_i18_i10 x hy hx) g9 (by simp))
    have hM : MS (blkL ao104 ++ ([g16] ++ ([g9] ++ ([g4] ++ (M))))) w111 := (hM.chg hc112)
    have hC := hC.trans hc112 (fun x h => .inr (e_i18 x h))
    have hBg16 : Box w111 g16 (cS_api_Tunnel (⟨t13.1 == (1 : Int), t22.1, t30.1, t109.1, ([] : List Int)⟩ : S_api_Tunnel) none 0) := hb2
    refine hK106 _ _ ?_; try clear hK106 K106
    refine wp_region_lit ?_
    refine seg ha 2 [(0, .slice ao1 a0.length cap1), (2, .pointer (some ⟨g4, 0, none⟩)), (4, .pointer (some ⟨g9, 0, none⟩)), (5, .pointer (some ⟨g16, 0, none⟩)), (60, .pointer (some ⟨g9, 0, none⟩)), (61, .pointer (some ⟨g9, 0, none⟩))] (by kernel_rfl) fun a ha => ?_
    obtain ⟨t113, H113, H⟩ := bind_some H
    refine cl ha (by rfl) (by kernel_rfl) (by rfl) (by rfl) (by rfl) (cursor_Reader_Num.walk w111 _ hM g9 t109.2 ao110 cap110 f110 hBg9 (mr (mr (ml (List.mem_singleton.2 rfl)))) (2 : Int) k _ H113) ?_
    rintro _ w113 ⟨ao114, cap114, rfl, f114, qhBg9, hc113, hMn⟩ a ha
    have o1 : Ok [g9] (blkL ao104 ++ ([g16] ++ ([g9] ++ ([g4] ++ (M))))) w111.heap.size := (fun _ h => .inl (mr (mr (ml h))))
    have o2 : Ok (blkL ao104 ++ ([g16] ++ ([g9] ++ ([g4] ++ (M))))) (blkL ao104 ++ ([g16] ++ ([g9] ++ ([g4] ++ (M))))) w111.heap.size := (Ok.refl _ _)
    have f1 := f1.chg hc113 o1 o2
    have f110 := f110.chg hc113 o1 o2
    have hBg4 := hBg4.chg hc113 ((fun x (hx : x ∈ [g4]) (hy : x ∈ [g9]) => p_i10_i6 x hy hx) g4 (by simp))
    have hBg16 := hBg16.chg hc113 (p_i18_i10 g16 (by simp))
    have hM : MS (blkL ao104 ++ ([g16] ++ ([g9] ++ ([g4] ++ (M))))) w113 := (hM.chg hc113)
    have hC := hC.trans hc113 (fun x h => .inr (e_i10 x h))
    have hBg9 := qhBg9
    obtain ⟨t115, H115, H⟩ := bind_some H
    refine cl ha (by rfl) (by kernel_rfl) (by rfl) (by rfl) (by rfl) (cursor_Reader_Take.walk w113 _ hM g9 t113.2 ao114 cap114 f114 hBg9 (mr (mr (ml (List.mem_singleton.2 rfl)))) t113.1 _ H115) ?_
    rintro _ w115 ⟨ao116, cap116, ao117, cap117, rfl, f116, f117, qhBg9, ne_i116, hc115, hMn⟩ a ha
    have o1 : Ok [g9] (blkL ao104 ++ ([g16] ++ ([g9] ++ ([g4] ++ (M))))) w113.heap.size := (fun _ h => .inl (mr (mr (ml h))))
    have o2 : Ok (blkL ao116 ++ (blkL ao104 ++ ([g16] ++ ([g9] ++ ([g4] ++ (M)))))) (blkL ao104 ++ ([g16] ++ ([g9] ++ ([g4] ++ (M))))) w113.heap.size := (Ok.app (fun x h => .inr (ne_i116 x h)) (Ok.refl _ _))
    have f1 := f1.chg hc115 o1 o2
    have f114 := f114.chg hc115 o1 o2
    have hBg4 := hBg4.chg hc115 ((fun x (hx : x ∈ [g4]) (hy : x ∈ [g9]) => p_i10_i6 x hy hx) g4 (by simp))
    have hBg16 := hBg16.chg hc115 (p_i18_i10 g16 (by simp))
    have p_i116_i104 : ∀ x ∈ blkL ao116, x ∉ (blkL ao104) := fun x hx hy => absurd (hM x (ml hy)) (Nat.not_lt.2 (ne_i116 x hx))
    have p_i116_i18 : ∀ x ∈ blkL ao116, x ∉ ([g16]) := fun x hx hy => absurd (hM x (mr (ml hy))) (Nat.not_lt.2 (ne_i116 x hx))
    have p_i116_i10 : ∀ x ∈ blkL ao116, x ∉ ([g9]) := fun x hx hy => absurd (hM x (mr (mr (ml hy)))) (Nat.not_lt.2 (ne_i116 x hx))
    have p_i116_i6 : ∀ x ∈ blkL ao116, x ∉ ([g4]) := fun x hx hy => absurd (hM x (mr (mr (mr (ml hy))))) (Nat.not_lt.2 (ne_i116 x hx))
    have p_i116_M : ∀ x ∈ blkL ao116, x ∉ M := fun x hx hy => absurd (hM x (mr (mr (mr (mr (hy)))))) (Nat.not_lt.2 (ne_i116 x hx))
    have e_i116 : ∀ x ∈ blkL ao116, w.heap.size ≤ x := fun x hx => Nat.le_trans hC.size (ne_i116 x hx)
    have hM : MS (blkL ao116 ++ (blkL ao104 ++ ([g16] ++ ([g9] ++ ([g4] ++ (M)))))) w115 := (MS.app (fun x h => hMn x (ml h)) (hM.chg hc115))
    have hC := hC.trans hc115 (fun x h => .inr (e_i10 x h))
    have hBg9 := qhBg9
    refine seg ha 1 [(0, .slice ao1 a0.length cap1), (2, .pointer (some ⟨g4, 0, none⟩)), (4, .pointer (some ⟨g9, 0, none⟩)), (5, .pointer (some ⟨g16, 0, none⟩)), (63, .slice ao116 t115.1.length cap116), (64, .pointer (some ⟨g16, 20, none⟩))] (by kernel_rfl) fun a ha => ?_
    refine st ha rfl rfl rfl (by kernel_rfl) rfl rfl hBg16 (Nat.le_of_ble_eq_true (by kernel_rfl)) fun a w118 ha hb2 hc119 _ => ?_
    have o1 : Ok [g16] (blkL ao116 ++ (blkL ao104 ++ ([g16] ++ ([g9] ++ ([g4] ++ (M)))))) w115.heap.size := (fun _ h => .inl (mr (mr (ml h))))
    have o2 : Ok (blkL ao116 ++ (blkL ao104 ++ ([g16] ++ ([g9] ++ ([g4] ++ (M)))))) (blkL ao116 ++ (blkL ao104 ++ ([g16] ++ ([g9] ++ ([g4] ++ (M)))))) w115.heap.size := (Ok.refl _ _)
    have f1 := f1.chg hc119 o1 o2
    have f116 := f116.chg hc119 o1 o2 p_i116_i18 (fun _ h => ml h)
    have f117 := f117.chg hc119 o1 o2
    have hBg4 := hBg4.chg hc119 ((fun x (hx : x ∈ [g4]) (hy : x ∈ [g16]) => p_i18_i6 x hy hx) g4 (by simp))
    have hBg9 := hBg9.chg hc119 ((fun x (hx : x ∈ [g9]) (hy : x ∈ [g16]) => p_i18_i10 x hy hx) g9 (by simp))
    have hM : MS (blkL ao116 ++ (blkL ao104 ++ ([g16] ++ ([g9] ++ ([g4] ++ (M)))))) w118 := (hM.chg hc119)
    have hC := hC.trans hc119 (fun x h => .inr (e_i18 x h))
    have hBg16 : Box w118 g16 (cS_api_Tunnel (⟨t13.1 == (1 : Int), t22.1, t30.1, t109.1, t115.1⟩ : S_api_Tunnel) ao116 cap116) := hb2
    refine hK33 _ _ ?_; try clear hK33 K33
    refine wp_seq_k fun K120 hK120 => ?_
    refine wp_seq_k fun K121 hK121 => ?_
    refine wp_region_lit ?_
    refine ldA (cs := (cS_api_Tunnel (⟨t13.1 == (1 : Int), t22.1, t30.1, t109.1, t115.1⟩ : S_api_Tunnel) ao116 cap116)) ha rfl (by kernel_rfl) rfl rfl rfl (cells_sub (Box.cells hBg16) (all := (cS_api_Tunnel (⟨t13.1 == (1 : Int), t22.1, t30.1, t109.1, t115.1⟩ : S_api_Tunnel) ao116 cap116)) [] [] (by kernel_rfl)) fun a ha => ?_
    have hML : MS (blkL ao104 ++ ([g16] ++ ([g9] ++ ([g4] ++ (M))))) w118 := MS.rest hM (fun _ h => (List.mem_append.1 h).elim (fun h => mr (ml h)) (fun h => (List.mem_append.1 h).elim (fun h => mr (mr (ml h))) (fun h => (List.mem_append.1 h).elim (fun h => mr (mr (mr (ml h)))) (fun h => (List.mem_append.1 h).elim (fun h => mr (mr (mr (mr (ml h))))) (fun h => mr (mr (mr (mr (mr (h))))))))))
    have oL : Ok (blkL ao104 ++ ([g16] ++ ([g9] ++ ([g4] ++ (M))))) (blkL ao116 ++ (blkL ao104 ++ ([g16] ++ ([g9] ++ ([g4] ++ (M)))))) w118.heap.size := (fun _ h => .inl (mr (h)))
    obtain ⟨t122, H122, H⟩ := bind_some H
    refine cl ha (by rfl) (by kernel_rfl) (by rfl) (by rfl) (by rfl) (pmsi_Bytes.walk w118 _ hML (⟨t13.1 == (1 : Int), t22.1, t30.1, t109.1, t115.1⟩ : S_api_Tunnel) ao116 cap116 (Own.toRSl (M' := blkL ao104 ++ ([g16] ++ ([g9] ++ ([g4] ++ (M))))) f116 oL (fun x hx hm => (List.mem_append.1 hm).elim (fun h => p_i116_i104 x hx h) (fun h => (List.mem_append.1 h).elim (fun h => p_i116_i18 x hx h) (fun h => (List.mem_append.1 h).elim (fun h => p_i116_i10 x hx h) (fun h => (List.mem_append.1 h).elim (fun h => p_i116_i6 x hx h) (fun h => p_i116_M x hx h)))))) k _ H122) ?_
    rintro _ w122 ⟨ao123, cap123, rfl, f123, ne_i123, hc122, hMn⟩ a ha
    have o1 : Ok [] (blkL ao116 ++ (blkL ao104 ++ ([g16] ++ ([g9] ++ ([g4] ++ (M)))))) w118.heap.size := Ok.nil _ _
    have o2 : Ok (blkL ao123 ++ (blkL ao116 ++ (blkL ao104 ++ ([g16] ++ ([g9] ++ ([g4] ++ (M))))))) (blkL ao116 ++ (blkL ao104 ++ ([g16] ++ ([g9] ++ ([g4] ++ (M)))))) w118.heap.size := (Ok.app (fun x h => .inr (ne_i123 x h)) (Ok.refl _ _))
    have f1 := f1.chg hc122 o1 o2
    have f116 := f116.chg hc122 o1 o2 (fun _ _ h => nomatch h) (fun _ h => mr (ml h))
    have f117 := f117.chg hc122 o1 o2
    have hBg4 := hBg4.chg hc122 (fun h => nomatch h)
    have hBg9 := hBg9.chg hc122 (fun h => nomatch h)
    have hBg16 := hBg16.chg hc122 (fun h => nomatch h)
    have p_i123_i116 : ∀ x ∈ blkL ao123, x ∉ (blkL ao116) := fun x hx hy => absurd (hM x (ml hy)) (Nat.not_lt.2 (ne_i123 x hx))
    have p_i123_i104 : ∀ x ∈ blkL ao123, x ∉ (blkL ao104) := fun x hx hy => absurd (hM x (mr (ml hy))) (Nat.not_lt.2 (ne_i123 x hx))
    have p_i123_i18 : ∀ x ∈ blkL ao123, x ∉ ([g16]) := fun x hx hy => absurd (hM x (mr (mr (ml hy)))) (Nat.not_lt.2 (ne_i123 x hx))
    have p_i123_i10 : ∀ x ∈ blkL ao123, x ∉ ([g9]) := fun x hx hy => absurd (hM x (mr (mr (mr (ml hy))))) (Nat.not_lt.2 (ne_i123 x hx))
    have p_i123_i6 : ∀ x ∈ blkL ao123, x ∉ ([g4]) := fun x hx hy => absurd (hM x (mr (mr (mr (mr (ml hy)))))) (Nat.not_lt.2 (ne_i123 x hx))
    have p_i123_M : ∀ x ∈ blkL ao123, x ∉ M := fun x hx hy => absurd (hM x (mr (mr (mr (mr (mr (hy))))))) (Nat.not_lt.2 (ne_i123 x hx))
    have e_i123 : ∀ x ∈ blkL ao123, w.heap.size ≤ x := fun x hx => Nat.le_trans hC.size (ne_i123 x hx)
    have hM : MS (blkL ao123 ++ (blkL ao116 ++ (blkL ao104 ++ ([g16] ++ ([g9] ++ ([g4] ++ (M))))))) w122 := (MS.app (fun x h => hMn x (ml h)) (hM.chg hc122))
    have hC := hC.trans hc122 (Ok.nil _ _)
    have f123 := Own.re (M' := blkL ao123 ++ (blkL ao116 ++ (blkL ao104 ++ ([g16] ++ ([g9] ++ ([g4] ++ (M))))))) (fun _ _ _ _ _ h => h) f123 (fun _ h => ml h)
    refine seg ha 5 [(0, .slice ao1 a0.length cap1), (2, .pointer (some ⟨g4, 0, none⟩)), (4, .pointer (some ⟨g9, 0, none⟩)), (5, .pointer (some ⟨g16, 0, none⟩)), (6, .slice ao123 t122.1.length cap123), (7, .int .i64 t122.2)] (by kernel_rfl) fun a ha => ?_
    refine hK121 _ _ ?_; try clear hK121 K121
    refine wp_seq_k fun K124 hK124 => ?_
    refine wp_region_lit ?_
    obtain ⟨s125, H125, H⟩ := bind_some H
    have J125 : ∀ (a : Act) (w125 : World), Has a Tryd.f15.ntmps [(2, .pointer (some ⟨g4, 0, none⟩)), (5, .pointer (some ⟨g16, 0, none⟩)), (102, .bool s125)] → (RSl (rInt .u8) 5 w125 (blkL ao116 ++ ([g16] ++ ([g9] ++ ([g4] ++ (M))))) ao117 cap117 t115.2.rest.left) → (Own (rInt .u8) 5 w125 (blkL ao116 ++ ([g16] ++ ([g9] ++ ([g4] ++ (M))))) ao116 cap116 t115.1) → (Box w125 g4 (cS_api_Tunnel (⟨false, (0 : Int), (0 : Int), (⟨(0 : Int), (List.replicate 16 (0 : Int))⟩ : S_api_Addr), ([] : List Int)⟩ : S_api_Tunnel) none 0)) → (Box w125 g9 (cS_cursor_Reader t115.2 ao117 cap117)) → (Box w125 g16 (cS_api_Tunnel (⟨t13.1 == (1 : Int), t22.1, t30.1, t109.1, t115.1⟩ : S_api_Tunnel) ao116 cap116)) → (Chg [] w w125) → (MS (blkL ao116 ++ ([g16] ++ ([g9] ++ ([g4] ++ (M))))) w125) → K124 a w125 := by
     intro a w125 ha f117 f116 hBg4 hBg9 hBg16 hC hM
     refine hK124 _ _ ?_; try clear hK124 K124
     refine cnd ha rfl (fun hc126 => ?_) (fun hc126 => ?_)
     ·have H := ite_t hc126 H
      refine wp_seq_k fun K127 hK127 => ?_
      refine wp_region_lit ?_
      refine opk (v := .agg (cS_api_Tunnel (⟨false, (0 : Int), (0 : Int), (⟨(0 : Int), (List.replicate 16 (0 : Int))⟩ : S_api_Addr), ([] : List Int)⟩ : S_api_Tunnel) none 0).toArray) ha rfl rfl rfl rfl rfl (fun w => by kernel_rfl) fun a ha => ?_
      refine stA (l := (cS_api_Tunnel (⟨false, (0 : Int), (0 : Int), (⟨(0 : Int), (List.replicate 16 (0 : Int))⟩ : S_api_Addr), ([] : List Int)⟩ : S_api_Tunnel) none 0)) ha rfl rfl rfl (by kernel_rfl) rfl rfl hBg4 rfl fun a w128 ha hb2 hc129 _ => ?_
      have o1 : Ok [g4] (blkL ao116 ++ ([g16] ++ ([g9] ++ ([g4] ++ (M))))) w125.heap.size := (fun _ h => .inl (mr (mr (mr (ml h)))))
      have o2 : Ok (blkL ao116 ++ ([g16] ++ ([g9] ++ ([g4] ++ (M))))) (blkL ao116 ++ ([g16] ++ ([g9] ++ ([g4] ++ (M))))) w125.heap.size := (Ok.refl _ _)
      have f117 := f117.chg hc129 o1 o2
      have f116 := f116.chg hc129 o1 o2 p_i116_i6 (fun _ h => ml h)
      have hBg9 := hBg9.chg hc129 (p_i10_i6 g9 (by simp))
      have hBg16 := hBg16.chg hc129 (p_i18_i6 g16 (by simp))
      have hM : MS (blkL ao116 ++ ([g16] ++ ([g9] ++ ([g4] ++ (M))))) w128 := (hM.chg hc129)
      have hC := hC.trans hc129 (fun x h => .inr (e_i6 x h))
      have hBg4 : Box w128 g4 (cS_api_Tunnel (⟨false, (0 : Int), (0 : Int), (⟨(0 : Int), (List.replicate 16 (0 : Int))⟩ : S_api_Addr), ([] : List Int)⟩ : S_api_Tunnel) none 0) := hb2
      refine seg ha 1 [(2, .pointer (some ⟨g4, 0, none⟩)), (3, .int .i64 (4 : Int))] (by kernel_rfl) fun a ha => ?_
      refine hK127 _ _ ?_; try clear hK127 K127
      refine wp_ret ?_
      try simp only [Exit.then, Exit.inBlock]
      have o1 : Ok [] (blkL ao116 ++ ([g16] ++ ([g9] ++ ([g4] ++ (M))))) w128.heap.size := Ok.nil _ _
      have o2 : Ok (blkL none ++ (M)) (blkL ao116 ++ ([g16] ++ ([g9] ++ ([g4] ++ (M))))) w128.heap.size := (Ok.app (fun _ h => nomatch h) (fun _ h => .inl (mr (mr (mr (mr (h)))))))
      have f117 := f117.chg (Chg.refl [] _) o1 o2
      have hBg4 := hBg4.chg (Chg.refl [] _) (fun h => nomatch h)
      have hBg9 := hBg9.chg (Chg.refl [] _) (fun h => nomatch h)
      have hBg16 := hBg16.chg (Chg.refl [] _) (fun h => nomatch h)
      have p_z130_M : ∀ x ∈ blkL none, x ∉ M := fun x hx hy => absurd (hM x (mr (mr (mr (mr (hy)))))) (Nat.not_lt.2 ((fun _ h => nomatch h) x hx))
      have e_z130 : ∀ x ∈ blkL none, w.heap.size ≤ x := fun x hx => Nat.le_trans hC.size ((fun _ h => nomatch h) x hx)
      have hM : MS (blkL none ++ (M)) w128 := (MS.app (fun _ h => nomatch h) (fun x h => hM.chg (Chg.refl [] _) x (mr (mr (mr (mr (h)))))))
      have hC := hC.trans (Chg.refl [] _) (Ok.nil _ _)
      obtain rfl := Option.some.inj H
      refine rtr ha (res2 rfl (roA ha rfl hBg4 (by kernel_rfl)) (roT ha rfl)) ?_
      exact ⟨none, 0, rfl, Own.nil, e_z130, hC, hM⟩
     ·have H := ite_f hc126 H
      refine wp_skip ?_
      refine hK120 _ _ ?_; try clear hK120 K120
      refine wp_seq_k fun K131 hK131 => ?_
      refine wp_region_lit ?_
      refine ldA (cs := (cS_api_Tunnel (⟨t13.1 == (1 : Int), t22.1, t30.1, t109.1, t115.1⟩ : S_api_Tunnel) ao116 cap116)) ha rfl (by kernel_rfl) rfl rfl rfl (cells_sub (Box.cells hBg16) (all := (cS_api_Tunnel (⟨t13.1 == (1 : Int), t22.1, t30.1, t109.1, t115.1⟩ : S_api_Tunnel) ao116 cap116)) [] [] (by kernel_rfl)) fun a ha => ?_
      refine stA (l := (cS_api_Tunnel (⟨t13.1 == (1 : Int), t22.1, t30.1, t109.1, t115.1⟩ : S_api_Tunnel) ao116 cap116)) ha rfl rfl rfl (by kernel_rfl) rfl rfl hBg4 rfl fun a w132 ha hb2 hc133 _ => ?_
      have o1 : Ok [g4] (blkL ao116 ++ ([g16] ++ ([g9] ++ ([g4] ++ (M))))) w125.heap.size := (fun _ h => .inl (mr (mr (mr (ml h)))))
      have o2 : Ok (blkL ao116 ++ ([g16] ++ ([g9] ++ ([g4] ++ (M))))) (blkL ao116 ++ ([g16] ++ ([g9] ++ ([g4] ++ (M))))) w125.heap.size := (Ok.refl _ _)
      have f116 := f116.chg hc133 o1 o2 p_i116_i6 (fun _ h => ml h)
      have f117 := f117.chg hc133 o1 o2
      have hBg9 := hBg9.chg hc133 (p_i10_i6 g9 (by simp))
      have hBg16 := hBg16.chg hc133 (p_i18_i6 g16 (by simp))
      have hM : MS (blkL ao116 ++ ([g16] ++ ([g9] ++ ([g4] ++ (M))))) w132 := (hM.chg hc133)
      have hC := hC.trans hc133 (fun x h => .inr (e_i6 x h))
      have hBg4 : Box w132 g4 (cS_api_Tunnel (⟨t13.1 == (1 : Int), t22.1, t30.1, t109.1, t115.1⟩ : S_api_Tunnel) ao116 cap116) := hb2
      refine seg ha 1 [(2, .pointer (some ⟨g4, 0, none⟩)), (3, .int .i64 (0 : Int))] (by kernel_rfl) fun a ha => ?_
      refine hK131 _ _ ?_; try clear hK131 K131
      refine wp_ret ?_
      try simp only [Exit.then, Exit.inBlock]
      have o1 : Ok [] (blkL ao116 ++ ([g16] ++ ([g9] ++ ([g4] ++ (M))))) w132.heap.size := Ok.nil _ _
      have o2 : Ok (blkL ao116 ++ (M)) (blkL ao116 ++ ([g16] ++ ([g9] ++ ([g4] ++ (M))))) w132.heap.size := (Ok.app (fun _ h => .inl (ml h)) (fun _ h => .inl (mr (mr (mr (mr (h)))))))
      have f116 := f116.chg (Chg.refl [] _) o1 o2 (fun _ _ h => nomatch h) (fun _ h => ml h)
      have f117 := f117.chg (Chg.refl [] _) o1 o2
      have hBg4 := hBg4.chg (Chg.refl [] _) (fun h => nomatch h)
      have hBg9 := hBg9.chg (Chg.refl [] _) (fun h => nomatch h)
      have hBg16 := hBg16.chg (Chg.refl [] _) (fun h => nomatch h)
      have hM : MS (blkL ao116 ++ (M)) w132 := (MS.app (fun x h => hM.chg (Chg.refl [] _) x (ml h)) (fun x h => hM.chg (Chg.refl [] _) x (mr (mr (mr (mr (h)))))))
      have hC := hC.trans (Chg.refl [] _) (Ok.nil _ _)
      obtain rfl := Option.some.inj H
      refine rtr ha (res2 rfl (roA ha rfl hBg4 (by kernel_rfl)) (roT ha rfl)) ?_
      exact ⟨ao116, cap116, rfl, f116, e_i116, hC, hM⟩
    have H := H125
    refine seg ha 3 [(0, .slice ao1 a0.length cap1), (2, .pointer (some ⟨g4, 0, none⟩)), (5, .pointer (some ⟨g16, 0, none⟩)), (6, .slice ao123 t122.1.length cap123), (7, .int .i64 t122.2), (91, .pointer (some ⟨g9, 0, none⟩))] (by kernel_rfl) fun a ha => ?_
    obtain ⟨t134, H134, H⟩ := bind_some H
    refine cl ha (by rfl) (by kernel_rfl) (by rfl) (by rfl) (by rfl) (cursor_rest_Bad.walk w122 _ hM g9 t115.2.rest ao117 cap117 f117 hBg9 (mr (mr (mr (mr (ml (List.mem_singleton.2 rfl)))))) _ H134) ?_
    rintro _ w134 ⟨rfl, hc134, hMn⟩ a ha
    have o1 : Ok [] (blkL ao123 ++ (blkL ao116 ++ (blkL ao104 ++ ([g16] ++ ([g9] ++ ([g4] ++ (M))))))) w122.heap.size := Ok.nil _ _
    have o2 : Ok (blkL ao123 ++ (blkL ao116 ++ (blkL ao104 ++ ([g16] ++ ([g9] ++ ([g4] ++ (M))))))) (blkL ao123 ++ (blkL ao116 ++ (blkL ao104 ++ ([g16] ++ ([g9] ++ ([g4] ++ (M))))))) w122.heap.size := (Ok.refl _ _)
    have f1 := f1.chg hc134 o1 o2
    have f123 := f123.chg hc134 o1 o2 (fun _ _ h => nomatch h) (fun _ h => ml h)
    have f117 := f117.chg hc134 o1 o2
    have f116 := f116.chg hc134 o1 o2 (fun _ _ h => nomatch h) (fun _ h => mr (ml h))
    have hBg4 := hBg4.chg hc134 (fun h => nomatch h)
    have hBg9 := hBg9.chg hc134 (fun h => nomatch h)
    have hBg16 := hBg16.chg hc134 (fun h => nomatch h)
    have hM : MS (blkL ao123 ++ (blkL ao116 ++ (blkL ao104 ++ ([g16] ++ ([g9] ++ ([g4] ++ (M))))))) w134 := (hM.chg hc134)
    have hC := hC.trans hc134 (Ok.nil _ _)
    refine seg ha 1 [(93, .bool t134), (0, .slice ao1 a0.length cap1), (2, .pointer (some ⟨g4, 0, none⟩)), (5, .pointer (some ⟨g16, 0, none⟩)), (6, .slice ao123 t122.1.length cap123), (7, .int .i64 t122.2)] (by kernel_rfl) fun a ha => ?_
    rcases Bool.eq_false_or_eq_true (t134) with hb135 | hb135
    ·have ha := ha.lit hb135
     have H := ite_t hb135 H
     refine sgh ha 9 [1, 1, 3, 0, 1, 1, 1, 1, 3] [(2, .pointer (some ⟨g4, 0, none⟩)), (5, .pointer (some ⟨g16, 0, none⟩)), (102, .bool true)] (by kernel_rfl) fun a ha => ?_
     obtain rfl := Option.some.inj H
     have o1 : Ok [] (blkL ao123 ++ (blkL ao116 ++ (blkL ao104 ++ ([g16] ++ ([g9] ++ ([g4] ++ (M))))))) w134.heap.size := Ok.nil _ _
     have o2 : Ok (blkL ao116 ++ ([g16] ++ ([g9] ++ ([g4] ++ (M))))) (blkL ao123 ++ (blkL ao116 ++ (blkL ao104 ++ ([g16] ++ ([g9] ++ ([g4] ++ (M))))))) w134.heap.size := (Ok.app (fun _ h => .inl (mr (ml h))) (fun _ h => .inl (mr (mr (mr (h))))))
     have f117 := f117.chg (Chg.refl [] _) o1 o2
     have f116 := f116.chg (Chg.refl [] _) o1 o2 (fun _ _ h => nomatch h) (fun _ h => ml h)
     have hBg4 := hBg4.chg (Chg.refl [] _) (fun h => nomatch h)
     have hBg9 := hBg9.chg (Chg.refl [] _) (fun h => nomatch h)
     have hBg16 := hBg16.chg (Chg.refl [] _) (fun h => nomatch h)
     have hM : MS (blkL ao116 ++ ([g16] ++ ([g9] ++ ([g4] ++ (M))))) w134 := (MS.app (fun x h => hM.chg (Chg.refl [] _) x (mr (ml h))) (fun x h => hM.chg (Chg.refl [] _) x (mr (mr (mr (h))))))
     have hC := hC.trans (Chg.refl [] _) (Ok.nil _ _)
     exact J125 _ _ (ha.sel (by kernel_rfl)) f117 f116 hBg4 hBg9 hBg16 hC hM
    ·have ha := ha.lit hb135
     have H := ite_f hb135 H
     refine sgh ha 4 [2, 2, 4, 0] [(97, .bool (t122.2 != (0 : Int))), (0, .slice ao1 a0.length cap1), (2, .pointer (some ⟨g4, 0, none⟩)), (5, .pointer (some ⟨g16, 0, none⟩)), (6, .slice ao123 t122.1.length cap123)] (by kernel_rfl) fun a ha => ?_
     rcases Bool.eq_false_or_eq_true (t122.2 != (0 : Int)) with hb136 | hb136
     ·have ha := ha.lit hb136
      have H := ite_t hb136 H
      refine sgh ha 5 [1, 1, 1, 1, 3] [(2, .pointer (some ⟨g4, 0, none⟩)), (5, .pointer (some ⟨g16, 0, none⟩)), (102, .bool true)] (by kernel_rfl) fun a ha => ?_
      obtain rfl := Option.some.inj H
      have o1 : Ok [] (blkL ao123 ++ (blkL ao116 ++ (blkL ao104 ++ ([g16] ++ ([g9] ++ ([g4] ++ (M))))))) w134.heap.size := Ok.nil _ _
      have o2 : Ok (blkL ao116 ++ ([g16] ++ ([g9] ++ ([g4] ++ (M))))) (blkL ao123 ++ (blkL ao116 ++ (blkL ao104 ++ ([g16] ++ ([g9] ++ ([g4] ++ (M))))))) w134.heap.size := (Ok.app (fun _ h => .inl (mr (ml h))) (fun _ h => .inl (mr (mr (mr (h))))))
      have f117 := f117.chg (Chg.refl [] _) o1 o2
      have f116 := f116.chg (Chg.refl [] _) o1 o2 (fun _ _ h => nomatch h) (fun _ h => ml h)
      have hBg4 := hBg4.chg (Chg.refl [] _) (fun h => nomatch h)
      have hBg9 := hBg9.chg (Chg.refl [] _) (fun h => nomatch h)
      have hBg16 := hBg16.chg (Chg.refl [] _) (fun h => nomatch h)
      have hM : MS (blkL ao116 ++ ([g16] ++ ([g9] ++ ([g4] ++ (M))))) w134 := (MS.app (fun x h => hM.chg (Chg.refl [] _) x (mr (ml h))) (fun x h => hM.chg (Chg.refl [] _) x (mr (mr (mr (h))))))
      have hC := hC.trans (Chg.refl [] _) (Ok.nil _ _)
      exact J125 _ _ (ha.sel (by kernel_rfl)) f117 f116 hBg4 hBg9 hBg16 hC hM
     ·have ha := ha.lit hb136
      have H := ite_f hb136 H
      refine sgh ha 2 [2, 2] [(2, .pointer (some ⟨g4, 0, none⟩)), (5, .pointer (some ⟨g16, 0, none⟩)), (97, .bool false), (98, .slice ao123 t122.1.length cap123), (99, .slice ao1 a0.length cap1)] (by kernel_rfl) fun a ha => ?_
      have hML : MS (blkL ao116 ++ (blkL ao104 ++ ([g16] ++ ([g9] ++ ([g4] ++ (M)))))) w134 := MS.rest hM (fun _ h => (List.mem_append.1 h).elim (fun h => mr (ml h)) (fun h => (List.mem_append.1 h).elim (fun h => mr (mr (ml h))) (fun h => (List.mem_append.1 h).elim (fun h => mr (mr (mr (ml h)))) (fun h => (List.mem_append.1 h).elim (fun h => mr (mr (mr (mr (ml h))))) (fun h => (List.mem_append.1 h).elim (fun h => mr (mr (mr (mr (mr (ml h)))))) (fun h => mr (mr (mr (mr (mr (mr (h))))))))))))
      have oL : Ok (blkL ao116 ++ (blkL ao104 ++ ([g16] ++ ([g9] ++ ([g4] ++ (M)))))) (blkL ao123 ++ (blkL ao116 ++ (blkL ao104 ++ ([g16] ++ ([g9] ++ ([g4] ++ (M))))))) w134.heap.size := (fun _ h => .inl (mr (h)))
      obtain ⟨t137, H137, H⟩ := bind_some H
      refine cl ha (by rfl) (by kernel_rfl) (by rfl) (by rfl) (by rfl) (bytes_Equal.walk w134 _ hML t122.1 ao123 cap123 (Own.toRSl (M' := blkL ao116 ++ (blkL ao104 ++ ([g16] ++ ([g9] ++ ([g4] ++ (M)))))) f123 oL (fun x hx hm => (List.mem_append.1 hm).elim (fun h => p_i123_i116 x hx h) (fun h => (List.mem_append.1 h).elim (fun h => p_i123_i104 x hx h) (fun h => (List.mem_append.1 h).elim (fun h => p_i123_i18 x hx h) (fun h => (List.mem_append.1 h).elim (fun h => p_i123_i10 x hx h) (fun h => (List.mem_append.1 h).elim (fun h => p_i123_i6 x hx h) (fun h => p_i123_M x hx h))))))) a0 ao1 cap1 (RSl.chg f1 (Chg.refl [] _) (Ok.nil _ _) oL) _ H137) ?_
      rintro _ w137 ⟨rfl, hc137, hMn⟩ a ha
      have o1 : Ok [] (blkL ao123 ++ (blkL ao116 ++ (blkL ao104 ++ ([g16] ++ ([g9] ++ ([g4] ++ (M))))))) w134.heap.size := Ok.nil _ _
      have o2 : Ok (blkL ao123 ++ (blkL ao116 ++ (blkL ao104 ++ ([g16] ++ ([g9] ++ ([g4] ++ (M))))))) (blkL ao123 ++ (blkL ao116 ++ (blkL ao104 ++ ([g16] ++ ([g9] ++ ([g4] ++ (M))))))) w134.heap.size := (Ok.refl _ _)
      have f123 := f123.chg hc137 o1 o2 (fun _ _ h => nomatch h) (fun _ h => ml h)
      have f1 := f1.chg hc137 o1 o2
      have f117 := f117.chg hc137 o1 o2
      have f116 := f116.chg hc137 o1 o2 (fun _ _ h => nomatch h) (fun _ h => mr (ml h))
      have hBg4 := hBg4.chg hc137 (fun h => nomatch h)
      have hBg9 := hBg9.chg hc137 (fun h => nomatch h)
      have hBg16 := hBg16.chg hc137 (fun h => nomatch h)
      have hM : MS (blkL ao123 ++ (blkL ao116 ++ (blkL ao104 ++ ([g16] ++ ([g9] ++ ([g4] ++ (M))))))) w137 := (hM.chg hc137)
      have hC := hC.trans hc137 (Ok.nil _ _)
      refine sgh ha 2 [2, 4] [(2, .pointer (some ⟨g4, 0, none⟩)), (5, .pointer (some ⟨g16, 0, none⟩)), (102, .bool (!t137))] (by kernel_rfl) fun a ha => ?_
      obtain rfl := Option.some.inj H
      have o1 : Ok [] (blkL ao123 ++ (blkL ao116 ++ (blkL ao104 ++ ([g16] ++ ([g9] ++ ([g4] ++ (M))))))) w137.heap.size := Ok.nil _ _
      have o2 : Ok (blkL ao116 ++ ([g16] ++ ([g9] ++ ([g4] ++ (M))))) (blkL ao123 ++ (blkL ao116 ++ (blkL ao104 ++ ([g16] ++ ([g9] ++ ([g4] ++ (M))))))) w137.heap.size := (Ok.app (fun _ h => .inl (mr (ml h))) (fun _ h => .inl (mr (mr (mr (h))))))
      have f117 := f117.chg (Chg.refl [] _) o1 o2
      have f116 := f116.chg (Chg.refl [] _) o1 o2 (fun _ _ h => nomatch h) (fun _ h => ml h)
      have hBg4 := hBg4.chg (Chg.refl [] _) (fun h => nomatch h)
      have hBg9 := hBg9.chg (Chg.refl [] _) (fun h => nomatch h)
      have hBg16 := hBg16.chg (Chg.refl [] _) (fun h => nomatch h)
      have hM : MS (blkL ao116 ++ ([g16] ++ ([g9] ++ ([g4] ++ (M))))) w137 := (MS.app (fun x h => hM.chg (Chg.refl [] _) x (mr (ml h))) (fun x h => hM.chg (Chg.refl [] _) x (mr (mr (mr (h))))))
      have hC := hC.trans (Chg.refl [] _) (Ok.nil _ _)
      exact J125 _ _ (ha.sel (by kernel_rfl)) f117 f116 hBg4 hBg9 hBg16 hC hM
   ·have H := ite_f hc101 H
    refine wp_seq_k fun K138 hK138 => ?_
    obtain ⟨s139, H139, H⟩ := bind_some H
    have J139 : ∀ (a : Act) (w139 : World), Has a Tryd.f15.ntmps [(0, .slice ao1 a0.length cap1), (2, .pointer (some ⟨g4, 0, none⟩)), (4, .pointer (some ⟨g9, 0, none⟩)), (5, .pointer (some ⟨g16, 0, none⟩)), (65, .bool s139)] → (RSl (rInt .u8) 5 w139 ([g16] ++ ([g9] ++ ([g4] ++ (M)))) ao1 cap1 a0) → (RSl (rInt .u8) 5 w139 ([g16] ++ ([g9] ++ ([g4] ++ (M)))) ao29 cap29 t27.2.rest.left) → (Box w139 g4 (cS_api_Tunnel (⟨false, (0 : Int), (0 : Int), (⟨(0 : Int), (List.replicate 16 (0 : Int))⟩ : S_api_Addr), ([] : List Int)⟩ : S_api_Tunnel) none 0)) → (Box w139 g9 (cS_cursor_Reader t27.2 ao29 cap29)) → (Box w139 g16 (cS_api_Tunnel (⟨t13.1 == (1 : Int), t22.1, t30.1, (⟨(0 : Int), (List.replicate 16 (0 : Int))⟩ : S_api_Addr), ([] : List Int)⟩ : S_api_Tunnel) none 0)) → (Chg [] w w139) → (MS ([g16] ++ ([g9] ++ ([g4] ++ (M)))) w139) → K138 a w139 := by
     intro a w139 ha f1 f29 hBg4 hBg9 hBg16 hC hM
     refine hK138 _ _ ?_; try clear hK138 K138
     refine cnd ha rfl (fun hc140 => ?_) (fun hc140 => ?_)
     ·have H := ite_t hc140 H
      refine wp_seq_k fun K141 hK141 => ?_
      refine wp_region_lit ?_
      refine seg ha 4 [(0, .slice ao1 a0.length cap1), (2, .pointer (some ⟨g4, 0, none⟩)), (4, .pointer (some ⟨g9, 0, none⟩)), (5, .pointer (some ⟨g16, 0, none⟩)), (69, .pointer (some ⟨g9, 0, none⟩)), (72, .pointer (some ⟨g9, 0, none⟩))] (by kernel_rfl) fun a ha => ?_
      obtain ⟨t142, H142, H⟩ := bind_some H
      refine cl ha (by rfl) (by kernel_rfl) (by rfl) (by rfl) (by rfl) (cursor_rest_Left.walk w139 _ hM g9 t27.2.rest ao29 cap29 f29 hBg9 (mr (ml (List.mem_singleton.2 rfl))) _ H142) ?_
      rintro _ w142 ⟨rfl, hc142, hMn⟩ a ha
      have o1 : Ok [] ([g16] ++ ([g9] ++ ([g4] ++ (M)))) w139.heap.size := Ok.nil _ _
      have o2 : Ok ([g16] ++ ([g9] ++ ([g4] ++ (M)))) ([g16] ++ ([g9] ++ ([g4] ++ (M)))) w139.heap.size := (Ok.refl _ _)
      have f1 := f1.chg hc142 o1 o2
      have f29 := f29.chg hc142 o1 o2
      have hBg4 := hBg4.chg hc142 (fun h => nomatch h)
      have hBg9 := hBg9.chg hc142 (fun h => nomatch h)
      have hBg16 := hBg16.chg hc142 (fun h => nomatch h)
      have hM : MS ([g16] ++ ([g9] ++ ([g4] ++ (M)))) w142 := (hM.chg hc142)
      have hC := hC.trans hc142 (Ok.nil _ _)
      refine seg ha 1 [(0, .slice ao1 a0.length cap1), (2, .pointer (some ⟨g4, 0, none⟩)), (4, .pointer (some ⟨g9, 0, none⟩)), (5, .pointer (some ⟨g16, 0, none⟩)), (69, .pointer (some ⟨g9, 0, none⟩)), (74, .int .i64 (IntKind.i64.wrap (Int.tdiv t142 (2 : Int))))] (by kernel_rfl) fun a ha => ?_
      obtain ⟨t143, H143, H⟩ := bind_some H
      refine cl ha (by rfl) (by kernel_rfl) (by rfl) (by rfl) (by rfl) (pmsi_root.walk w142 _ hM g9 t27.2 ao29 cap29 f29 hBg9 (mr (ml (List.mem_singleton.2 rfl))) (IntKind.i64.wrap (Int.tdiv t142 (2 : Int))) _ H143) ?_
      rintro _ w143 ⟨ao144, cap144, rfl, f144, qhBg9, hc143, hMn⟩ a ha
      have o1 : Ok [g9] ([g16] ++ ([g9] ++ ([g4] ++ (M)))) w142.heap.size := (fun _ h => .inl (mr (ml h)))
      have o2 : Ok ([g16] ++ ([g9] ++ ([g4] ++ (M)))) ([g16] ++ ([g9] ++ ([g4] ++ (M)))) w142.heap.size := (Ok.refl _ _)
      have f1 := f1.chg hc143 o1 o2
      have f29 := f29.chg hc143 o1 o2
      have hBg4 := hBg4.chg hc143 ((fun x (hx : x ∈ [g4]) (hy : x ∈ [g9]) => p_i10_i6 x hy hx) g4 (by simp))
      have hBg16 := hBg16.chg hc143 (p_i18_i10 g16 (by simp))
      have hM : MS ([g16] ++ ([g9] ++ ([g4] ++ (M)))) w143 := (hM.chg hc143)
      have hC := hC.trans hc143 (fun x h => .inr (e_i10 x h))
      have hBg9 := qhBg9
      refine seg ha 1 [(0, .slice ao1 a0.length cap1), (2, .pointer (some ⟨g4, 0, none⟩)), (4, .pointer (some ⟨g9, 0, none⟩)), (5, .pointer (some ⟨g16, 0, none⟩)), (75, .agg (cS_api_Addr t143.1).toArray), (76, .pointer (some ⟨g16, 3, none⟩))] (by kernel_rfl) fun a ha => ?_
      refine stA (l := (cS_api_Addr t143.1)) ha rfl rfl rfl (by kernel_rfl) rfl rfl hBg16 rfl fun a w145 ha hb2 hc146 _ => ?_
      have o1 : Ok [g16] ([g16] ++ ([g9] ++ ([g4] ++ (M)))) w143.heap.size := (fun _ h => .inl (ml h))
      have o2 : Ok ([g16] ++ ([g9] ++ ([g4] ++ (M)))) ([g16] ++ ([g9] ++ ([g4] ++ (M)))) w143.heap.size := (Ok.refl _ _)
      have f1 := f1.chg hc146 o1 o2
      have f144 := f144.chg hc146 o1 o2
      have hBg4 := hBg4.chg hc146 ((fun x (hx : x ∈ [g4]) (hy : x ∈ [g16]) => p_i18_i6 x hy hx) g4 (by simp))
      have hBg9 := hBg9.chg hc146 ((fun x (hx : x ∈ [g9]) (hy : x ∈ [g16]) => p_i18_i10 x hy hx) g9 (by simp))
      have hM : MS ([g16] ++ ([g9] ++ ([g4] ++ (M)))) w145 := (hM.chg hc146)
      have hC := hC.trans hc146 (fun x h => .inr (e_i18 x h))
      have hBg16 : Box w145 g16 (cS_api_Tunnel (⟨t13.1 == (1 : Int), t22.1, t30.1, t143.1, ([] : List Int)⟩ : S_api_Tunnel) none 0) := hb2
      refine hK141 _ _ ?_; try clear hK141 K141
      refine wp_region_lit ?_
      refine seg ha 4 [(0, .slice ao1 a0.length cap1), (2, .pointer (some ⟨g4, 0, none⟩)), (4, .pointer (some ⟨g9, 0, none⟩)), (5, .pointer (some ⟨g16, 0, none⟩)), (77, .pointer (some ⟨g9, 0, none⟩)), (80, .pointer (some ⟨g9, 0, none⟩))] (by kernel_rfl) fun a ha => ?_
      obtain ⟨t147, H147, H⟩ := bind_some H
      refine cl ha (by rfl) (by kernel_rfl) (by rfl) (by rfl) (by rfl) (cursor_rest_Left.walk w145 _ hM g9 t143.2.rest ao144 cap144 f144 hBg9 (mr (ml (List.mem_singleton.2 rfl))) _ H147) ?_
      rintro _ w147 ⟨rfl, hc147, hMn⟩ a ha
      have o1 : Ok [] ([g16] ++ ([g9] ++ ([g4] ++ (M)))) w145.heap.size := Ok.nil _ _
      have o2 : Ok ([g16] ++ ([g9] ++ ([g4] ++ (M)))) ([g16] ++ ([g9] ++ ([g4] ++ (M)))) w145.heap.size := (Ok.refl _ _)
      have f1 := f1.chg hc147 o1 o2
      have f144 := f144.chg hc147 o1 o2
      have hBg4 := hBg4.chg hc147 (fun h => nomatch h)
      have hBg9 := hBg9.chg hc147 (fun h => nomatch h)
      have hBg16 := hBg16.chg hc147 (fun h => nomatch h)
      have hM : MS ([g16] ++ ([g9] ++ ([g4] ++ (M)))) w147 := (hM.chg hc147)
      have hC := hC.trans hc147 (Ok.nil _ _)
      obtain ⟨t148, H148, H⟩ := bind_some H
      refine cl ha (by rfl) (by kernel_rfl) (by rfl) (by rfl) (by rfl) (cursor_Reader_Take.walk w147 _ hM g9 t143.2 ao144 cap144 f144 hBg9 (mr (ml (List.mem_singleton.2 rfl))) t147 _ H148) ?_
      rintro _ w148 ⟨ao149, cap149, ao150, cap150, rfl, f149, f150, qhBg9, ne_i149, hc148, hMn⟩ a ha
      have o1 : Ok [g9] ([g16] ++ ([g9] ++ ([g4] ++ (M)))) w147.heap.size := (fun _ h => .inl (mr (ml h)))
      have o2 : Ok (blkL ao149 ++ ([g16] ++ ([g9] ++ ([g4] ++ (M))))) ([g16] ++ ([g9] ++ ([g4] ++ (M)))) w147.heap.size := (Ok.app (fun x h => .inr (ne_i149 x h)) (Ok.refl _ _))
      have f1 := f1.chg hc148 o1 o2
      have f144 := f144.chg hc148 o1 o2
      have hBg4 := hBg4.chg hc148 ((fun x (hx : x ∈ [g4]) (hy : x ∈ [g9]) => p_i10_i6 x hy hx) g4 (by simp))
      have hBg16 := hBg16.chg hc148 (p_i18_i10 g16 (by simp))
      have p_i149_i18 : ∀ x ∈ blkL ao149, x ∉ ([g16]) := fun x hx hy => absurd (hM x (ml hy)) (Nat.not_lt.2 (ne_i149 x hx))
      have p_i149_i10 : ∀ x ∈ blkL ao149, x ∉ ([g9]) := fun x hx hy => absurd (hM x (mr (ml hy))) (Nat.not_lt.2 (ne_i149 x hx))
      have p_i149_i6 : ∀ x ∈ blkL ao149, x ∉ ([g4]) := fun x hx hy => absurd (hM x (mr (mr (ml hy)))) (Nat.not_lt.2 (ne_i149 x hx))
      have p_i149_M : ∀ x ∈ blkL ao149, x ∉ M := fun x hx hy => absurd (hM x (mr (mr (mr (hy))))) (Nat.not_lt.2 (ne_i149 x hx))
      have e_i149 : ∀ x ∈ blkL ao149, w.heap.size ≤ x := fun x hx => Nat.le_trans hC.size (ne_i149 x hx)
      have hM : MS (blkL ao149 ++ ([g16] ++ ([g9] ++ ([g4] ++ (M))))) w148 := (MS.app (fun x h => hMn x (ml h)) (hM.chg hc148))
      have hC := hC.trans hc148 (fun x h => .inr (e_i10 x h))
      have hBg9 := qhBg9
      refine seg ha 1 [(0, .slice ao1 a0.length cap1), (2, .pointer (some ⟨g4, 0, none⟩)), (4, .pointer (some ⟨g9, 0, none⟩)), (5, .pointer (some ⟨g16, 0, none⟩)), (82, .slice ao149 t148.1.length cap149), (83, .pointer (some ⟨g16, 20, none⟩))] (by kernel_rfl) fun a ha => ?_
      refine st ha rfl rfl rfl (by kernel_rfl) rfl rfl hBg16 (Nat.le_of_ble_eq_true (by kernel_rfl)) fun a w151 ha hb2 hc152 _ => ?_
      have o1 : Ok [g16] (blkL ao149 ++ ([g16] ++ ([g9] ++ ([g4] ++ (M))))) w148.heap.size := (fun _ h => .inl (mr (ml h)))
      have o2 : Ok (blkL ao149 ++ ([g16] ++ ([g9] ++ ([g4] ++ (M))))) (blkL ao149 ++ ([g16] ++ ([g9] ++ ([g4] ++ (M))))) w148.heap.size := (Ok.refl _ _)
      have f1 := f1.chg hc152 o1 o2
      have f149 := f149.chg hc152 o1 o2 p_i149_i18 (fun _ h => ml h)
      have f150 := f150.chg hc152 o1 o2
      have hBg4 := hBg4.chg hc152 ((fun x (hx : x ∈ [g4]) (hy : x ∈ [g16]) => p_i18_i6 x hy hx) g4 (by simp))
      have hBg9 := hBg9.chg hc152 ((fun x (hx : x ∈ [g9]) (hy : x ∈ [g16]) => p_i18_i10 x hy hx) g9 (by simp))
      have hM : MS (blkL ao149 ++ ([g16] ++ ([g9] ++ ([g4] ++ (M))))) w151 := (hM.chg hc152)
      have hC := hC.trans hc152 (fun x h => .inr (e_i18 x h))
      have hBg16 : Box w151 g16 (cS_api_Tunnel (⟨t13.1 == (1 : Int), t22.1, t30.1, t143.1, t148.1⟩ : S_api_Tunnel) ao149 cap149) := hb2
      refine hK33 _ _ ?_; try clear hK33 K33
      refine wp_seq_k fun K153 hK153 => ?_
      refine wp_seq_k fun K154 hK154 => ?_
      refine wp_region_lit ?_
      refine ldA (cs := (cS_api_Tunnel (⟨t13.1 == (1 : Int), t22.1, t30.1, t143.1, t148.1⟩ : S_api_Tunnel) ao149 cap149)) ha rfl (by kernel_rfl) rfl rfl rfl (cells_sub (Box.cells hBg16) (all := (cS_api_Tunnel (⟨t13.1 == (1 : Int), t22.1, t30.1, t143.1, t148.1⟩ : S_api_Tunnel) ao149 cap149)) [] [] (by kernel_rfl)) fun a ha => ?_
      have hML : MS ([g16] ++ ([g9] ++ ([g4] ++ (M)))) w151 := MS.rest hM (fun _ h => (List.mem_append.1 h).elim (fun h => mr (ml h)) (fun h => (List.mem_append.1 h).elim (fun h => mr (mr (ml h))) (fun h => (List.mem_append.1 h).elim (fun h => mr (mr (mr (ml h)))) (fun h => mr (mr (mr (mr (h))))))))
      have oL : Ok ([g16] ++ ([g9] ++ ([g4] ++ (M)))) (blkL ao149 ++ ([g16] ++ ([g9] ++ ([g4] ++ (M))))) w151.heap.size := (fun _ h => .inl (mr (h)))
      obtain ⟨t155, H155, H⟩ := bind_some H
      refine cl ha (by rfl) (by kernel_rfl) (by rfl) (by rfl) (by rfl) (pmsi_Bytes.walk w151 _ hML (⟨t13.1 == (1 : Int), t22.1, t30.1, t143.1, t148.1⟩ : S_api_Tunnel) ao149 cap149 (Own.toRSl (M' := [g16] ++ ([g9] ++ ([g4] ++ (M)))) f149 oL (fun x hx hm => (List.mem_append.1 hm).elim (fun h => p_i149_i18 x hx h) (fun h => (List.mem_append.1 h).elim (fun h => p_i149_i10 x hx h) (fun h => (List.mem_append.1 h).elim (fun h => p_i149_i6 x hx h) (fun h => p_i149_M x hx h))))) k _ H155) ?_
      rintro _ w155 ⟨ao156, cap156, rfl, f156, ne_i156, hc155, hMn⟩ a ha
      have o1 : Ok [] (blkL ao149 ++ ([g16] ++ ([g9] ++ ([g4] ++ (M))))) w151.heap.size := Ok.nil _ _
      have o2 : Ok (blkL ao156 ++ (blkL ao149 ++ ([g16] ++ ([g9] ++ ([g4] ++ (M)))))) (blkL ao149 ++ ([g16] ++ ([g9] ++ ([g4] ++ (M))))) w151.heap.size := (Ok.app (fun x h => .inr (ne_i156 x h)) (Ok.refl _ _))
      have f1 := f1.chg hc155 o1 o2
      have f149 := f149.chg hc155 o1 o2 (fun _ _ h => nomatch h) (fun _ h => mr (ml h))
      have f150 := f150.chg hc155 o1 o2
      have hBg4 := hBg4.chg hc155 (fun h => nomatch h)
      have hBg9 := hBg9.chg hc155 (fun h => nomatch h)
      have hBg16 := hBg16.chg hc155 (fun h => nomatch h)
      have p_i156_i149 : ∀ x ∈ blkL ao156, x ∉ (blkL ao149) := fun x hx hy => absurd (hM x (ml hy)) (Nat.not_lt.2 (ne_i156 x hx))
      have p_i156_i18 : ∀ x ∈ blkL ao156, x ∉ ([g16]) := fun x hx hy => absurd (hM x (mr (ml hy))) (Nat.not_lt.2 (ne_i156 x hx))
      have p_i156_i10 : ∀ x ∈ blkL ao156, x ∉ ([g9]) := fun x hx hy => absurd (hM x (mr (mr (ml hy)))) (Nat.not_lt.2 (ne_i156 x hx))
      have p_i156_i6 : ∀ x ∈ blkL ao156, x ∉ ([g4]) := fun x hx hy => absurd (hM x (mr (mr (mr (ml hy))))) (Nat.not_lt.2 (ne_i156 x hx))
      have p_i156_M : ∀ x ∈ blkL ao156, x ∉ M := fun x hx hy => absurd (hM x (mr (mr (mr (mr (hy)))))) (Nat.not_lt.2 (ne_i156 x hx))
      have e_i156 : ∀ x ∈ blkL ao156, w.heap.size ≤ x := fun x hx => Nat.le_trans hC.size (ne_i156 x hx)
      have hM : MS (blkL ao156 ++ (blkL ao149 ++ ([g16] ++ ([g9] ++ ([g4] ++ (M)))))) w155 := (MS.app (fun x h => hMn x (ml h)) (hM.chg hc155))
      have hC := hC.trans hc155 (Ok.nil _ _)
      have f156 := Own.re (M' := blkL ao156 ++ (blkL ao149 ++ ([g16] ++ ([g9] ++ ([g4] ++ (M)))))) (fun _ _ _ _ _ h => h) f156 (fun _ h => ml h)
      refine seg ha 5 [(0, .slice ao1 a0.length cap1), (2, .pointer (some ⟨g4, 0, none⟩)), (4, .pointer (some ⟨g9, 0, none⟩)), (5, .pointer (some ⟨g16, 0, none⟩)), (6, .slice ao156 t155.1.length cap156), (7, .int .i64 t155.2)] (by kernel_rfl) fun a ha => ?_
      refine hK154 _ _ ?_; try clear hK154 K154
      refine wp_seq_k fun K157 hK157 => ?_
      refine wp_region_lit ?_
      obtain ⟨s158, H158, H⟩ := bind_some H
      have J158 : ∀ (a : Act) (w158 : World), Has a Tryd.f15.ntmps [(2, .pointer (some ⟨g4, 0, none⟩)), (5, .pointer (some ⟨g16, 0, none⟩)), (102, .bool s158)] → (RSl (rInt .u8) 5 w158 (blkL ao149 ++ ([g16] ++ ([g9] ++ ([g4] ++ (M))))) ao150 cap150 t148.2.rest.left) → (Own (rInt .u8) 5 w158 (blkL ao149 ++ ([g16] ++ ([g9] ++ ([g4] ++ (M))))) ao149 cap149 t148.1) → (Box w158 g4 (cS_api_Tunnel (⟨false, (0 : Int), (0 : Int), (⟨(0 : Int), (List.replicate 16 (0 : Int))⟩ : S_api_Addr), ([] : List Int)⟩ : S_api_Tunnel) none 0)) → (Box w158 g9 (cS_cursor_Reader t148.2 ao150 cap150)) → (Box w158 g16 (cS_api_Tunnel (⟨t13.1 == (1 : Int), t22.1, t30.1, t143.1, t148.1⟩ : S_api_Tunnel) ao149 cap149)) → (Chg [] w w158) → (MS (blkL ao149 ++ ([g16] ++ ([g9] ++ ([g4] ++ (M))))) w158) → K157 a w158 := by
       intro a w158 ha f150 f149 hBg4 hBg9 hBg16 hC hM
       refine hK157 _ _ ?_; try clear hK157 K157
       refine cnd ha rfl (fun hc159 => ?_) (fun hc159 => ?_)
       ·have H := ite_t hc159 H
        refine wp_seq_k fun K160 hK160 => ?_
        refine wp_region_lit ?_
        refine opk (v := .agg (cS_api_Tunnel (⟨false, (0 : Int), (0 : Int), (⟨(0 : Int), (List.replicate 16 (0 : Int))⟩ : S_api_Addr), ([] : List Int)⟩ : S_api_Tunnel) none 0).toArray) ha rfl rfl rfl rfl rfl (fun w => by kernel_rfl) fun a ha => ?_
        refine stA (l := (cS_api_Tunnel (⟨false, (0 : Int), (0 : Int), (⟨(0 : Int), (List.replicate 16 (0 : Int))⟩ : S_api_Addr), ([] : List Int)⟩ : S_api_Tunnel) none 0)) ha rfl rfl rfl (by kernel_rfl) rfl rfl hBg4 rfl fun a w161 ha hb2 hc162 _ => ?_
        have o1 : Ok [g4] (blkL ao149 ++ ([g16] ++ ([g9] ++ ([g4] ++ (M))))) w158.heap.size := (fun _ h => .inl (mr (mr (mr (ml h)))))
        have o2 : Ok (blkL ao149 ++ ([g16] ++ ([g9] ++ ([g4] ++ (M))))) (blkL ao149 ++ ([g16] ++ ([g9] ++ ([g4] ++ (M))))) w158.heap.size := (Ok.refl _ _)
        have f150 := f150.chg hc162 o1 o2
        have f149 := f149.chg hc162 o1 o2 p_i149_i6 (fun _ h => ml h)
        have hBg9 := hBg9.chg hc162 (p_i10_i6 g9 (by simp))
        have hBg16 := hBg16.chg hc162 (p_i18_i6 g16 (by simp))
        have hM : MS (blkL ao149 ++ ([g16] ++ ([g9] ++ ([g4] ++ (M))))) w161 := (hM.chg hc162)
        have hC := hC.trans hc162 (fun x h => .inr (e_i6 x h))
        have hBg4 : Box w161 g4 (cS_api_Tunnel (⟨false, (0 : Int), (0 : Int), (⟨(0 : Int), (List.replicate 16 (0 : Int))⟩ : S_api_Addr), ([] : List Int)⟩ : S_api_Tunnel) none 0) := hb2
        refine seg ha 1 [(2, .pointer (some ⟨g4, 0, none⟩)), (3, .int .i64 (4 : Int))] (by kernel_rfl) fun a ha => ?_
        refine hK160 _ _ ?_; try clear hK160 K160
        refine wp_ret ?_
        try simp only [Exit.then, Exit.inBlock]
        have o1 : Ok [] (blkL ao149 ++ ([g16] ++ ([g9] ++ ([g4] ++ (M))))) w161.heap.size := Ok.nil _ _
        have o2 : Ok (blkL none ++ (M)) (blkL ao149 ++ ([g16] ++ ([g9] ++ ([g4] ++ (M))))) w161.heap.size := (Ok.app (fun _ h => nomatch h) (fun _ h => .inl (mr (mr (mr (mr (h)))))))
        have f150 := f150.chg (Chg.refl [] _) o1 o2
        have hBg4 := hBg4.chg (Chg.refl [] _) (fun h => nomatch h)
        have hBg9 := hBg9.chg (Chg.refl [] _) (fun h => nomatch h)
        have hBg16 := hBg16.chg (Chg.refl [] _) (fun h => nomatch h)
        have p_z163_M : ∀ x ∈ blkL none, x ∉ M := fun x hx hy => absurd (hM x (mr (mr (mr (mr (hy)))))) (Nat.not_lt.2 ((fun _ h => nomatch h) x hx))
        have e_z163 : ∀ x ∈ blkL none, w.heap.size ≤ x := fun x hx => Nat.le_trans hC.size ((fun _ h => nomatch h) x hx)
        have hM : MS (blkL none ++ (M)) w161 := (MS.app (fun _ h => nomatch h) (fun x h => hM.chg (Chg.refl [] _) x (mr (mr (mr (mr (h)))))))
        have hC := hC.trans (Chg.refl [] _) (Ok.nil _ _)
        obtain rfl := Option.some.inj H
        refine rtr ha (res2 rfl (roA ha rfl hBg4 (by kernel_rfl)) (roT ha rfl)) ?_
        exact ⟨none, 0, rfl, Own.nil, e_z163, hC, hM⟩
       ·have H := ite_f hc159 H
        refine wp_skip ?_
        refine hK153 _ _ ?_; try clear hK153 K153
        refine wp_seq_k fun K164 hK164 => ?_
        refine wp_region_lit ?_
        refine ldA (cs := (cS_api_Tunnel (⟨t13.1 == (1 : Int), t22.1, t30.1, t143.1, t148.1⟩ : S_api_Tunnel) ao149 cap149)) ha rfl (by kernel_rfl) rfl rfl rfl (cells_sub (Box.cells hBg16) (all := (cS_api_Tunnel (⟨t13.1 == (1 : Int), t22.1, t30.1, t143.1, t148.1⟩ : S_api_Tunnel) ao149 cap149)) [] [] (by kernel_rfl)) fun a ha => ?_
        refine stA (l := (cS_api_Tunnel (⟨t13.1 == (1 : Int), t22.1, t30.1, t143.1, t148.1⟩ : S_api_Tunnel) ao149 cap149)) ha rfl rfl rfl (by kernel_rfl) rfl rfl hBg4 rfl fun a w165 ha hb2 hc166 _ => ?_
        have o1 : Ok [g4] (blkL ao149 ++ ([g16] ++ ([g9] ++ ([g4] ++ (M))))) w158.heap.size := (fun _ h => .inl (mr (mr (mr (ml h)))))
        have o2 : Ok (blkL ao149 ++ ([g16] ++ ([g9] ++ ([g4] ++ (M))))) (blkL ao149 ++ ([g16] ++ ([g9] ++ ([g4] ++ (M))))) w158.heap.size := (Ok.refl _ _)
        have f149 := f149.chg hc166 o1 o2 p_i149_i6 (fun _ h => ml h)
        have f150 := f150.chg hc166 o1 o2
        have hBg9 := hBg9.chg hc166 (p_i10_i6 g9 (by simp))
        have hBg16 := hBg16.chg hc166 (p_i18_i6 g16 (by simp))
        have hM : MS (blkL ao149 ++ ([g16] ++ ([g9] ++ ([g4] ++ (M))))) w165 := (hM.chg hc166)
        have hC := hC.trans hc166 (fun x h => .inr (e_i6 x h))
        have hBg4 : Box w165 g4 (cS_api_Tunnel (⟨t13.1 == (1 : Int), t22.1, t30.1, t143.1, t148.1⟩ : S_api_Tunnel) ao149 cap149) := hb2
        refine seg ha 1 [(2, .pointer (some ⟨g4, 0, none⟩)), (3, .int .i64 (0 : Int))] (by kernel_rfl) fun a ha => ?_
        refine hK164 _ _ ?_; try clear hK164 K164
        refine wp_ret ?_
        try simp only [Exit.then, Exit.inBlock]
        have o1 : Ok [] (blkL ao149 ++ ([g16] ++ ([g9] ++ ([g4] ++ (M))))) w165.heap.size := Ok.nil _ _
        have o2 : Ok (blkL ao149 ++ (M)) (blkL ao149 ++ ([g16] ++ ([g9] ++ ([g4] ++ (M))))) w165.heap.size := (Ok.app (fun _ h => .inl (ml h)) (fun _ h => .inl (mr (mr (mr (mr (h)))))))
        have f149 := f149.chg (Chg.refl [] _) o1 o2 (fun _ _ h => nomatch h) (fun _ h => ml h)
        have f150 := f150.chg (Chg.refl [] _) o1 o2
        have hBg4 := hBg4.chg (Chg.refl [] _) (fun h => nomatch h)
        have hBg9 := hBg9.chg (Chg.refl [] _) (fun h => nomatch h)
        have hBg16 := hBg16.chg (Chg.refl [] _) (fun h => nomatch h)
        have hM : MS (blkL ao149 ++ (M)) w165 := (MS.app (fun x h => hM.chg (Chg.refl [] _) x (ml h)) (fun x h => hM.chg (Chg.refl [] _) x (mr (mr (mr (mr (h)))))))
        have hC := hC.trans (Chg.refl [] _) (Ok.nil _ _)
        obtain rfl := Option.some.inj H
        refine rtr ha (res2 rfl (roA ha rfl hBg4 (by kernel_rfl)) (roT ha rfl)) ?_
        exact ⟨ao149, cap149, rfl, f149, e_i149, hC, hM⟩
      have H := H158
      refine seg ha 3 [(0, .slice ao1 a0.length cap1), (2, .pointer (some ⟨g4, 0, none⟩)), (5, .pointer (some ⟨g16, 0, none⟩)), (6, .slice ao156 t155.1.length cap156), (7, .int .i64 t155.2), (91, .pointer (some ⟨g9, 0, none⟩))] (by kernel_rfl) fun a ha => ?_
      obtain ⟨t167, H167, H⟩ := bind_some H
      refine cl ha (by rfl) (by kernel_rfl) (by rfl) (by rfl) (by rfl) (cursor_rest_Bad.walk w155 _ hM g9 t148.2.rest ao150 cap150 f150 hBg9 (mr (mr (mr (ml (List.mem_singleton.2 rfl))))) _ H167) ?_
      rintro _ w167 ⟨rfl, hc167, hMn⟩ a ha
      have o1 : Ok [] (blkL ao156 ++ (blkL ao149 ++ ([g16] ++ ([g9] ++ ([g4] ++ (M)))))) w155.heap.size := Ok.nil _ _
      have o2 : Ok (blkL ao156 ++ (blkL ao149 ++ ([g16] ++ ([g9] ++ ([g4] ++ (M)))))) (blkL ao156 ++ (blkL ao149 ++ ([g16] ++ ([g9] ++ ([g4] ++ (M)))))) w155.heap.size := (Ok.refl _ _)
      have f1 := f1.chg hc167 o1 o2
      have f156 := f156.chg hc167 o1 o2 (fun _ _ h => nomatch h) (fun _ h => ml h)
      have f150 := f150.chg hc167 o1 o2
      have f149 := f149.chg hc167 o1 o2 (fun _ _ h => nomatch h) (fun _ h => mr (ml h))
      have hBg4 := hBg4.chg hc167 (fun h => nomatch h)
      have hBg9 := hBg9.chg hc167 (fun h => nomatch h)
      have hBg16 := hBg16.chg hc167 (fun h => nomatch h)
      have hM : MS (blkL ao156 ++ (blkL ao149 ++ ([g16] ++ ([g9] ++ ([g4] ++ (M)))))) w167 := (hM.chg hc167)
      have hC := hC.trans hc167 (Ok.nil _ _)
      refine seg ha 1 [(93, .bool t167), (0, .slice ao1 a0.length cap1), (2, .pointer (some ⟨g4, 0, none⟩)), (5, .pointer (some ⟨g16, 0, none⟩)), (6, .slice ao156 t155.1.length cap156), (7, .int .i64 t155.2)] (by kernel_rfl) fun a ha => ?_
      rcases Bool.eq_false_or_eq_true (t167) with hb168 | hb168
      ·have ha := ha.lit hb168
       have H := ite_t hb168 H
       refine sgh ha 9 [1, 1, 3, 0, 1, 1, 1, 1, 3] [(2, .pointer (some ⟨g4, 0, none⟩)), (5, .pointer (some ⟨g16, 0, none⟩)), (102, .bool true)] (by kernel_rfl) fun a ha => ?_
       obtain rfl := Option.some.inj H
       have o1 : Ok [] (blkL ao156 ++ (blkL ao149 ++ ([g16] ++ ([g9] ++ ([g4] ++ (M)))))) w167.heap.size := Ok.nil _ _
       have o2 : Ok (blkL ao149 ++ ([g16] ++ ([g9] ++ ([g4] ++ (M))))) (blkL ao156 ++ (blkL ao149 ++ ([g16] ++ ([g9] ++ ([g4] ++ (M)))))) w167.heap.size := (fun _ h => .inl (mr (h)))
       have f150 := f150.chg (Chg.refl [] _) o1 o2
       have f149 := f149.chg (Chg.refl [] _) o1 o2 (fun _ _ h => nomatch h) (fun _ h => ml h)
       have hBg4 := hBg4.chg (Chg.refl [] _) (fun h => nomatch h)
       have hBg9 := hBg9.chg (Chg.refl [] _) (fun h => nomatch h)
       have hBg16 := hBg16.chg (Chg.refl [] _) (fun h => nomatch h)
       have hM : MS (blkL ao149 ++ ([g16] ++ ([g9] ++ ([g4] ++ (M))))) w167 := (fun x h => hM.chg (Chg.refl [] _) x (mr (h)))
       have hC := hC.trans (Chg.refl [] _) (Ok.nil _ _)
       exact J158 _ _ (ha.sel (by kernel_rfl)) f150 f149 hBg4 hBg9 hBg16 hC hM
      ·have ha := ha.lit hb168
       have H := ite_f hb168 H
       refine sgh ha 4 [2, 2, 4, 0] [(97, .bool (t155.2 != (0 : Int))), (0, .slice ao1 a0.length cap1), (2, .pointer (some ⟨g4, 0, none⟩)), (5, .pointer (some ⟨g16, 0, none⟩)), (6, .slice ao156 t155.1.length cap156)] (by kernel_rfl) fun a ha => ?_
       rcases Bool.eq_false_or_eq_true (t155.2 != (0 : Int)) with hb169 | hb169
       ·have ha := ha.lit hb169
        have H := ite_t hb169 H
        refine sgh ha 5 [1, 1, 1, 1, 3] [(2, .pointer (some ⟨g4, 0, none⟩)), (5, .pointer (some ⟨g16, 0, none⟩)), (102, .bool true)] (by kernel_rfl) fun a ha => ?_
        obtain rfl := Option.some.inj H
        have o1 : Ok [] (blkL ao156 ++ (blkL ao149 ++ ([g16] ++ ([g9] ++ ([g4] ++ (M)))))) w167.heap.size := Ok.nil _ _
        have o2 : Ok (blkL ao149 ++ ([g16] ++ ([g9] ++ ([g4] ++ (M))))) (blkL ao156 ++ (blkL ao149 ++ ([g16] ++ ([g9] ++ ([g4] ++ (M)))))) w167.heap.size := (fun _ h => .inl (mr (h)))
        have f150 := f150.chg (Chg.refl [] _) o1 o2
        have f149 := f149.chg (Chg.refl [] _) o1 o2 (fun _ _ h => nomatch h) (fun _ h => ml h)
        have hBg4 := hBg4.chg (Chg.refl [] _) (fun h => nomatch h)
        have hBg9 := hBg9.chg (Chg.refl [] _) (fun h => nomatch h)
        have hBg16 := hBg16.chg (Chg.refl [] _) (fun h => nomatch h)
        have hM : MS (blkL ao149 ++ ([g16] ++ ([g9] ++ ([g4] ++ (M))))) w167 := (fun x h => hM.chg (Chg.refl [] _) x (mr (h)))
        have hC := hC.trans (Chg.refl [] _) (Ok.nil _ _)
        exact J158 _ _ (ha.sel (by kernel_rfl)) f150 f149 hBg4 hBg9 hBg16 hC hM
       ·have ha := ha.lit hb169
        have H := ite_f hb169 H
        refine sgh ha 2 [2, 2] [(2, .pointer (some ⟨g4, 0, none⟩)), (5, .pointer (some ⟨g16, 0, none⟩)), (97, .bool false), (98, .slice ao156 t155.1.length cap156), (99, .slice ao1 a0.length cap1)] (by kernel_rfl) fun a ha => ?_
        have hML : MS (blkL ao149 ++ ([g16] ++ ([g9] ++ ([g4] ++ (M))))) w167 := MS.rest hM (fun _ h => (List.mem_append.1 h).elim (fun h => mr (ml h)) (fun h => (List.mem_append.1 h).elim (fun h => mr (mr (ml h))) (fun h => (List.mem_append.1 h).elim (fun h => mr (mr (mr (ml h)))) (fun h => (List.mem_append.1 h).elim (fun h => mr (mr (mr (mr (ml h))))) (fun h => mr (mr (mr (mr (mr (h))))))))))
        have oL : Ok (blkL ao149 ++ ([g16] ++ ([g9] ++ ([g4] ++ (M))))) (blkL ao156 ++ (blkL ao149 ++ ([g16] ++ ([g9] ++ ([g4] ++ (M)))))) w167.heap.size := (fun _ h => .inl (mr (h)))
        obtain ⟨t170, H170, H⟩ := bind_some H
        refine cl ha (by rfl) (by kernel_rfl) (by rfl) (by rfl) (by rfl) (bytes_Equal.walk w167 _ hML t155.1 ao156 cap156 (Own.toRSl (M' := blkL ao149 ++ ([g16] ++ ([g9] ++ ([g4] ++ (M))))) f156 oL (fun x hx hm => (List.mem_append.1 hm).elim (fun h => p_i156_i149 x hx h) (fun h => (List.mem_append.1 h).elim (fun h => p_i156_i18 x hx h) (fun h => (List.mem_append.1 h).elim (fun h => p_i156_i10 x hx h) (fun h => (List.mem_append.1 h).elim (fun h => p_i156_i6 x hx h) (fun h => p_i156_M x hx h)))))) a0 ao1 cap1 (RSl.chg f1 (Chg.refl [] _) (Ok.nil _ _) oL) _ H170) ?_
        rintro _ w170 ⟨rfl, hc170, hMn⟩ a ha
        have o1 : Ok [] (blkL ao156 ++ (blkL ao149 ++ ([g16] ++ ([g9] ++ ([g4] ++ (M)))))) w167.heap.size := Ok.nil _ _
        have o2 : Ok (blkL ao156 ++ (blkL ao149 ++ ([g16] ++ ([g9] ++ ([g4] ++ (M)))))) (blkL ao156 ++ (blkL ao149 ++ ([g16] ++ ([g9] ++ ([g4] ++ (M)))))) w167.heap.size := (Ok.refl _ _)
        have f156 := f156.chg hc170 o1 o2 (fun _ _ h => nomatch h) (fun _ h => ml h)
        have f1 := f1.chg hc170 o1 o2
        have f150 := f150.chg hc170 o1 o2
        have f149 := f149.chg hc170 o1 o2 (fun _ _ h => nomatch h) (fun _ h => mr (ml h))
        have hBg4 := hBg4.chg hc170 (fun h => nomatch h)
        have hBg9 := hBg9.chg hc170 (fun h => nomatch h)
        have hBg16 := hBg16.chg hc170 (fun h => nomatch h)
        have hM : MS (blkL ao156 ++ (blkL ao149 ++ ([g16] ++ ([g9] ++ ([g4] ++ (M)))))) w170 := (hM.chg hc170)
        have hC := hC.trans hc170 (Ok.nil _ _)
        refine sgh ha 2 [2, 4] [(2, .pointer (some ⟨g4, 0, none⟩)), (5, .pointer (some ⟨g16, 0, none⟩)), (102, .bool (!t170))] (by kernel_rfl) fun a ha => ?_
        obtain rfl := Option.some.inj H
        have o1 : Ok [] (blkL ao156 ++ (blkL ao149 ++ ([g16] ++ ([g9] ++ ([g4] ++ (M)))))) w170.heap.size := Ok.nil _ _
        have o2 : Ok (blkL ao149 ++ ([g16] ++ ([g9] ++ ([g4] ++ (M))))) (blkL ao156 ++ (blkL ao149 ++ ([g16] ++ ([g9] ++ ([g4] ++ (M)))))) w170.heap.size := (fun _ h => .inl (mr (h)))
        have f150 := f150.chg (Chg.refl [] _) o1 o2
        have f149 := f149.chg (Chg.refl [] _) o1 o2 (fun _ _ h => nomatch h) (fun _ h => ml h)
        have hBg4 := hBg4.chg (Chg.refl [] _) (fun h => nomatch h)
        have hBg9 := hBg9.chg (Chg.refl [] _) (fun h => nomatch h)
        have hBg16 := hBg16.chg (Chg.refl [] _) (fun h => nomatch h)
        have hM : MS (blkL ao149 ++ ([g16] ++ ([g9] ++ ([g4] ++ (M))))) w170 := (fun x h => hM.chg (Chg.refl [] _) x (mr (h)))
        have hC := hC.trans (Chg.refl [] _) (Ok.nil _ _)
        exact J158 _ _ (ha.sel (by kernel_rfl)) f150 f149 hBg4 hBg9 hBg16 hC hM
     ·have H := ite_f hc140 H
      refine wp_region_lit ?_
      refine seg ha 4 [(0, .slice ao1 a0.length cap1), (2, .pointer (some ⟨g4, 0, none⟩)), (4, .pointer (some ⟨g9, 0, none⟩)), (5, .pointer (some ⟨g16, 0, none⟩)), (27, .pointer (some ⟨g9, 0, none⟩)), (30, .pointer (some ⟨g9, 0, none⟩))] (by kernel_rfl) fun a ha => ?_
      obtain ⟨t171, H171, H⟩ := bind_some H
      refine cl ha (by rfl) (by kernel_rfl) (by rfl) (by rfl) (by rfl) (cursor_rest_Left.walk w139 _ hM g9 t27.2.rest ao29 cap29 f29 hBg9 (mr (ml (List.mem_singleton.2 rfl))) _ H171) ?_
      rintro _ w171 ⟨rfl, hc171, hMn⟩ a ha
      have o1 : Ok [] ([g16] ++ ([g9] ++ ([g4] ++ (M)))) w139.heap.size := Ok.nil _ _
      have o2 : Ok ([g16] ++ ([g9] ++ ([g4] ++ (M)))) ([g16] ++ ([g9] ++ ([g4] ++ (M)))) w139.heap.size := (Ok.refl _ _)
      have f1 := f1.chg hc171 o1 o2
      have f29 := f29.chg hc171 o1 o2
      have hBg4 := hBg4.chg hc171 (fun h => nomatch h)
      have hBg9 := hBg9.chg hc171 (fun h => nomatch h)
      have hBg16 := hBg16.chg hc171 (fun h => nomatch h)
      have hM : MS ([g16] ++ ([g9] ++ ([g4] ++ (M)))) w171 := (hM.chg hc171)
      have hC := hC.trans hc171 (Ok.nil _ _)
      obtain ⟨t172, H172, H⟩ := bind_some H
      refine cl ha (by rfl) (by kernel_rfl) (by rfl) (by rfl) (by rfl) (pmsi_root.walk w171 _ hM g9 t27.2 ao29 cap29 f29 hBg9 (mr (ml (List.mem_singleton.2 rfl))) t171 _ H172) ?_
      rintro _ w172 ⟨ao173, cap173, rfl, f173, qhBg9, hc172, hMn⟩ a ha
      have o1 : Ok [g9] ([g16] ++ ([g9] ++ ([g4] ++ (M)))) w171.heap.size := (fun _ h => .inl (mr (ml h)))
      have o2 : Ok ([g16] ++ ([g9] ++ ([g4] ++ (M)))) ([g16] ++ ([g9] ++ ([g4] ++ (M)))) w171.heap.size := (Ok.refl _ _)
      have f1 := f1.chg hc172 o1 o2
      have f29 := f29.chg hc172 o1 o2
      have hBg4 := hBg4.chg hc172 ((fun x (hx : x ∈ [g4]) (hy : x ∈ [g9]) => p_i10_i6 x hy hx) g4 (by simp))
      have hBg16 := hBg16.chg hc172 (p_i18_i10 g16 (by simp))
      have hM : MS ([g16] ++ ([g9] ++ ([g4] ++ (M)))) w172 := (hM.chg hc172)
      have hC := hC.trans hc172 (fun x h => .inr (e_i10 x h))
      have hBg9 := qhBg9
      refine seg ha 1 [(0, .slice ao1 a0.length cap1), (2, .pointer (some ⟨g4, 0, none⟩)), (4, .pointer (some ⟨g9, 0, none⟩)), (5, .pointer (some ⟨g16, 0, none⟩)), (32, .agg (cS_api_Addr t172.1).toArray), (33, .pointer (some ⟨g16, 3, none⟩))] (by kernel_rfl) fun a ha => ?_
      refine stA (l := (cS_api_Addr t172.1)) ha rfl rfl rfl (by kernel_rfl) rfl rfl hBg16 rfl fun a w174 ha hb2 hc175 _ => ?_
      have o1 : Ok [g16] ([g16] ++ ([g9] ++ ([g4] ++ (M)))) w172.heap.size := (fun _ h => .inl (ml h))
      have o2 : Ok ([g16] ++ ([g9] ++ ([g4] ++ (M)))) ([g16] ++ ([g9] ++ ([g4] ++ (M)))) w172.heap.size := (Ok.refl _ _)
      have f1 := f1.chg hc175 o1 o2
      have f173 := f173.chg hc175 o1 o2
      have hBg4 := hBg4.chg hc175 ((fun x (hx : x ∈ [g4]) (hy : x ∈ [g16]) => p_i18_i6 x hy hx) g4 (by simp))
      have hBg9 := hBg9.chg hc175 ((fun x (hx : x ∈ [g9]) (hy : x ∈ [g16]) => p_i18_i10 x hy hx) g9 (by simp))
      have hM : MS ([g16] ++ ([g9] ++ ([g4] ++ (M)))) w174 := (hM.chg hc175)
      have hC := hC.trans hc175 (fun x h => .inr (e_i18 x h))
      have hBg16 : Box w174 g16 (cS_api_Tunnel (⟨t13.1 == (1 : Int), t22.1, t30.1, t172.1, ([] : List Int)⟩ : S_api_Tunnel) none 0) := hb2
      refine hK33 _ _ ?_; try clear hK33 K33
      refine wp_seq_k fun K176 hK176 => ?_
      refine wp_seq_k fun K177 hK177 => ?_
      refine wp_region_lit ?_
      refine ldA (cs := (cS_api_Tunnel (⟨t13.1 == (1 : Int), t22.1, t30.1, t172.1, ([] : List Int)⟩ : S_api_Tunnel) none 0)) ha rfl (by kernel_rfl) rfl rfl rfl (cells_sub (Box.cells hBg16) (all := (cS_api_Tunnel (⟨t13.1 == (1 : Int), t22.1, t30.1, t172.1, ([] : List Int)⟩ : S_api_Tunnel) none 0)) [] [] (by kernel_rfl)) fun a ha => ?_
      obtain ⟨t178, H178, H⟩ := bind_some H
      refine cl ha (by rfl) (by kernel_rfl) (by rfl) (by rfl) (by rfl) (pmsi_Bytes.walk w174 _ hM (⟨t13.1 == (1 : Int), t22.1, t30.1, t172.1, ([] : List Int)⟩ : S_api_Tunnel) none 0 (RSl.nil (Nat.zero_le _)) k _ H178) ?_
      rintro _ w178 ⟨ao179, cap179, rfl, f179, ne_i179, hc178, hMn⟩ a ha
      have o1 : Ok [] ([g16] ++ ([g9] ++ ([g4] ++ (M)))) w174.heap.size := Ok.nil _ _
      have o2 : Ok (blkL ao179 ++ ([g16] ++ ([g9] ++ ([g4] ++ (M))))) ([g16] ++ ([g9] ++ ([g4] ++ (M)))) w174.heap.size := (Ok.app (fun x h => .inr (ne_i179 x h)) (Ok.refl _ _))
      have f1 := f1.chg hc178 o1 o2
      have f173 := f173.chg hc178 o1 o2
      have hBg4 := hBg4.chg hc178 (fun h => nomatch h)
      have hBg9 := hBg9.chg hc178 (fun h => nomatch h)
      have hBg16 := hBg16.chg hc178 (fun h => nomatch h)
      have p_i179_i18 : ∀ x ∈ blkL ao179, x ∉ ([g16]) := fun x hx hy => absurd (hM x (ml hy)) (Nat.not_lt.2 (ne_i179 x hx))
      have p_i179_i10 : ∀ x ∈ blkL ao179, x ∉ ([g9]) := fun x hx hy => absurd (hM x (mr (ml hy))) (Nat.not_lt.2 (ne_i179 x hx))
      have p_i179_i6 : ∀ x ∈ blkL ao179, x ∉ ([g4]) := fun x hx hy => absurd (hM x (mr (mr (ml hy)))) (Nat.not_lt.2 (ne_i179 x hx))
      have p_i179_M : ∀ x ∈ blkL ao179, x ∉ M := fun x hx hy => absurd (hM x (mr (mr (mr (hy))))) (Nat.not_lt.2 (ne_i179 x hx))
      have e_i179 : ∀ x ∈ blkL ao179, w.heap.size ≤ x := fun x hx => Nat.le_trans hC.size (ne_i179 x hx)
      have hM : MS (blkL ao179 ++ ([g16] ++ ([g9] ++ ([g4] ++ (M))))) w178 := (MS.app (fun x h => hMn x (ml h)) (hM.chg hc178))
      have hC := hC.trans hc178 (Ok.nil _ _)
      refine seg ha 5 [(0, .slice ao1 a0.length cap1), (2, .pointer (some ⟨g4, 0, none⟩)), (4, .pointer (some ⟨g9, 0, none⟩)), (5, .pointer (some ⟨g16, 0, none⟩)), (6, .slice ao179 t178.1.length cap179), (7, .int .i64 t178.2)] (by kernel_rfl) fun a ha => ?_
      refine hK177 _ _ ?_; try clear hK177 K177
      refine wp_seq_k fun K180 hK180 => ?_
      refine wp_region_lit ?_
      obtain ⟨s181, H181, H⟩ := bind_some H
      have J181 : ∀ (a : Act) (w181 : World), Has a Tryd.f15.ntmps [(2, .pointer (some ⟨g4, 0, none⟩)), (5, .pointer (some ⟨g16, 0, none⟩)), (102, .bool s181)] → (RSl (rInt .u8) 5 w181 ([g16] ++ ([g9] ++ ([g4] ++ (M)))) ao173 cap173 t172.2.rest.left) → (Box w181 g4 (cS_api_Tunnel (⟨false, (0 : Int), (0 : Int), (⟨(0 : Int), (List.replicate 16 (0 : Int))⟩ : S_api_Addr), ([] : List Int)⟩ : S_api_Tunnel) none 0)) → (Box w181 g9 (cS_cursor_Reader t172.2 ao173 cap173)) → (Box w181 g16 (cS_api_Tunnel (⟨t13.1 == (1 : Int), t22.1, t30.1, t172.1, ([] : List Int)⟩ : S_api_Tunnel) none 0)) → (Chg [] w w181) → (MS ([g16] ++ ([g9] ++ ([g4] ++ (M)))) w181) → K180 a w181 := by
       intro a w181 ha f173 hBg4 hBg9 hBg16 hC hM
       refine hK180 _ _ ?_; try clear hK180 K180
       refine cnd ha rfl (fun hc182 => ?_) (fun hc182 => ?_)
       ·have H := ite_t hc182 H
        refine wp_seq_k fun K183 hK183 => ?_
        refine wp_region_lit ?_
        refine opk (v := .agg (cS_api_Tunnel (⟨false, (0 : Int), (0 : Int), (⟨(0 : Int), (List.replicate 16 (0 : Int))⟩ : S_api_Addr), ([] : List Int)⟩ : S_api_Tunnel) none 0).toArray) ha rfl rfl rfl rfl rfl (fun w => by kernel_rfl) fun a ha => ?_
        refine stA (l := (cS_api_Tunnel (⟨false, (0 : Int), (0 : Int), (⟨(0 : Int), (List.replicate 16 (0 : Int))⟩ : S_api_Addr), ([] : List Int)⟩ : S_api_Tunnel) none 0)) ha rfl rfl rfl (by kernel_rfl) rfl rfl hBg4 rfl fun a w184 ha hb2 hc185 _ => ?_
        have o1 : Ok [g4] ([g16] ++ ([g9] ++ ([g4] ++ (M)))) w181.heap.size := (fun _ h => .inl (mr (mr (ml h))))
        have o2 : Ok ([g16] ++ ([g9] ++ ([g4] ++ (M)))) ([g16] ++ ([g9] ++ ([g4] ++ (M)))) w181.heap.size := (Ok.refl _ _)
        have f173 := f173.chg hc185 o1 o2
        have hBg9 := hBg9.chg hc185 (p_i10_i6 g9 (by simp))
        have hBg16 := hBg16.chg hc185 (p_i18_i6 g16 (by simp))
        have hM : MS ([g16] ++ ([g9] ++ ([g4] ++ (M)))) w184 := (hM.chg hc185)
        have hC := hC.trans hc185 (fun x h => .inr (e_i6 x h))
        have hBg4 : Box w184 g4 (cS_api_Tunnel (⟨false, (0 : Int), (0 : Int), (⟨(0 : Int), (List.replicate 16 (0 : Int))⟩ : S_api_Addr), ([] : List Int)⟩ : S_api_Tunnel) none 0) := hb2
        refine seg ha 1 [(2, .pointer (some ⟨g4, 0, none⟩)), (3, .int .i64 (4 : Int))] (by kernel_rfl) fun a ha => ?_
        refine hK183 _ _ ?_; try clear hK183 K183
        refine wp_ret ?_
        try simp only [Exit.then, Exit.inBlock]
        have o1 : Ok [] ([g16] ++ ([g9] ++ ([g4] ++ (M)))) w184.heap.size := Ok.nil _ _
        have o2 : Ok (blkL none ++ (M)) ([g16] ++ ([g9] ++ ([g4] ++ (M)))) w184.heap.size := (Ok.app (fun _ h => nomatch h) (fun _ h => .inl (mr (mr (mr (h))))))
        have f173 := f173.chg (Chg.refl [] _) o1 o2
        have hBg4 := hBg4.chg (Chg.refl [] _) (fun h => nomatch h)
        have hBg9 := hBg9.chg (Chg.refl [] _) (fun h => nomatch h)
        have hBg16 := hBg16.chg (Chg.refl [] _) (fun h => nomatch h)
        have p_z186_M : ∀ x ∈ blkL none, x ∉ M := fun x hx hy => absurd (hM x (mr (mr (mr (hy))))) (Nat.not_lt.2 ((fun _ h => nomatch h) x hx))
        have e_z186 : ∀ x ∈ blkL none, w.heap.size ≤ x := fun x hx => Nat.le_trans hC.size ((fun _ h => nomatch h) x hx)
        have hM : MS (blkL none ++ (M)) w184 := (MS.app (fun _ h => nomatch h) (fun x h => hM.chg (Chg.refl [] _) x (mr (mr (mr (h))))))
        have hC := hC.trans (Chg.refl [] _) (Ok.nil _ _)
        obtain rfl := Option.some.inj H
        refine rtr ha (res2 rfl (roA ha rfl hBg4 (by kernel_rfl)) (roT ha rfl)) ?_
        exact ⟨none, 0, rfl, Own.nil, e_z186, hC, hM⟩
       ·have H := ite_f hc182 H
        refine wp_skip ?_
        refine hK176 _ _ ?_; try clear hK176 K176
        refine wp_seq_k fun K187 hK187 => ?_
        refine wp_region_lit ?_
        refine ldA (cs := (cS_api_Tunnel (⟨t13.1 == (1 : Int), t22.1, t30.1, t172.1, ([] : List Int)⟩ : S_api_Tunnel) none 0)) ha rfl (by kernel_rfl) rfl rfl rfl (cells_sub (Box.cells hBg16) (all := (cS_api_Tunnel (⟨t13.1 == (1 : Int), t22.1, t30.1, t172.1, ([] : List Int)⟩ : S_api_Tunnel) none 0)) [] [] (by kernel_rfl)) fun a ha => ?_
        refine stA (l := (cS_api_Tunnel (⟨t13.1 == (1 : Int), t22.1, t30.1, t172.1, ([] : List Int)⟩ : S_api_Tunnel) none 0)) ha rfl rfl rfl (by kernel_rfl) rfl rfl hBg4 rfl fun a w188 ha hb2 hc189 _ => ?_
        have o1 : Ok [g4] ([g16] ++ ([g9] ++ ([g4] ++ (M)))) w181.heap.size := (fun _ h => .inl (mr (mr (ml h))))
        have o2 : Ok ([g16] ++ ([g9] ++ ([g4] ++ (M)))) ([g16] ++ ([g9] ++ ([g4] ++ (M)))) w181.heap.size := (Ok.refl _ _)
        have f173 := f173.chg hc189 o1 o2
        have hBg9 := hBg9.chg hc189 (p_i10_i6 g9 (by simp))
        have hBg16 := hBg16.chg hc189 (p_i18_i6 g16 (by simp))
        have hM : MS ([g16] ++ ([g9] ++ ([g4] ++ (M)))) w188 := (hM.chg hc189)
        have hC := hC.trans hc189 (fun x h => .inr (e_i6 x h))
        have hBg4 : Box w188 g4 (cS_api_Tunnel (⟨t13.1 == (1 : Int), t22.1, t30.1, t172.1, ([] : List Int)⟩ : S_api_Tunnel) none 0) := hb2
        refine seg ha 1 [(2, .pointer (some ⟨g4, 0, none⟩)), (3, .int .i64 (0 : Int))] (by kernel_rfl) fun a ha => ?_
        refine hK187 _ _ ?_; try clear hK187 K187
        refine wp_ret ?_
        try simp only [Exit.then, Exit.inBlock]
        have o1 : Ok [] ([g16] ++ ([g9] ++ ([g4] ++ (M)))) w188.heap.size := Ok.nil _ _
        have o2 : Ok (blkL none ++ (M)) ([g16] ++ ([g9] ++ ([g4] ++ (M)))) w188.heap.size := (Ok.app (fun _ h => nomatch h) (fun _ h => .inl (mr (mr (mr (h))))))
        have f173 := f173.chg (Chg.refl [] _) o1 o2
        have hBg4 := hBg4.chg (Chg.refl [] _) (fun h => nomatch h)
        have hBg9 := hBg9.chg (Chg.refl [] _) (fun h => nomatch h)
        have hBg16 := hBg16.chg (Chg.refl [] _) (fun h => nomatch h)
        have p_z190_M : ∀ x ∈ blkL none, x ∉ M := fun x hx hy => absurd (hM x (mr (mr (mr (hy))))) (Nat.not_lt.2 ((fun _ h => nomatch h) x hx))
        have e_z190 : ∀ x ∈ blkL none, w.heap.size ≤ x := fun x hx => Nat.le_trans hC.size ((fun _ h => nomatch h) x hx)
        have hM : MS (blkL none ++ (M)) w188 := (MS.app (fun _ h => nomatch h) (fun x h => hM.chg (Chg.refl [] _) x (mr (mr (mr (h))))))
        have hC := hC.trans (Chg.refl [] _) (Ok.nil _ _)
        obtain rfl := Option.some.inj H
        refine rtr ha (res2 rfl (roA ha rfl hBg4 (by kernel_rfl)) (roT ha rfl)) ?_
        exact ⟨none, 0, rfl, Own.nil, e_z190, hC, hM⟩
      have H := H181
      refine seg ha 3 [(0, .slice ao1 a0.length cap1), (2, .pointer (some ⟨g4, 0, none⟩)), (5, .pointer (some ⟨g16, 0, none⟩)), (6, .slice ao179 t178.1.length cap179), (7, .int .i64 t178.2), (91, .pointer (some ⟨g9, 0, none⟩))] (by kernel_rfl) fun a ha => ?_
      obtain ⟨t191, H191, H⟩ := bind_some H
      refine cl ha (by rfl) (by kernel_rfl) (by rfl) (by rfl) (by rfl) (cursor_rest_Bad.walk w178 _ hM g9 t172.2.rest ao173 cap173 f173 hBg9 (mr (mr (ml (List.mem_singleton.2 rfl)))) _ H191) ?_
      rintro _ w191 ⟨rfl, hc191, hMn⟩ a ha
      have o1 : Ok [] (blkL ao179 ++ ([g16] ++ ([g9] ++ ([g4] ++ (M))))) w178.heap.size := Ok.nil _ _
      have o2 : Ok (blkL ao179 ++ ([g16] ++ ([g9] ++ ([g4] ++ (M))))) (blkL ao179 ++ ([g16] ++ ([g9] ++ ([g4] ++ (M))))) w178.heap.size := (Ok.refl _ _)
      have f1 := f1.chg hc191 o1 o2
      have f179 := f179.chg hc191 o1 o2 (fun _ _ h => nomatch h) (fun _ h => ml h)
      have f173 := f173.chg hc191 o1 o2
      have hBg4 := hBg4.chg hc191 (fun h => nomatch h)
      have hBg9 := hBg9.chg hc191 (fun h => nomatch h)
      have hBg16 := hBg16.chg hc191 (fun h => nomatch h)
      have hM : MS (blkL ao179 ++ ([g16] ++ ([g9] ++ ([g4] ++ (M))))) w191 := (hM.chg hc191)
      have hC := hC.trans hc191 (Ok.nil _ _)
      refine seg ha 1 [(93, .bool t191), (0, .slice ao1 a0.length cap1), (2, .pointer (some ⟨g4, 0, none⟩)), (5, .pointer (some ⟨g16, 0, none⟩)), (6, .slice ao179 t178.1.length cap179), (7, .int .i64 t178.2)] (by kernel_rfl) fun a ha => ?_
      rcases Bool.eq_false_or_eq_true (t191) with hb192 | hb192
      ·have ha := ha.lit hb192
       have H := ite_t hb192 H
       refine sgh ha 9 [1, 1, 3, 0, 1, 1, 1, 1, 3] [(2, .pointer (some ⟨g4, 0, none⟩)), (5, .pointer (some ⟨g16, 0, none⟩)), (102, .bool true)] (by kernel_rfl) fun a ha => ?_
       obtain rfl := Option.some.inj H
       have o1 : Ok [] (blkL ao179 ++ ([g16] ++ ([g9] ++ ([g4] ++ (M))))) w191.heap.size := Ok.nil _ _
       have o2 : Ok ([g16] ++ ([g9] ++ ([g4] ++ (M)))) (blkL ao179 ++ ([g16] ++ ([g9] ++ ([g4] ++ (M))))) w191.heap.size := (fun _ h => .inl (mr (h)))
       have f173 := f173.chg (Chg.refl [] _) o1 o2
       have hBg4 := hBg4.chg (Chg.refl [] _) (fun h => nomatch h)
       have hBg9 := hBg9.chg (Chg.refl [] _) (fun h => nomatch h)
       have hBg16 := hBg16.chg (Chg.refl [] _) (fun h => nomatch h)
       have hM : MS ([g16] ++ ([g9] ++ ([g4] ++ (M)))) w191 := (fun x h => hM.chg (Chg.refl [] _) x (mr (h)))
       have hC := hC.trans (Chg.refl [] _) (Ok.nil _ _)
       exact J181 _ _ (ha.sel (by kernel_rfl)) f173 hBg4 hBg9 hBg16 hC hM
      ·have ha := ha.lit hb192
       have H := ite_f hb192 H
       refine sgh ha 4 [2, 2, 4, 0] [(97, .bool (t178.2 != (0 : Int))), (0, .slice ao1 a0.length cap1), (2, .pointer (some ⟨g4, 0, none⟩)), (5, .pointer (some ⟨g16, 0, none⟩)), (6, .slice ao179 t178.1.length cap179)] (by kernel_rfl) fun a ha => ?_
       rcases Bool.eq_false_or_eq_true (t178.2 != (0 : Int)) with hb193 | hb193
       ·have ha := ha.lit hb193
        have H := ite_t hb193 H
        refine sgh ha 5 [1, 1, 1, 1, 3] [(2, .pointer (some ⟨g4, 0, none⟩)), (5, .pointer (some ⟨g16, 0, none⟩)), (102, .bool true)] (by kernel_rfl) fun a ha => ?_
        obtain rfl := Option.some.inj H
        have o1 : Ok [] (blkL ao179 ++ ([g16] ++ ([g9] ++ ([g4] ++ (M))))) w191.heap.size := Ok.nil _ _
        have o2 : Ok ([g16] ++ ([g9] ++ ([g4] ++ (M)))) (blkL ao179 ++ ([g16] ++ ([g9] ++ ([g4] ++ (M))))) w191.heap.size := (fun _ h => .inl (mr (h)))
        have f173 := f173.chg (Chg.refl [] _) o1 o2
        have hBg4 := hBg4.chg (Chg.refl [] _) (fun h => nomatch h)
        have hBg9 := hBg9.chg (Chg.refl [] _) (fun h => nomatch h)
        have hBg16 := hBg16.chg (Chg.refl [] _) (fun h => nomatch h)
        have hM : MS ([g16] ++ ([g9] ++ ([g4] ++ (M)))) w191 := (fun x h => hM.chg (Chg.refl [] _) x (mr (h)))
        have hC := hC.trans (Chg.refl [] _) (Ok.nil _ _)
        exact J181 _ _ (ha.sel (by kernel_rfl)) f173 hBg4 hBg9 hBg16 hC hM
       ·have ha := ha.lit hb193
        have H := ite_f hb193 H
        refine sgh ha 2 [2, 2] [(2, .pointer (some ⟨g4, 0, none⟩)), (5, .pointer (some ⟨g16, 0, none⟩)), (97, .bool false), (98, .slice ao179 t178.1.length cap179), (99, .slice ao1 a0.length cap1)] (by kernel_rfl) fun a ha => ?_
        have hML : MS ([g16] ++ ([g9] ++ ([g4] ++ (M)))) w191 := MS.rest hM (fun _ h => (List.mem_append.1 h).elim (fun h => mr (ml h)) (fun h => (List.mem_append.1 h).elim (fun h => mr (mr (ml h))) (fun h => (List.mem_append.1 h).elim (fun h => mr (mr (mr (ml h)))) (fun h => mr (mr (mr (mr (h))))))))
        have oL : Ok ([g16] ++ ([g9] ++ ([g4] ++ (M)))) (blkL ao179 ++ ([g16] ++ ([g9] ++ ([g4] ++ (M))))) w191.heap.size := (fun _ h => .inl (mr (h)))
        obtain ⟨t194, H194, H⟩ := bind_some H
        refine cl ha (by rfl) (by kernel_rfl) (by rfl) (by rfl) (by rfl) (bytes_Equal.walk w191 _ hML t178.1 ao179 cap179 (Own.toRSl (M' := [g16] ++ ([g9] ++ ([g4] ++ (M)))) f179 oL (fun x hx hm => (List.mem_append.1 hm).elim (fun h => p_i179_i18 x hx h) (fun h => (List.mem_append.1 h).elim (fun h => p_i179_i10 x hx h) (fun h => (List.mem_append.1 h).elim (fun h => p_i179_i6 x hx h) (fun h => p_i179_M x hx h))))) a0 ao1 cap1 (RSl.chg f1 (Chg.refl [] _) (Ok.nil _ _) oL) _ H194) ?_
        rintro _ w194 ⟨rfl, hc194, hMn⟩ a ha
        have o1 : Ok [] (blkL ao179 ++ ([g16] ++ ([g9] ++ ([g4] ++ (M))))) w191.heap.size := Ok.nil _ _
        have o2 : Ok (blkL ao179 ++ ([g16] ++ ([g9] ++ ([g4] ++ (M))))) (blkL ao179 ++ ([g16] ++ ([g9] ++ ([g4] ++ (M))))) w191.heap.size := (Ok.refl _ _)
        have f179 := f179.chg hc194 o1 o2 (fun _ _ h => nomatch h) (fun _ h => ml h)
        have f1 := f1.chg hc194 o1 o2
        have f173 := f173.chg hc194 o1 o2
        have hBg4 := hBg4.chg hc194 (fun h => nomatch h)
        have hBg9 := hBg9.chg hc194 (fun h => nomatch h)
        have hBg16 := hBg16.chg hc194 (fun h => nomatch h)
        have hM : MS (blkL ao179 ++ ([g16] ++ ([g9] ++ ([g4] ++ (M))))) w194 := (hM.chg hc194)
        have hC := hC.trans hc194 (Ok.nil _ _)
        refine sgh ha 2 [2, 4] [(2, .pointer (some ⟨g4, 0, none⟩)), (5, .pointer (some ⟨g16, 0, none⟩)), (102, .bool (!t194))] (by kernel_rfl) fun a ha => ?_
        obtain rfl := Option.some.inj H
        have o1 : Ok [] (blkL ao179 ++ ([g16] ++ ([g9] ++ ([g4] ++ (M))))) w194.heap.size := Ok.nil _ _
        have o2 : Ok ([g16] ++ ([g9] ++ ([g4] ++ (M)))) (blkL ao179 ++ ([g16] ++ ([g9] ++ ([g4] ++ (M))))) w194.heap.size := (fun _ h => .inl (mr (h)))
        have f173 := f173.chg (Chg.refl [] _) o1 o2
        have hBg4 := hBg4.chg (Chg.refl [] _) (fun h => nomatch h)
        have hBg9 := hBg9.chg (Chg.refl [] _) (fun h => nomatch h)
        have hBg16 := hBg16.chg (Chg.refl [] _) (fun h => nomatch h)
        have hM : MS ([g16] ++ ([g9] ++ ([g4] ++ (M)))) w194 := (fun x h => hM.chg (Chg.refl [] _) x (mr (h)))
        have hC := hC.trans (Chg.refl [] _) (Ok.nil _ _)
        exact J181 _ _ (ha.sel (by kernel_rfl)) f173 hBg4 hBg9 hBg16 hC hM
    have H := H139
    refine wp_seq_k fun K195 hK195 => ?_
    refine wp_region_lit ?_
    refine seg ha 2 [(0, .slice ao1 a0.length cap1), (2, .pointer (some ⟨g4, 0, none⟩)), (4, .pointer (some ⟨g9, 0, none⟩)), (5, .pointer (some ⟨g16, 0, none⟩)), (26, .int .i64 t22.1), (65, .bool (t22.1 == (3 : Int)))] (by kernel_rfl) fun a ha => ?_
    refine hK195 _ _ ?_; try clear hK195 K195
    refine cnd ha rfl (fun hc196 => ?_) (fun hc196 => ?_)
    ·have H := ite_t hc196 H
     refine wp_skip ?_
     obtain rfl := Option.some.inj H
     exact J139 _ _ (ha.sel (by kernel_rfl)) f1 f29 hBg4 hBg9 hBg16 hC hM
    ·have H := ite_f hc196 H
     refine wp_seq_k fun K197 hK197 => ?_
     refine wp_region_lit ?_
     refine seg ha 2 [(0, .slice ao1 a0.length cap1), (2, .pointer (some ⟨g4, 0, none⟩)), (4, .pointer (some ⟨g9, 0, none⟩)), (5, .pointer (some ⟨g16, 0, none⟩)), (26, .int .i64 t22.1), (65, .bool (t22.1 == (4 : Int)))] (by kernel_rfl) fun a ha => ?_
     refine hK197 _ _ ?_; try clear hK197 K197
     refine cnd ha rfl (fun hc198 => ?_) (fun hc198 => ?_)
     ·have H := ite_t hc198 H
      refine wp_skip ?_
      obtain rfl := Option.some.inj H
      exact J139 _ _ (ha.sel (by kernel_rfl)) f1 f29 hBg4 hBg9 hBg16 hC hM
     ·have H := ite_f hc198 H
      refine wp_region_lit ?_
      refine seg ha 2 [(0, .slice ao1 a0.length cap1), (2, .pointer (some ⟨g4, 0, none⟩)), (4, .pointer (some ⟨g9, 0, none⟩)), (5, .pointer (some ⟨g16, 0, none⟩)), (65, .bool (t22.1 == (5 : Int)))] (by kernel_rfl) fun a ha => ?_
      obtain rfl := Option.some.inj H
      exact J139 _ _ (ha.sel (by kernel_rfl)) f1 f29 hBg4 hBg9 hBg16 hC hM
  have H := H100
  refine wp_seq_k fun K199 hK199 => ?_
  refine wp_region_lit ?_
  refine seg ha 2 [(0, .slice ao1 a0.length cap1), (2, .pointer (some ⟨g4, 0, none⟩)), (4, .pointer (some ⟨g9, 0, none⟩)), (5, .pointer (some ⟨g16, 0, none⟩)), (26, .int .i64 t22.1), (50, .bool (t22.1 == (2 : Int)))] (by kernel_rfl) fun a ha => ?_
  refine hK199 _ _ ?_; try clear hK199 K199
  refine cnd ha rfl (fun hc200 => ?_) (fun hc200 => ?_)
  ·have H := ite_t hc200 H
   refine wp_skip ?_
   obtain rfl := Option.some.inj H
   have o1 : Ok [] (blkL ao28 ++ ([g16] ++ ([g9] ++ ([g4] ++ (M))))) w31.heap.size := Ok.nil _ _
   have o2 : Ok ([g16] ++ ([g9] ++ ([g4] ++ (M)))) (blkL ao28 ++ ([g16] ++ ([g9] ++ ([g4] ++ (M))))) w31.heap.size := (fun _ h => .inl (mr (h)))
   have f1 := f1.chg (Chg.refl [] _) o1 o2
   have f29 := f29.chg (Chg.refl [] _) o1 o2
   have hBg4 := hBg4.chg (Chg.refl [] _) (fun h => nomatch h)
   have hBg9 := hBg9.chg (Chg.refl [] _) (fun h => nomatch h)
   have hBg16 := hBg16.chg (Chg.refl [] _) (fun h => nomatch h)
   have hM : MS ([g16] ++ ([g9] ++ ([g4] ++ (M)))) w31 := (fun x h => hM.chg (Chg.refl [] _) x (mr (h)))
   have hC := hC.trans (Chg.refl [] _) (Ok.nil _ _)
   exact J100 _ _ (ha.sel (by kernel_rfl)) f1 f29 hBg4 hBg9 hBg16 hC hM
  ·have H := ite_f hc200 H
   refine wp_region_lit ?_
   refine seg ha 2 [(0, .slice ao1 a0.length cap1), (2, .pointer (some ⟨g4, 0, none⟩)), (4, .pointer (some ⟨g9, 0, none⟩)), (5, .pointer (some ⟨g16, 0, none⟩)), (26, .int .i64 t22.1), (50, .bool (t22.1 == (7 : Int)))] (by kernel_rfl) fun a ha => ?_
   obtain rfl := Option.some.inj H
   have o1 : Ok [] (blkL ao28 ++ ([g16] ++ ([g9] ++ ([g4] ++ (M))))) w31.heap.size := Ok.nil _ _
   have o2 : Ok ([g16] ++ ([g9] ++ ([g4] ++ (M)))) (blkL ao28 ++ ([g16] ++ ([g9] ++ ([g4] ++ (M))))) w31.heap.size := (fun _ h => .inl (mr (h)))
   have f1 := f1.chg (Chg.refl [] _) o1 o2
   have f29 := f29.chg (Chg.refl [] _) o1 o2
   have hBg4 := hBg4.chg (Chg.refl [] _) (fun h => nomatch h)
   have hBg9 := hBg9.chg (Chg.refl [] _) (fun h => nomatch h)
   have hBg16 := hBg16.chg (Chg.refl [] _) (fun h => nomatch h)
   have hM : MS ([g16] ++ ([g9] ++ ([g4] ++ (M)))) w31 := (fun x h => hM.chg (Chg.refl [] _) x (mr (h)))
   have hC := hC.trans (Chg.refl [] _) (Ok.nil _ _)
   exact J100 _ _ (ha.sel (by kernel_rfl)) f1 f29 hBg4 hBg9 hBg16 hC hM
def pmsi_Same.f (a0 : S_api_Tunnel) (a1 : S_api_Tunnel) : Option (Bool) := ((if (a0.Kind == a1.Kind) = true then (if ((a0.Root.Size == a1.Root.Size) && ((eqA 16 a0.Root.B a1.Root.B) && true)) = true then (bytes_Equal.f a0.Id a1.Id).bind fun t18 => some (t18 : Bool) else some (false : Bool)) else some (false : Bool))).bind fun s15 => some ((s15 : Bool))
set_option maxRecDepth 100000 in
theorem pmsi_Same.walk (w : World) (M : List Nat) (hM : MS M w) (a0 : S_api_Tunnel) (ao1 : Option Addr) (cap1 : Nat) (f1 : RSl (rInt .u8) 5 w M ao1 cap1 a0.Id) (a1 : S_api_Tunnel) (ao2 : Option Addr) (cap2 : Nat) (f2 : RSl (rInt .u8) 5 w M ao2 cap2 a1.Id) (r : Bool) (H : pmsi_Same.f a0 a1 = some r) :
    To Tryd.prog 23 [.agg (cS_api_Tunnel a0 ao1 cap1).toArray, .agg (cS_api_Tunnel a1 ao2 cap2).toArray] w fun v w' => v = .bool r ∧ Chg [] w w' ∧ MS (M) w' := by
 unfold pmsi_Same.f at H
 refine ent Tryd.func23 rfl [(0, .agg (cS_api_Tunnel a0 ao1 cap1).toArray), (1, .agg (cS_api_Tunnel a1 ao2 cap2).toArray)] rfl (by rfl) fun a ha => ?_
 have hC : Chg [] w w := Chg.refl _ _
 refine wp_seq_k fun K3 hK3 => ?_
 refine wp_region_lit ?_
 refine bx (cs := (cS_api_Tunnel a0 ao1 cap1)) ha rfl rfl rfl rfl rfl fun a w4 g5 hN6 ha => ?_
 have hn8 := hN6.notin hM
 have o1 : Ok [] (M) w.heap.size := Ok.nil _ _
 have o2 : Ok (M) (M) w.heap.size := (Ok.refl _ _)
 have f1 := f1.chg hN6.chg o1 o2
 have f2 := f2.chg hN6.chg o1 o2
 have hM : MS (M) w4 := (hM.chg hN6.chg)
 have hC := hC.trans hN6.chg (Ok.nil _ _)
 have hE7 : ∀ j v, (cS_api_Tunnel a0 ao1 cap1)[j]? = some v → w4.cell? ⟨g5, 0 + j, none⟩ = some v := Box.cells (New.box hN6)
 refine bx (cs := (cS_api_Tunnel a1 ao2 cap2)) ha rfl rfl rfl rfl rfl fun a w9 g10 hN11 ha => ?_
 have hn13 := hN11.notin hM
 have o1 : Ok [] (M) w4.heap.size := Ok.nil _ _
 have o2 : Ok (M) (M) w4.heap.size := (Ok.refl _ _)
 have f2 := f2.chg hN11.chg o1 o2
 have f1 := f1.chg hN11.chg o1 o2
 have q_hn8 : g5 ∉ M := fun h => (o2 g5 h).elim hn8 (fun h => absurd (lt_cell (hE7 0 _ rfl)) (Nat.not_lt.2 h))
 have hE7 : ∀ j v, (cS_api_Tunnel a0 ao1 cap1)[j]? = some v → w9.cell? ⟨g5, 0 + j, none⟩ = some v := fun j v hv => (cell_keep hN11.chg o1 hn8 (hE7 j v hv))
 have hn8 := q_hn8
 have hM : MS (M) w9 := (hM.chg hN11.chg)
 have hC := hC.trans hN11.chg (Ok.nil _ _)
 have hE12 : ∀ j v, (cS_api_Tunnel a1 ao2 cap2)[j]? = some v → w9.cell? ⟨g10, 0 + j, none⟩ = some v := Box.cells (New.box hN11)
 refine seg ha 1 [(2, .pointer (some ⟨g5, 0, none⟩)), (3, .pointer (some ⟨g10, 0, none⟩))] (by kernel_rfl) fun a ha => ?_
 refine hK3 _ _ ?_; try clear hK3 K3
 refine wp_seq_k fun K14 hK14 => ?_
 refine wp_region_lit ?_
 obtain ⟨s15, H15, H⟩ := bind_some H
 have J15 : ∀ (a : Act) (w15 : World), Has a Tryd.f23.ntmps [(4, .bool s15)] → (Chg [] w w15) → (MS (M) w15) → K14 a w15 := by
  intro a w15 ha hC hM
  refine hK14 _ _ ?_; try clear hK14 K14
  refine wp_ret ?_
  try simp only [Exit.then, Exit.inBlock]
  obtain rfl := Option.some.inj H
  refine rt1 ha rfl rfl ?_
  exact ⟨rfl, hC, hM⟩
 have H := H15
 refine seg ha 1 [(2, .pointer (some ⟨g5, 0, none⟩)), (3, .pointer (some ⟨g10, 0, none⟩)), (5, .pointer (some ⟨g5, 0 + 1, none⟩))] (by kernel_rfl) fun a ha => ?_
 refine ld ha rfl (by kernel_rfl) rfl rfl rfl (hE7 1 (.int .i64 a0.Kind) (by kernel_rfl)) fun a ha => ?_
 refine seg ha 1 [(2, .pointer (some ⟨g5, 0, none⟩)), (3, .pointer (some ⟨g10, 0, none⟩)), (6, .int .i64 a0.Kind), (7, .pointer (some ⟨g10, 0 + 1, none⟩))] (by kernel_rfl) fun a ha => ?_
 refine ld ha rfl (by kernel_rfl) rfl rfl rfl (hE12 1 (.int .i64 a1.Kind) (by kernel_rfl)) fun a ha => ?_
 refine seg ha 2 [(10, .bool (a0.Kind == a1.Kind)), (2, .pointer (some ⟨g5, 0, none⟩)), (3, .pointer (some ⟨g10, 0, none⟩))] (by kernel_rfl) fun a ha => ?_
 rcases Bool.eq_false_or_eq_true (a0.Kind == a1.Kind) with hb16 | hb16
 ·have ha := ha.lit hb16
  have H := ite_t hb16 H
  refine sgh ha 1 [2] [(2, .pointer (some ⟨g5, 0, none⟩)), (3, .pointer (some ⟨g10, 0, none⟩)), (10, .bool true), (11, .pointer (some ⟨g5, 0 + 3, none⟩))] (by kernel_rfl) fun a ha => ?_
  refine ldA (cs := (cS_api_Addr a0.Root)) ha rfl (by kernel_rfl) rfl rfl rfl (cells_sub hE7 (all := (cS_api_Tunnel a0 ao1 cap1)) [.bool a0.Leaf, .int .i64 a0.Kind, .int .i64 a0.Label] [.slice ao1 a0.Id.length cap1] (by kernel_rfl)) fun a ha => ?_
  refine sgh ha 1 [2] [(2, .pointer (some ⟨g5, 0, none⟩)), (3, .pointer (some ⟨g10, 0, none⟩)), (10, .bool true), (12, .agg (cS_api_Addr a0.Root).toArray), (13, .pointer (some ⟨g10, 0 + 3, none⟩))] (by kernel_rfl) fun a ha => ?_
  refine ldA (cs := (cS_api_Addr a1.Root)) ha rfl (by kernel_rfl) rfl rfl rfl (cells_sub hE12 (all := (cS_api_Tunnel a1 ao2 cap2)) [.bool a1.Leaf, .int .i64 a1.Kind, .int .i64 a1.Label] [.slice ao2 a1.Id.length cap2] (by kernel_rfl)) fun a ha => ?_
  refine hop (v := .bool ((a0.Root.Size == a1.Root.Size) && ((eqA 16 a0.Root.B a1.Root.B) && true))) (w' := w9) ha rfl rfl rfl (eqs_run (r := ((a0.Root.Size == a1.Root.Size) && ((eqA 16 a0.Root.B a1.Root.B) && true))) (m := 9) ha rfl rfl (by kernel_rfl) rfl (by kernel_rfl) _) fun a ha => ?_
  refine sgh ha 2 [3, 0] [(17, .bool ((a0.Root.Size == a1.Root.Size) && ((eqA 16 a0.Root.B a1.Root.B) && true))), (2, .pointer (some ⟨g5, 0, none⟩)), (3, .pointer (some ⟨g10, 0, none⟩))] (by kernel_rfl) fun a ha => ?_
  rcases Bool.eq_false_or_eq_true (((a0.Root.Size == a1.Root.Size) && ((eqA 16 a0.Root.B a1.Root.B) && true))) with hb17 | hb17
  ·have ha := ha.lit hb17
   have H := ite_t hb17 H
   refine sgh ha 1 [2] [(3, .pointer (some ⟨g10, 0, none⟩)), (17, .bool true), (18, .pointer (some ⟨g5, 0 + 20, none⟩))] (by kernel_rfl) fun a ha => ?_
   refine ld ha rfl (by kernel_rfl) rfl rfl rfl (hE7 20 (.slice ao1 a0.Id.length cap1) (by kernel_rfl)) fun a ha => ?_
   refine sgh ha 1 [2] [(17, .bool true), (19, .slice ao1 a0.Id.length cap1), (20, .pointer (some ⟨g10, 0 + 20, none⟩))] (by kernel_rfl) fun a ha => ?_
   refine ld ha rfl (by kernel_rfl) rfl rfl rfl (hE12 20 (.slice ao2 a1.Id.length cap2) (by kernel_rfl)) fun a ha => ?_
   obtain ⟨t18, H18, H⟩ := bind_some H
   refine cl ha (by rfl) (by kernel_rfl) (by rfl) (by rfl) (by rfl) (bytes_Equal.walk w9 _ hM a0.Id ao1 cap1 f1 a1.Id ao2 cap2 f2 _ H18) ?_
   rintro _ w18 ⟨rfl, hc18, hMn⟩ a ha
   have o1 : Ok [] (M) w9.heap.size := Ok.nil _ _
   have o2 : Ok (M) (M) w9.heap.size := (Ok.refl _ _)
   have f1 := f1.chg hc18 o1 o2
   have f2 := f2.chg hc18 o1 o2
   have hM : MS (M) w18 := (hM.chg hc18)
   have hC := hC.trans hc18 (Ok.nil _ _)
   refine sgh ha 2 [3, 0] [(4, .bool t18)] (by kernel_rfl) fun a ha => ?_
   obtain rfl := Option.some.inj H
   exact J15 _ _ (ha.sel (by kernel_rfl)) hC hM
  ·have ha := ha.lit hb17
   have H := ite_f hb17 H
   refine sgh ha 7 [1, 1, 1, 1, 1, 4, 0] [(4, .bool false)] (by kernel_rfl) fun a ha => ?_
   obtain rfl := Option.some.inj H
   exact J15 _ _ (ha.sel (by kernel_rfl)) hC hM
 ·have ha := ha.lit hb16
  have H := ite_f hb16 H
  refine sgh ha 14 [1, 1, 1, 1, 1, 4, 0, 1, 1, 1, 1, 1, 4, 0] [(4, .bool false)] (by kernel_rfl) fun a ha => ?_
  obtain rfl := Option.some.inj H
  exact J15 _ _ (ha.sel (by kernel_rfl)) hC hM
def vinerylaw06_small.f (k : Nat) : Option (Bool) := (pmsi_Bytes.f k (⟨true, (2 : Int), (0 : Int), (⟨(4 : Int), ([(10 : Int), (0 : Int), (0 : Int), (1 : Int), (0 : Int), (0 : Int), (0 : Int), (0 : Int), (0 : Int), (0 : Int), (0 : Int), (0 : Int), (0 : Int), (0 : Int), (0 : Int), (0 : Int)] : List Int)⟩ : S_api_Addr), ([(1 : Int), (2 : Int)] : List Int)⟩ : S_api_Tunnel)).bind fun t15 => (pmsi_Parse.f k t15.1).bind fun t18 => (pmsi_Bytes.f k (⟨false, (3 : Int), (0 : Int), (⟨(4 : Int), ([(10 : Int), (0 : Int), (0 : Int), (1 : Int), (0 : Int), (0 : Int), (0 : Int), (0 : Int), (0 : Int), (0 : Int), (0 : Int), (0 : Int), (0 : Int), (0 : Int), (0 : Int), (0 : Int)] : List Int)⟩ : S_api_Addr), ([(10 : Int), (0 : Int), (0 : Int), (2 : Int)] : List Int)⟩ : S_api_Tunnel)).bind fun t32 => ((if (t15.2 == (0 : Int)) = true then (if ((bstr (b2s t15.1)).toList == (bstr ([1, 2, 0, 0, 0, 6, 0, 1, 4, 10, 0, 0, 1, 0, 2, 1, 2] : List UInt8)).toList) = true then (if (t18.2 == (0 : Int)) = true then (if t18.1.Leaf = true then (if ((t18.1.Root.Size == (4 : Int)) && ((eqA 16 t18.1.Root.B ([(10 : Int), (0 : Int), (0 : Int), (1 : Int), (0 : Int), (0 : Int), (0 : Int), (0 : Int), (0 : Int), (0 : Int), (0 : Int), (0 : Int), (0 : Int), (0 : Int), (0 : Int), (0 : Int)] : List Int)) && true)) = true then (pmsi_Same.f t18.1 (⟨false, (2 : Int), (0 : Int), (⟨(4 : Int), ([(10 : Int), (0 : Int), (0 : Int), (1 : Int), (0 : Int), (0 : Int), (0 : Int), (0 : Int), (0 : Int), (0 : Int), (0 : Int), (0 : Int), (0 : Int), (0 : Int), (0 : Int), (0 : Int)] : List Int)⟩ : S_api_Addr), ([(1 : Int), (2 : Int)] : List Int)⟩ : S_api_Tunnel)).bind fun t46 => (if t46 = true then some (t32.2 == (1 : Int) : Bool) else some (false : Bool)) else some (false : Bool)) else some (false : Bool)) else some (false : Bool)) else some (false : Bool)) else some (false : Bool))).bind fun s35 => some ((s35 : Bool))
set_option maxRecDepth 100000 in
theorem vinerylaw06_small.walk (w : World) (M : List Nat) (hM : MS M w)  (k : Nat) (r : Bool) (H : vinerylaw06_small.f k = some r) :
    To Tryd.prog 12 [] w fun v w' => v = .bool r ∧ Chg [] w w' ∧ MS (M) w' := by
 unfold vinerylaw06_small.f at H
 refine ent Tryd.func12 rfl [] rfl (by rfl) fun a ha => ?_
 have hC : Chg [] w w := Chg.refl _ _
 refine wp_seq_k fun K1 hK1 => ?_
 refine wp_region_lit ?_
 refine seg ha 1 [] (by kernel_rfl) fun a ha => ?_
 refine hK1 _ _ ?_; try clear hK1 K1
 refine wp_seq_k fun K2 hK2 => ?_
 refine wp_region_lit ?_
 refine opk (v := .agg (cA .u8 16 ([(10 : Int), (0 : Int), (0 : Int), (1 : Int), (0 : Int), (0 : Int), (0 : Int), (0 : Int), (0 : Int), (0 : Int), (0 : Int), (0 : Int), (0 : Int), (0 : Int), (0 : Int), (0 : Int)] : List Int)).toArray) ha rfl rfl rfl rfl rfl (fun w => by kernel_rfl) fun a ha => ?_
 refine opk (v := .agg (cS_api_Addr (⟨(4 : Int), ([(10 : Int), (0 : Int), (0 : Int), (1 : Int), (0 : Int), (0 : Int), (0 : Int), (0 : Int), (0 : Int), (0 : Int), (0 : Int), (0 : Int), (0 : Int), (0 : Int), (0 : Int), (0 : Int)] : List Int)⟩ : S_api_Addr)).toArray) ha rfl rfl rfl rfl rfl (fun w => by kernel_rfl) fun a ha => ?_
 refine al (cs := (cS_api_Addr (⟨(0 : Int), (List.replicate 16 (0 : Int))⟩ : S_api_Addr))) (z := .agg (cS_api_Addr (⟨(0 : Int), (List.replicate 16 (0 : Int))⟩ : S_api_Addr)).toArray) ha (fun w => by kernel_rfl) rfl rfl rfl rfl fun a w3 g4 hN5 ha => ?_
 have p_i6_M : ∀ x ∈ [g4], x ∉ M := fun x hx hy => absurd (hM x (hy)) (Nat.not_lt.2 ((hN5.ge1) x hx))
 have e_i6 : ∀ x ∈ [g4], w.heap.size ≤ x := fun x hx => Nat.le_trans hC.size ((hN5.ge1) x hx)
 have hM : MS ([g4] ++ (M)) w3 := (MS.app hN5.ms (hM.chg hN5.chg))
 have hC := hC.trans hN5.chg (Ok.nil _ _)
 have hBg4 : Box w3 g4 (cS_api_Addr (⟨(0 : Int), (List.replicate 16 (0 : Int))⟩ : S_api_Addr)) := hN5.box
 refine stA (l := (cS_api_Addr (⟨(4 : Int), ([(10 : Int), (0 : Int), (0 : Int), (1 : Int), (0 : Int), (0 : Int), (0 : Int), (0 : Int), (0 : Int), (0 : Int), (0 : Int), (0 : Int), (0 : Int), (0 : Int), (0 : Int), (0 : Int)] : List Int)⟩ : S_api_Addr))) ha rfl rfl rfl (by kernel_rfl) rfl rfl hBg4 rfl fun a w7 ha hb2 hc8 _ => ?_
 have hM : MS ([g4] ++ (M)) w7 := (hM.chg hc8)
 have hC := hC.trans hc8 (fun x h => .inr (e_i6 x h))
 have hBg4 : Box w7 g4 (cS_api_Addr (⟨(4 : Int), ([(10 : Int), (0 : Int), (0 : Int), (1 : Int), (0 : Int), (0 : Int), (0 : Int), (0 : Int), (0 : Int), (0 : Int), (0 : Int), (0 : Int), (0 : Int), (0 : Int), (0 : Int), (0 : Int)] : List Int)⟩ : S_api_Addr)) := hb2
 refine hK2 _ _ ?_; try clear hK2 K2
 refine wp_seq_k fun K9 hK9 => ?_
 refine wp_region_lit ?_
 refine ldA (cs := (cS_api_Addr (⟨(4 : Int), ([(10 : Int), (0 : Int), (0 : Int), (1 : Int), (0 : Int), (0 : Int), (0 : Int), (0 : Int), (0 : Int), (0 : Int), (0 : Int), (0 : Int), (0 : Int), (0 : Int), (0 : Int), (0 : Int)] : List Int)⟩ : S_api_Addr))) ha rfl (by kernel_rfl) rfl rfl rfl (cells_sub (Box.cells hBg4) (all := (cS_api_Addr (⟨(4 : Int), ([(10 : Int), (0 : Int), (0 : Int), (1 : Int), (0 : Int), (0 : Int), (0 : Int), (0 : Int), (0 : Int), (0 : Int), (0 : Int), (0 : Int), (0 : Int), (0 : Int), (0 : Int), (0 : Int)] : List Int)⟩ : S_api_Addr))) [] [] (by kernel_rfl)) fun a ha => ?_
 refine bsl (vals := ([.int .u8 (1 : Int), .int .u8 (2 : Int)] : List Value)) (T := 5) ha rfl (([.int .u8 (1 : Int)] : List Value) ++ (([.int .u8 (2 : Int)] : List Value) ++ ([] : List Value))) (fun w => by kernel_rfl) rfl rfl rfl fun a w10 g11 hN12 ha => ?_
 have hBg4 := hBg4.chg hN12.chg (fun h => nomatch h)
 have p_i13_i6 : ∀ x ∈ [g11], x ∉ ([g4]) := fun x hx hy => absurd (hM x (ml hy)) (Nat.not_lt.2 ((hN12.ge1) x hx))
 have p_i13_M : ∀ x ∈ [g11], x ∉ M := fun x hx hy => absurd (hM x (mr (hy))) (Nat.not_lt.2 ((hN12.ge1) x hx))
 have e_i13 : ∀ x ∈ [g11], w.heap.size ≤ x := fun x hx => Nat.le_trans hC.size ((hN12.ge1) x hx)
 have hM : MS ([g11] ++ ([g4] ++ (M))) w10 := (MS.app hN12.ms (hM.chg hN12.chg))
 have hC := hC.trans hN12.chg (Ok.nil _ _)
 have f14 : Own (rInt .u8) 5 w10 ([g11] ++ ([g4] ++ (M))) (some ⟨g11, 0, none⟩) 2 ([(1 : Int), (2 : Int)] : List Int) := hN12.own ⟨([.int .u8 (1 : Int)] : List Value), _, rfl, rfl, ⟨([.int .u8 (2 : Int)] : List Value), _, rfl, rfl, rfl⟩⟩ (Nat.le_of_ble_eq_true rfl)
 refine opk (v := .agg (cS_api_Tunnel (⟨true, (2 : Int), (0 : Int), (⟨(4 : Int), ([(10 : Int), (0 : Int), (0 : Int), (1 : Int), (0 : Int), (0 : Int), (0 : Int), (0 : Int), (0 : Int), (0 : Int), (0 : Int), (0 : Int), (0 : Int), (0 : Int), (0 : Int), (0 : Int)] : List Int)⟩ : S_api_Addr), ([(1 : Int), (2 : Int)] : List Int)⟩ : S_api_Tunnel) (some ⟨g11, 0, none⟩) 2).toArray) ha rfl rfl rfl rfl rfl (fun w => by kernel_rfl) fun a ha => ?_
 have hML : MS ([g4] ++ (M)) w10 := MS.rest hM (fun _ h => (List.mem_append.1 h).elim (fun h => mr (ml h)) (fun h => mr (mr (h))))
 have oL : Ok ([g4] ++ (M)) ([g11] ++ ([g4] ++ (M))) w10.heap.size := (fun _ h => .inl (mr (h)))
 obtain ⟨t15, H15, H⟩ := bind_some H
 refine cl ha (by rfl) (by kernel_rfl) (by rfl) (by rfl) (by rfl) (pmsi_Bytes.walk w10 _ hML (⟨true, (2 : Int), (0 : Int), (⟨(4 : Int), ([(10 : Int), (0 : Int), (0 : Int), (1 : Int), (0 : Int), (0 : Int), (0 : Int), (0 : Int), (0 : Int), (0 : Int), (0 : Int), (0 : Int), (0 : Int), (0 : Int), (0 : Int), (0 : Int)] : List Int)⟩ : S_api_Addr), ([(1 : Int), (2 : Int)] : List Int)⟩ : S_api_Tunnel) (some ⟨g11, 0, none⟩) 2 (Own.toRSl (M' := [g4] ++ (M)) f14 oL (fun x hx hm => (List.mem_append.1 hm).elim (fun h => p_i13_i6 x hx h) (fun h => p_i13_M x hx h))) k _ H15) ?_
 rintro _ w15 ⟨ao16, cap16, rfl, f16, ne_i16, hc15, hMn⟩ a ha
 have o1 : Ok [] ([g11] ++ ([g4] ++ (M))) w10.heap.size := Ok.nil _ _
 have o2 : Ok (blkL ao16 ++ ([g11] ++ ([g4] ++ (M)))) ([g11] ++ ([g4] ++ (M))) w10.heap.size := (Ok.app (fun x h => .inr (ne_i16 x h)) (Ok.refl _ _))
 have f14 := f14.chg hc15 o1 o2 (fun _ _ h => nomatch h) (fun _ h => mr (ml h))
 have hBg4 := hBg4.chg hc15 (fun h => nomatch h)
 have p_i16_i13 : ∀ x ∈ blkL ao16, x ∉ ([g11]) := fun x hx hy => absurd (hM x (ml hy)) (Nat.not_lt.2 (ne_i16 x hx))
 have p_i16_i6 : ∀ x ∈ blkL ao16, x ∉ ([g4]) := fun x hx hy => absurd (hM x (mr (ml hy))) (Nat.not_lt.2 (ne_i16 x hx))
 have p_i16_M : ∀ x ∈ blkL ao16, x ∉ M := fun x hx hy => absurd (hM x (mr (mr (hy)))) (Nat.not_lt.2 (ne_i16 x hx))
 have e_i16 : ∀ x ∈ blkL ao16, w.heap.size ≤ x := fun x hx => Nat.le_trans hC.size (ne_i16 x hx)
 have hM : MS (blkL ao16 ++ ([g11] ++ ([g4] ++ (M)))) w15 := (MS.app (fun x h => hMn x (ml h)) (hM.chg hc15))
 have hC := hC.trans hc15 (Ok.nil _ _)
 have f16 := Own.re (M' := blkL ao16 ++ ([g11] ++ ([g4] ++ (M)))) (fun _ _ _ _ _ h => h) f16 (fun _ h => ml h)
 refine seg ha 5 [(1, .pointer (some ⟨g4, 0, none⟩)), (2, .slice ao16 t15.1.length cap16), (3, .int .i64 t15.2)] (by kernel_rfl) fun a ha => ?_
 refine hK9 _ _ ?_; try clear hK9 K9
 refine wp_seq_k fun K17 hK17 => ?_
 refine wp_region_lit ?_
 refine seg ha 1 [(1, .pointer (some ⟨g4, 0, none⟩)), (2, .slice ao16 t15.1.length cap16), (3, .int .i64 t15.2), (18, .slice ao16 t15.1.length cap16)] (by kernel_rfl) fun a ha => ?_
 have hML : MS ([g11] ++ ([g4] ++ (M))) w15 := MS.rest hM (fun _ h => (List.mem_append.1 h).elim (fun h => mr (ml h)) (fun h => (List.mem_append.1 h).elim (fun h => mr (mr (ml h))) (fun h => mr (mr (mr (h))))))
 have oL : Ok ([g11] ++ ([g4] ++ (M))) (blkL ao16 ++ ([g11] ++ ([g4] ++ (M)))) w15.heap.size := (fun _ h => .inl (mr (h)))
 obtain ⟨t18, H18, H⟩ := bind_some H
 refine cl ha (by rfl) (by kernel_rfl) (by rfl) (by rfl) (by rfl) (pmsi_Parse.walk w15 _ hML t15.1 ao16 cap16 (Own.toRSl (M' := [g11] ++ ([g4] ++ (M))) f16 oL (fun x hx hm => (List.mem_append.1 hm).elim (fun h => p_i16_i13 x hx h) (fun h => (List.mem_append.1 h).elim (fun h => p_i16_i6 x hx h) (fun h => p_i16_M x hx h)))) k _ H18) ?_
 rintro _ w18 ⟨ao19, cap19, rfl, f19, ne_i19, hc18, hMn⟩ a ha
 have o1 : Ok [] (blkL ao16 ++ ([g11] ++ ([g4] ++ (M)))) w15.heap.size := Ok.nil _ _
 have o2 : Ok (blkL ao19 ++ (blkL ao16 ++ ([g11] ++ ([g4] ++ (M))))) (blkL ao16 ++ ([g11] ++ ([g4] ++ (M)))) w15.heap.size := (Ok.app (fun x h => .inr (ne_i19 x h)) (Ok.refl _ _))
 have f16 := f16.chg hc18 o1 o2 (fun _ _ h => nomatch h) (fun _ h => mr (ml h))
 have hBg4 := hBg4.chg hc18 (fun h => nomatch h)
 have p_i19_i16 : ∀ x ∈ blkL ao19, x ∉ (blkL ao16) := fun x hx hy => absurd (hM x (ml hy)) (Nat.not_lt.2 (ne_i19 x hx))
 have p_i19_i13 : ∀ x ∈ blkL ao19, x ∉ ([g11]) := fun x hx hy => absurd (hM x (mr (ml hy))) (Nat.not_lt.2 (ne_i19 x hx))
 have p_i19_i6 : ∀ x ∈ blkL ao19, x ∉ ([g4]) := fun x hx hy => absurd (hM x (mr (mr (ml hy)))) (Nat.not_lt.2 (ne_i19 x hx))
 have p_i19_M : ∀ x ∈ blkL ao19, x ∉ M := fun x hx hy => absurd (hM x (mr (mr (mr (hy))))) (Nat.not_lt.2 (ne_i19 x hx))
 have e_i19 : ∀ x ∈ blkL ao19, w.heap.size ≤ x := fun x hx => Nat.le_trans hC.size (ne_i19 x hx)
 have hM : MS (blkL ao19 ++ (blkL ao16 ++ ([g11] ++ ([g4] ++ (M))))) w18 := (MS.app (fun x h => hMn x (ml h)) (hM.chg hc18))
 have hC := hC.trans hc18 (Ok.nil _ _)
 have f19 := Own.re (M' := blkL ao19 ++ (blkL ao16 ++ ([g11] ++ ([g4] ++ (M))))) (fun _ _ _ _ _ h => h) f19 (fun _ h => ml h)
 refine seg ha 3 [(1, .pointer (some ⟨g4, 0, none⟩)), (2, .slice ao16 t15.1.length cap16), (3, .int .i64 t15.2), (20, .agg (cS_api_Tunnel t18.1 ao19 cap19).toArray), (21, .int .i64 t18.2)] (by kernel_rfl) fun a ha => ?_
 refine al (cs := (cS_api_Tunnel (⟨false, (0 : Int), (0 : Int), (⟨(0 : Int), (List.replicate 16 (0 : Int))⟩ : S_api_Addr), ([] : List Int)⟩ : S_api_Tunnel) none 0)) (z := .agg (cS_api_Tunnel (⟨false, (0 : Int), (0 : Int), (⟨(0 : Int), (List.replicate 16 (0 : Int))⟩ : S_api_Addr), ([] : List Int)⟩ : S_api_Tunnel) none 0).toArray) ha (fun w => by kernel_rfl) rfl rfl rfl rfl fun a w20 g21 hN22 ha => ?_
 have o1 : Ok [] (blkL ao19 ++ (blkL ao16 ++ ([g11] ++ ([g4] ++ (M))))) w18.heap.size := Ok.nil _ _
 have o2 : Ok ([g21] ++ (blkL ao19 ++ (blkL ao16 ++ ([g11] ++ ([g4] ++ (M)))))) (blkL ao19 ++ (blkL ao16 ++ ([g11] ++ ([g4] ++ (M))))) w18.heap.size := (Ok.app (hN22.ok _) (Ok.refl _ _))
 have f16 := f16.chg hN22.chg o1 o2 (fun _ _ h => nomatch h) (fun _ h => mr (mr (ml h)))
 have f19 := f19.chg hN22.chg o1 o2 (fun _ _ h => nomatch h) (fun _ h => mr (ml h))
 have hBg4 := hBg4.chg hN22.chg (fun h => nomatch h)
 have p_i23_i19 : ∀ x ∈ [g21], x ∉ (blkL ao19) := fun x hx hy => absurd (hM x (ml hy)) (Nat.not_lt.2 ((hN22.ge1) x hx))
 have p_i23_i16 : ∀ x ∈ [g21], x ∉ (blkL ao16) := fun x hx hy => absurd (hM x (mr (ml hy))) (Nat.not_lt.2 ((hN22.ge1) x hx))
 have p_i23_i13 : ∀ x ∈ [g21], x ∉ ([g11]) := fun x hx hy => absurd (hM x (mr (mr (ml hy)))) (Nat.not_lt.2 ((hN22.ge1) x hx))
 have p_i23_i6 : ∀ x ∈ [g21], x ∉ ([g4]) := fun x hx hy => absurd (hM x (mr (mr (mr (ml hy))))) (Nat.not_lt.2 ((hN22.ge1) x hx))
 have p_i23_M : ∀ x ∈ [g21], x ∉ M := fun x hx hy => absurd (hM x (mr (mr (mr (mr (hy)))))) (Nat.not_lt.2 ((hN22.ge1) x hx))
 have e_i23 : ∀ x ∈ [g21], w.heap.size ≤ x := fun x hx => Nat.le_trans hC.size ((hN22.ge1) x hx)
 have hM : MS ([g21] ++ (blkL ao19 ++ (blkL ao16 ++ ([g11] ++ ([g4] ++ (M)))))) w20 := (MS.app hN22.ms (hM.chg hN22.chg))
 have hC := hC.trans hN22.chg (Ok.nil _ _)
 have hBg21 : Box w20 g21 (cS_api_Tunnel (⟨false, (0 : Int), (0 : Int), (⟨(0 : Int), (List.replicate 16 (0 : Int))⟩ : S_api_Addr), ([] : List Int)⟩ : S_api_Tunnel) none 0) := hN22.box
 refine stA (l := (cS_api_Tunnel t18.1 ao19 cap19)) ha rfl rfl rfl (by kernel_rfl) rfl rfl hBg21 rfl fun a w24 ha hb2 hc25 _ => ?_
 have o1 : Ok [g21] ([g21] ++ (blkL ao19 ++ (blkL ao16 ++ ([g11] ++ ([g4] ++ (M)))))) w20.heap.size := (fun _ h => .inl (ml h))
 have o2 : Ok ([g21] ++ (blkL ao19 ++ (blkL ao16 ++ ([g11] ++ ([g4] ++ (M)))))) ([g21] ++ (blkL ao19 ++ (blkL ao16 ++ ([g11] ++ ([g4] ++ (M)))))) w20.heap.size := (Ok.refl _ _)
 have f16 := f16.chg hc25 o1 o2 (fun x (hx : x ∈ blkL ao16) (hy : x ∈ [g21]) => p_i23_i16 x hy hx) (fun _ h => mr (mr (ml h)))
 have f19 := f19.chg hc25 o1 o2 (fun x (hx : x ∈ blkL ao19) (hy : x ∈ [g21]) => p_i23_i19 x hy hx) (fun _ h => mr (ml h))
 have hBg4 := hBg4.chg hc25 ((fun x (hx : x ∈ [g4]) (hy : x ∈ [g21]) => p_i23_i6 x hy hx) g4 (by simp))
 have hM : MS ([g21] ++ (blkL ao19 ++ (blkL ao16 ++ ([g11] ++ ([g4] ++ (M)))))) w24 := (hM.chg hc25)
 have hC := hC.trans hc25 (fun x h => .inr (e_i23 x h))
 have hBg21 : Box w24 g21 (cS_api_Tunnel t18.1 ao19 cap19) := hb2
 refine seg ha 1 [(1, .pointer (some ⟨g4, 0, none⟩)), (2, .slice ao16 t15.1.length cap16), (3, .int .i64 t15.2), (4, .pointer (some ⟨g21, 0, none⟩)), (5, .int .i64 t18.2)] (by kernel_rfl) fun a ha => ?_
 refine hK17 _ _ ?_; try clear hK17 K17
 refine wp_seq_k fun K26 hK26 => ?_
 refine wp_region_lit ?_
 refine ldA (cs := (cS_api_Addr (⟨(4 : Int), ([(10 : Int), (0 : Int), (0 : Int), (1 : Int), (0 : Int), (0 : Int), (0 : Int), (0 : Int), (0 : Int), (0 : Int), (0 : Int), (0 : Int), (0 : Int), (0 : Int), (0 : Int), (0 : Int)] : List Int)⟩ : S_api_Addr))) ha rfl (by kernel_rfl) rfl rfl rfl (cells_sub (Box.cells hBg4) (all := (cS_api_Addr (⟨(4 : Int), ([(10 : Int), (0 : Int), (0 : Int), (1 : Int), (0 : Int), (0 : Int), (0 : Int), (0 : Int), (0 : Int), (0 : Int), (0 : Int), (0 : Int), (0 : Int), (0 : Int), (0 : Int), (0 : Int)] : List Int)⟩ : S_api_Addr))) [] [] (by kernel_rfl)) fun a ha => ?_
 refine bsl (vals := ([.int .u8 (10 : Int), .int .u8 (0 : Int), .int .u8 (0 : Int), .int .u8 (2 : Int)] : List Value)) (T := 5) ha rfl (([.int .u8 (10 : Int)] : List Value) ++ (([.int .u8 (0 : Int)] : List Value) ++ (([.int .u8 (0 : Int)] : List Value) ++ (([.int .u8 (2 : Int)] : List Value) ++ ([] : List Value))))) (fun w => by kernel_rfl) rfl rfl rfl fun a w27 g28 hN29 ha => ?_
 have o1 : Ok [] ([g21] ++ (blkL ao19 ++ (blkL ao16 ++ ([g11] ++ ([g4] ++ (M)))))) w24.heap.size := Ok.nil _ _
 have o2 : Ok ([g28] ++ ([g21] ++ (blkL ao19 ++ (blkL ao16 ++ ([g11] ++ ([g4] ++ (M))))))) ([g21] ++ (blkL ao19 ++ (blkL ao16 ++ ([g11] ++ ([g4] ++ (M)))))) w24.heap.size := (Ok.app (hN29.ok _) (Ok.refl _ _))
 have f16 := f16.chg hN29.chg o1 o2 (fun _ _ h => nomatch h) (fun _ h => mr (mr (mr (ml h))))
 have f19 := f19.chg hN29.chg o1 o2 (fun _ _ h => nomatch h) (fun _ h => mr (mr (ml h)))
 have hBg4 := hBg4.chg hN29.chg (fun h => nomatch h)
 have hBg21 := hBg21.chg hN29.chg (fun h => nomatch h)
 have p_i30_i23 : ∀ x ∈ [g28], x ∉ ([g21]) := fun x hx hy => absurd (hM x (ml hy)) (Nat.not_lt.2 ((hN29.ge1) x hx))
 have p_i30_i19 : ∀ x ∈ [g28], x ∉ (blkL ao19) := fun x hx hy => absurd (hM x (mr (ml hy))) (Nat.not_lt.2 ((hN29.ge1) x hx))
 have p_i30_i16 : ∀ x ∈ [g28], x ∉ (blkL ao16) := fun x hx hy => absurd (hM x (mr (mr (ml hy)))) (Nat.not_lt.2 ((hN29.ge1) x hx))
 have p_i30_i13 : ∀ x ∈ [g28], x ∉ ([g11]) := fun x hx hy => absurd (hM x (mr (mr (mr (ml hy))))) (Nat.not_lt.2 ((hN29.ge1) x hx))
 have p_i30_i6 : ∀ x ∈ [g28], x ∉ ([g4]) := fun x hx hy => absurd (hM x (mr (mr (mr (mr (ml hy)))))) (Nat.not_lt.2 ((hN29.ge1) x hx))
 have p_i30_M : ∀ x ∈ [g28], x ∉ M := fun x hx hy => absurd (hM x (mr (mr (mr (mr (mr (hy))))))) (Nat.not_lt.2 ((hN29.ge1) x hx))
 have e_i30 : ∀ x ∈ [g28], w.heap.size ≤ x := fun x hx => Nat.le_trans hC.size ((hN29.ge1) x hx)
 have hM : MS ([g28] ++ ([g21] ++ (blkL ao19 ++ (blkL ao16 ++ ([g11] ++ ([g4] ++ (M))))))) w27 := (MS.app hN29.ms (hM.chg hN29.chg))
 have hC := hC.trans hN29.chg (Ok.nil _ _)
 have f31 : Own (rInt .u8) 5 w27 ([g28] ++ ([g21] ++ (blkL ao19 ++ (blkL ao16 ++ ([g11] ++ ([g4] ++ (M))))))) (some ⟨g28, 0, none⟩) 4 ([(10 : Int), (0 : Int), (0 : Int), (2 : Int)] : List Int) := hN29.own ⟨([.int .u8 (10 : Int)] : List Value), _, rfl, rfl, ⟨([.int .u8 (0 : Int)] : List Value), _, rfl, rfl, ⟨([.int .u8 (0 : Int)] : List Value), _, rfl, rfl, ⟨([.int .u8 (2 : Int)] : List Value), _, rfl, rfl, rfl⟩⟩⟩⟩ (Nat.le_of_ble_eq_true rfl)
 refine opk (v := .agg (cS_api_Tunnel (⟨false, (3 : Int), (0 : Int), (⟨(4 : Int), ([(10 : Int), (0 : Int), (0 : Int), (1 : Int), (0 : Int), (0 : Int), (0 : Int), (0 : Int), (0 : Int), (0 : Int), (0 : Int), (0 : Int), (0 : Int), (0 : Int), (0 : Int), (0 : Int)] : List Int)⟩ : S_api_Addr), ([(10 : Int), (0 : Int), (0 : Int), (2 : Int)] : List Int)⟩ : S_api_Tunnel) (some ⟨g28, 0, none⟩) 4).toArray) ha rfl rfl rfl rfl rfl (fun w => by kernel_rfl) fun a ha => ?_
 have hML : MS ([g21] ++ (blkL ao19 ++ (blkL ao16 ++ ([g11] ++ ([g4] ++ (M)))))) w27 := MS.rest hM (fun _ h => (List.mem_append.1 h).elim (fun h => mr (ml h)) (fun h => (List.mem_append.1 h).elim (fun h => mr (mr (ml h))) (fun h => (List.mem_append.1 h).elim (fun h => mr (mr (mr (ml h)))) (fun h => (List.mem_append.1 h).elim (fun h => mr (mr (mr (mr (ml h))))) (fun h => (List.mem_append.1 h).elim (fun h => mr (mr (mr (mr (mr (ml h)))))) (fun h => mr (mr (mr (mr (mr (mr (h))))))))))))
 have oL : Ok ([g21] ++ (blkL ao19 ++ (blkL ao16 ++ ([g11] ++ ([g4] ++ (M)))))) ([g28] ++ ([g21] ++ (blkL ao19 ++ (blkL ao16 ++ ([g11] ++ ([g4] ++ (M))))))) w27.heap.size := (fun _ h => .inl (mr (h)))
 obtain ⟨t32, H32, H⟩ := bind_some H
 refine cl ha (by rfl) (by kernel_rfl) (by rfl) (by rfl) (by rfl) (pmsi_Bytes.walk w27 _ hML (⟨false, (3 : Int), (0 : Int), (⟨(4 : Int), ([(10 : Int), (0 : Int), (0 : Int), (1 : Int), (0 : Int), (0 : Int), (0 : Int), (0 : Int), (0 : Int), (0 : Int), (0 : Int), (0 : Int), (0 : Int), (0 : Int), (0 : Int), (0 : Int)] : List Int)⟩ : S_api_Addr), ([(10 : Int), (0 : Int), (0 : Int), (2 : Int)] : List Int)⟩ : S_api_Tunnel) (some ⟨g28, 0, none⟩) 4 (Own.toRSl (M' := [g21] ++ (blkL ao19 ++ (blkL ao16 ++ ([g11] ++ ([g4] ++ (M)))))) f31 oL (fun x hx hm => (List.mem_append.1 hm).elim (fun h => p_i30_i23 x hx h) (fun h => (List.mem_append.1 h).elim (fun h => p_i30_i19 x hx h) (fun h => (List.mem_append.1 h).elim (fun h => p_i30_i16 x hx h) (fun h => (List.mem_append.1 h).elim (fun h => p_i30_i13 x hx h) (fun h => (List.mem_append.1 h).elim (fun h => p_i30_i6 x hx h) (fun h => p_i30_M x hx h))))))) k _ H32) ?_
 rintro _ w32 ⟨ao33, cap33, rfl, f33, ne_i33, hc32, hMn⟩ a ha
 have o1 : Ok [] ([g28] ++ ([g21] ++ (blkL ao19 ++ (blkL ao16 ++ ([g11] ++ ([g4] ++ (M))))))) w27.heap.size := Ok.nil _ _
 have o2 : Ok (blkL ao33 ++ ([g28] ++ ([g21] ++ (blkL ao19 ++ (blkL ao16 ++ ([g11] ++ ([g4] ++ (M)))))))) ([g28] ++ ([g21] ++ (blkL ao19 ++ (blkL ao16 ++ ([g11] ++ ([g4] ++ (M))))))) w27.heap.size := (Ok.app (fun x h => .inr (ne_i33 x h)) (Ok.refl _ _))
 have f16 := f16.chg hc32 o1 o2 (fun _ _ h => nomatch h) (fun _ h => mr (mr (mr (mr (ml h)))))
 have f31 := f31.chg hc32 o1 o2 (fun _ _ h => nomatch h) (fun _ h => mr (ml h))
 have f19 := f19.chg hc32 o1 o2 (fun _ _ h => nomatch h) (fun _ h => mr (mr (mr (ml h))))
 have hBg4 := hBg4.chg hc32 (fun h => nomatch h)
 have hBg21 := hBg21.chg hc32 (fun h => nomatch h)
 have p_i33_i30 : ∀ x ∈ blkL ao33, x ∉ ([g28]) := fun x hx hy => absurd (hM x (ml hy)) (Nat.not_lt.2 (ne_i33 x hx))
 have p_i33_i23 : ∀ x ∈ blkL ao33, x ∉ ([g21]) := fun x hx hy => absurd (hM x (mr (ml hy))) (Nat.not_lt.2 (ne_i33 x hx))
 have p_i33_i19 : ∀ x ∈ blkL ao33, x ∉ (blkL ao19) := fun x hx hy => absurd (hM x (mr (mr (ml hy)))) (Nat.not_lt.2 (ne_i33 x hx))
 have p_i33_i16 : ∀ x ∈ blkL ao33, x ∉ (blkL ao16) := fun x hx hy => absurd (hM x (mr (mr (mr (ml hy))))) (Nat.not_lt.2 (ne_i33 x hx))
 have p_i33_i13 : ∀ x ∈ blkL ao33, x ∉ ([g11]) := fun x hx hy => absurd (hM x (mr (mr (mr (mr (ml hy)))))) (Nat.not_lt.2 (ne_i33 x hx))
 have p_i33_i6 : ∀ x ∈ blkL ao33, x ∉ ([g4]) := fun x hx hy => absurd (hM x (mr (mr (mr (mr (mr (ml hy))))))) (Nat.not_lt.2 (ne_i33 x hx))
 have p_i33_M : ∀ x ∈ blkL ao33, x ∉ M := fun x hx hy => absurd (hM x (mr (mr (mr (mr (mr (mr (hy)))))))) (Nat.not_lt.2 (ne_i33 x hx))
 have e_i33 : ∀ x ∈ blkL ao33, w.heap.size ≤ x := fun x hx => Nat.le_trans hC.size (ne_i33 x hx)
 have hM : MS (blkL ao33 ++ ([g28] ++ ([g21] ++ (blkL ao19 ++ (blkL ao16 ++ ([g11] ++ ([g4] ++ (M)))))))) w32 := (MS.app (fun x h => hMn x (ml h)) (hM.chg hc32))
 have hC := hC.trans hc32 (Ok.nil _ _)
 have f33 := Own.re (M' := blkL ao33 ++ ([g28] ++ ([g21] ++ (blkL ao19 ++ (blkL ao16 ++ ([g11] ++ ([g4] ++ (M)))))))) (fun _ _ _ _ _ h => h) f33 (fun _ h => ml h)
 refine seg ha 5 [(1, .pointer (some ⟨g4, 0, none⟩)), (2, .slice ao16 t15.1.length cap16), (3, .int .i64 t15.2), (4, .pointer (some ⟨g21, 0, none⟩)), (5, .int .i64 t18.2), (7, .int .i64 t32.2)] (by kernel_rfl) fun a ha => ?_
 refine hK26 _ _ ?_; try clear hK26 K26
 refine wp_seq_k fun K34 hK34 => ?_
 refine wp_region_lit ?_
 obtain ⟨s35, H35, H⟩ := bind_some H
 have J35 : ∀ (a : Act) (w35 : World), Has a Tryd.f12.ntmps [(0, .bool s35)] → (Own (rInt .u8) 5 w35 ([g21] ++ (blkL ao19 ++ ([g4] ++ (M)))) ao19 cap19 t18.1.Id) → (Box w35 g4 (cS_api_Addr (⟨(4 : Int), ([(10 : Int), (0 : Int), (0 : Int), (1 : Int), (0 : Int), (0 : Int), (0 : Int), (0 : Int), (0 : Int), (0 : Int), (0 : Int), (0 : Int), (0 : Int), (0 : Int), (0 : Int), (0 : Int)] : List Int)⟩ : S_api_Addr))) → (Box w35 g21 (cS_api_Tunnel t18.1 ao19 cap19)) → (Chg [] w w35) → (MS ([g21] ++ (blkL ao19 ++ ([g4] ++ (M)))) w35) → K34 a w35 := by
  intro a w35 ha f19 hBg4 hBg21 hC hM
  refine hK34 _ _ ?_; try clear hK34 K34
  refine wp_ret ?_
  try simp only [Exit.then, Exit.inBlock]
  have hBg4 := hBg4.chg (Chg.refl [] _) (fun h => nomatch h)
  have hBg21 := hBg21.chg (Chg.refl [] _) (fun h => nomatch h)
  have hM : MS (M) w35 := (fun x h => hM.chg (Chg.refl [] _) x (mr (mr (mr (h)))))
  have hC := hC.trans (Chg.refl [] _) (Ok.nil _ _)
  obtain rfl := Option.some.inj H
  refine rt1 ha rfl rfl ?_
  exact ⟨rfl, hC, hM⟩
 have H := H35
 refine seg ha 3 [(31, .bool (t15.2 == (0 : Int))), (1, .pointer (some ⟨g4, 0, none⟩)), (2, .slice ao16 t15.1.length cap16), (4, .pointer (some ⟨g21, 0, none⟩)), (5, .int .i64 t18.2), (7, .int .i64 t32.2)] (by kernel_rfl) fun a ha => ?_
 rcases Bool.eq_false_or_eq_true (t15.2 == (0 : Int)) with hb36 | hb36
 ·have ha := ha.lit hb36
  have H := ite_t hb36 H
  refine sgh ha 1 [2] [(1, .pointer (some ⟨g4, 0, none⟩)), (4, .pointer (some ⟨g21, 0, none⟩)), (5, .int .i64 t18.2), (7, .int .i64 t32.2), (31, .bool true), (32, .slice ao16 t15.1.length cap16)] (by kernel_rfl) fun a ha => ?_
  refine cvs ha rfl (by kernel_rfl) (by kernel_rfl) (by kernel_rfl) rfl rfl rfl (Own.toRSl (M' := []) f16 (Ok.nil _ _) (fun _ _ h => nomatch h)) fun a ha => ?_
  refine sgh ha 3 [2, 3, 0] [(36, .bool ((bstr (b2s t15.1)).toList == (bstr ([1, 2, 0, 0, 0, 6, 0, 1, 4, 10, 0, 0, 1, 0, 2, 1, 2] : List UInt8)).toList)), (1, .pointer (some ⟨g4, 0, none⟩)), (4, .pointer (some ⟨g21, 0, none⟩)), (5, .int .i64 t18.2), (7, .int .i64 t32.2)] (by kernel_rfl) fun a ha => ?_
  rcases Bool.eq_false_or_eq_true ((bstr (b2s t15.1)).toList == (bstr ([1, 2, 0, 0, 0, 6, 0, 1, 4, 10, 0, 0, 1, 0, 2, 1, 2] : List UInt8)).toList) with hb37 | hb37
  ·have ha := ha.lit hb37
   have H := ite_t hb37 H
   refine sgh ha 4 [2, 2, 3, 0] [(40, .bool (t18.2 == (0 : Int))), (1, .pointer (some ⟨g4, 0, none⟩)), (4, .pointer (some ⟨g21, 0, none⟩)), (7, .int .i64 t32.2)] (by kernel_rfl) fun a ha => ?_
   rcases Bool.eq_false_or_eq_true (t18.2 == (0 : Int)) with hb38 | hb38
   ·have ha := ha.lit hb38
    have H := ite_t hb38 H
    refine sgh ha 1 [2] [(1, .pointer (some ⟨g4, 0, none⟩)), (4, .pointer (some ⟨g21, 0, none⟩)), (7, .int .i64 t32.2), (40, .bool true), (41, .pointer (some ⟨g21, 0, none⟩))] (by kernel_rfl) fun a ha => ?_
    refine ld (v := .bool t18.1.Leaf) ha rfl (by kernel_rfl) rfl rfl rfl (hBg21.cell' (o := 0) rfl (by kernel_rfl)) fun a ha => ?_
    refine sgh ha 2 [3, 0] [(44, .bool t18.1.Leaf), (1, .pointer (some ⟨g4, 0, none⟩)), (4, .pointer (some ⟨g21, 0, none⟩)), (7, .int .i64 t32.2)] (by kernel_rfl) fun a ha => ?_
    rcases Bool.eq_false_or_eq_true (t18.1.Leaf) with hb39 | hb39
    ·have ha := ha.lit hb39
     have H := ite_t hb39 H
     refine sgh ha 1 [2] [(1, .pointer (some ⟨g4, 0, none⟩)), (4, .pointer (some ⟨g21, 0, none⟩)), (7, .int .i64 t32.2), (44, .bool true), (45, .pointer (some ⟨g21, 3, none⟩))] (by kernel_rfl) fun a ha => ?_
     refine ldA (cs := (cS_api_Addr t18.1.Root)) ha rfl (by kernel_rfl) rfl rfl rfl (cells_sub (Box.cells hBg21) (all := (cS_api_Tunnel t18.1 ao19 cap19)) [.bool t18.1.Leaf, .int .i64 t18.1.Kind, .int .i64 t18.1.Label] [.slice ao19 t18.1.Id.length cap19] (by kernel_rfl)) fun a ha => ?_
     refine ldA (cs := (cS_api_Addr (⟨(4 : Int), ([(10 : Int), (0 : Int), (0 : Int), (1 : Int), (0 : Int), (0 : Int), (0 : Int), (0 : Int), (0 : Int), (0 : Int), (0 : Int), (0 : Int), (0 : Int), (0 : Int), (0 : Int), (0 : Int)] : List Int)⟩ : S_api_Addr))) ha rfl (by kernel_rfl) rfl rfl rfl (cells_sub (Box.cells hBg4) (all := (cS_api_Addr (⟨(4 : Int), ([(10 : Int), (0 : Int), (0 : Int), (1 : Int), (0 : Int), (0 : Int), (0 : Int), (0 : Int), (0 : Int), (0 : Int), (0 : Int), (0 : Int), (0 : Int), (0 : Int), (0 : Int), (0 : Int)] : List Int)⟩ : S_api_Addr))) [] [] (by kernel_rfl)) fun a ha => ?_
     refine hop (v := .bool ((t18.1.Root.Size == (4 : Int)) && ((eqA 16 t18.1.Root.B ([(10 : Int), (0 : Int), (0 : Int), (1 : Int), (0 : Int), (0 : Int), (0 : Int), (0 : Int), (0 : Int), (0 : Int), (0 : Int), (0 : Int), (0 : Int), (0 : Int), (0 : Int), (0 : Int)] : List Int)) && true))) (w' := w32) ha rfl rfl rfl (eqs_run (r := ((t18.1.Root.Size == (4 : Int)) && ((eqA 16 t18.1.Root.B ([(10 : Int), (0 : Int), (0 : Int), (1 : Int), (0 : Int), (0 : Int), (0 : Int), (0 : Int), (0 : Int), (0 : Int), (0 : Int), (0 : Int), (0 : Int), (0 : Int), (0 : Int), (0 : Int)] : List Int)) && true))) (m := 9) ha rfl rfl (by kernel_rfl) rfl (by kernel_rfl) _) fun a ha => ?_
     refine sgh ha 2 [3, 0] [(50, .bool ((t18.1.Root.Size == (4 : Int)) && ((eqA 16 t18.1.Root.B ([(10 : Int), (0 : Int), (0 : Int), (1 : Int), (0 : Int), (0 : Int), (0 : Int), (0 : Int), (0 : Int), (0 : Int), (0 : Int), (0 : Int), (0 : Int), (0 : Int), (0 : Int), (0 : Int)] : List Int)) && true))), (1, .pointer (some ⟨g4, 0, none⟩)), (4, .pointer (some ⟨g21, 0, none⟩)), (7, .int .i64 t32.2)] (by kernel_rfl) fun a ha => ?_
     rcases Bool.eq_false_or_eq_true (((t18.1.Root.Size == (4 : Int)) && ((eqA 16 t18.1.Root.B ([(10 : Int), (0 : Int), (0 : Int), (1 : Int), (0 : Int), (0 : Int), (0 : Int), (0 : Int), (0 : Int), (0 : Int), (0 : Int), (0 : Int), (0 : Int), (0 : Int), (0 : Int), (0 : Int)] : List Int)) && true))) with hb40 | hb40
     ·have ha := ha.lit hb40
      have H := ite_t hb40 H
      refine ldA (cs := (cS_api_Tunnel t18.1 ao19 cap19)) ha rfl (by kernel_rfl) rfl rfl rfl (cells_sub (Box.cells hBg21) (all := (cS_api_Tunnel t18.1 ao19 cap19)) [] [] (by kernel_rfl)) fun a ha => ?_
      refine ldA (cs := (cS_api_Addr (⟨(4 : Int), ([(10 : Int), (0 : Int), (0 : Int), (1 : Int), (0 : Int), (0 : Int), (0 : Int), (0 : Int), (0 : Int), (0 : Int), (0 : Int), (0 : Int), (0 : Int), (0 : Int), (0 : Int), (0 : Int)] : List Int)⟩ : S_api_Addr))) ha rfl (by kernel_rfl) rfl rfl rfl (cells_sub (Box.cells hBg4) (all := (cS_api_Addr (⟨(4 : Int), ([(10 : Int), (0 : Int), (0 : Int), (1 : Int), (0 : Int), (0 : Int), (0 : Int), (0 : Int), (0 : Int), (0 : Int), (0 : Int), (0 : Int), (0 : Int), (0 : Int), (0 : Int), (0 : Int)] : List Int)⟩ : S_api_Addr))) [] [] (by kernel_rfl)) fun a ha => ?_
      refine bsl (vals := ([.int .u8 (1 : Int), .int .u8 (2 : Int)] : List Value)) (T := 5) ha rfl (([.int .u8 (1 : Int)] : List Value) ++ (([.int .u8 (2 : Int)] : List Value) ++ ([] : List Value))) (fun w => by kernel_rfl) rfl rfl rfl fun a w41 g42 hN43 ha => ?_
      have o1 : Ok [] (blkL ao33 ++ ([g28] ++ ([g21] ++ (blkL ao19 ++ (blkL ao16 ++ ([g11] ++ ([g4] ++ (M)))))))) w32.heap.size := Ok.nil _ _
      have o2 : Ok ([g42] ++ (blkL ao33 ++ ([g28] ++ ([g21] ++ (blkL ao19 ++ (blkL ao16 ++ ([g11] ++ ([g4] ++ (M))))))))) (blkL ao33 ++ ([g28] ++ ([g21] ++ (blkL ao19 ++ (blkL ao16 ++ ([g11] ++ ([g4] ++ (M)))))))) w32.heap.size := (Ok.app (hN43.ok _) (Ok.refl _ _))
      have f19 := f19.chg hN43.chg o1 o2 (fun _ _ h => nomatch h) (fun _ h => mr (mr (mr (mr (ml h)))))
      have hBg4 := hBg4.chg hN43.chg (fun h => nomatch h)
      have hBg21 := hBg21.chg hN43.chg (fun h => nomatch h)
      have p_i44_i33 : ∀ x ∈ [g42], x ∉ (blkL ao33) := fun x hx hy => absurd (hM x (ml hy)) (Nat.not_lt.2 ((hN43.ge1) x hx))
      have p_i44_i30 : ∀ x ∈ [g42], x ∉ ([g28]) := fun x hx hy => absurd (hM x (mr (ml hy))) (Nat.not_lt.2 ((hN43.ge1) x hx))
      have p_i44_i23 : ∀ x ∈ [g42], x ∉ ([g21]) := fun x hx hy => absurd (hM x (mr (mr (ml hy)))) (Nat.not_lt.2 ((hN43.ge1) x hx))
      have p_i44_i19 : ∀ x ∈ [g42], x ∉ (blkL ao19) := fun x hx hy => absurd (hM x (mr (mr (mr (ml hy))))) (Nat.not_lt.2 ((hN43.ge1) x hx))
      have p_i44_i16 : ∀ x ∈ [g42], x ∉ (blkL ao16) := fun x hx hy => absurd (hM x (mr (mr (mr (mr (ml hy)))))) (Nat.not_lt.2 ((hN43.ge1) x hx))
      have p_i44_i13 : ∀ x ∈ [g42], x ∉ ([g11]) := fun x hx hy => absurd (hM x (mr (mr (mr (mr (mr (ml hy))))))) (Nat.not_lt.2 ((hN43.ge1) x hx))
      have p_i44_i6 : ∀ x ∈ [g42], x ∉ ([g4]) := fun x hx hy => absurd (hM x (mr (mr (mr (mr (mr (mr (ml hy)))))))) (Nat.not_lt.2 ((hN43.ge1) x hx))
      have p_i44_M : ∀ x ∈ [g42], x ∉ M := fun x hx hy => absurd (hM x (mr (mr (mr (mr (mr (mr (mr (hy))))))))) (Nat.not_lt.2 ((hN43.ge1) x hx))
      have e_i44 : ∀ x ∈ [g42], w.heap.size ≤ x := fun x hx => Nat.le_trans hC.size ((hN43.ge1) x hx)
      have hM : MS ([g42] ++ (blkL ao33 ++ ([g28] ++ ([g21] ++ (blkL ao19 ++ (blkL ao16 ++ ([g11] ++ ([g4] ++ (M))))))))) w41 := (MS.app hN43.ms (hM.chg hN43.chg))
      have hC := hC.trans hN43.chg (Ok.nil _ _)
      have f45 : Own (rInt .u8) 5 w41 ([g42] ++ (blkL ao33 ++ ([g28] ++ ([g21] ++ (blkL ao19 ++ (blkL ao16 ++ ([g11] ++ ([g4] ++ (M))))))))) (some ⟨g42, 0, none⟩) 2 ([(1 : Int), (2 : Int)] : List Int) := hN43.own ⟨([.int .u8 (1 : Int)] : List Value), _, rfl, rfl, ⟨([.int .u8 (2 : Int)] : List Value), _, rfl, rfl, rfl⟩⟩ (Nat.le_of_ble_eq_true rfl)
      refine opk (v := .agg (cS_api_Tunnel (⟨false, (2 : Int), (0 : Int), (⟨(4 : Int), ([(10 : Int), (0 : Int), (0 : Int), (1 : Int), (0 : Int), (0 : Int), (0 : Int), (0 : Int), (0 : Int), (0 : Int), (0 : Int), (0 : Int), (0 : Int), (0 : Int), (0 : Int), (0 : Int)] : List Int)⟩ : S_api_Addr), ([(1 : Int), (2 : Int)] : List Int)⟩ : S_api_Tunnel) (some ⟨g42, 0, none⟩) 2).toArray) ha rfl rfl rfl rfl rfl (fun w => by kernel_rfl) fun a ha => ?_
      have hML : MS (blkL ao33 ++ ([g28] ++ ([g21] ++ (blkL ao16 ++ ([g11] ++ ([g4] ++ (M))))))) w41 := MS.rest hM (fun _ h => (List.mem_append.1 h).elim (fun h => mr (ml h)) (fun h => (List.mem_append.1 h).elim (fun h => mr (mr (ml h))) (fun h => (List.mem_append.1 h).elim (fun h => mr (mr (mr (ml h)))) (fun h => (List.mem_append.1 h).elim (fun h => mr (mr (mr (mr (mr (ml h)))))) (fun h => (List.mem_append.1 h).elim (fun h => mr (mr (mr (mr (mr (mr (ml h))))))) (fun h => (List.mem_append.1 h).elim (fun h => mr (mr (mr (mr (mr (mr (mr (ml h)))))))) (fun h => mr (mr (mr (mr (mr (mr (mr (mr (h)))))))))))))))
      have oL : Ok (blkL ao33 ++ ([g28] ++ ([g21] ++ (blkL ao16 ++ ([g11] ++ ([g4] ++ (M))))))) ([g42] ++ (blkL ao33 ++ ([g28] ++ ([g21] ++ (blkL ao19 ++ (blkL ao16 ++ ([g11] ++ ([g4] ++ (M))))))))) w41.heap.size := (Ok.app (fun _ h => .inl (mr (ml h))) (Ok.app (fun _ h => .inl (mr (mr (ml h)))) (Ok.app (fun _ h => .inl (mr (mr (mr (ml h))))) (fun _ h => .inl (mr (mr (mr (mr (mr (h))))))))))
      obtain ⟨t46, H46, H⟩ := bind_some H
      refine cl ha (by rfl) (by kernel_rfl) (by rfl) (by rfl) (by rfl) (pmsi_Same.walk w41 _ hML t18.1 ao19 cap19 (Own.toRSl (M' := blkL ao33 ++ ([g28] ++ ([g21] ++ (blkL ao16 ++ ([g11] ++ ([g4] ++ (M))))))) f19 oL (fun x hx hm => (List.mem_append.1 hm).elim (fun h => (fun x hx hy => p_i33_i19 x hy hx) x hx h) (fun h => (List.mem_append.1 h).elim (fun h => (fun x hx hy => p_i30_i19 x hy hx) x hx h) (fun h => (List.mem_append.1 h).elim (fun h => (fun x hx hy => p_i23_i19 x hy hx) x hx h) (fun h => (List.mem_append.1 h).elim (fun h => p_i19_i16 x hx h) (fun h => (List.mem_append.1 h).elim (fun h => p_i19_i13 x hx h) (fun h => (List.mem_append.1 h).elim (fun h => p_i19_i6 x hx h) (fun h => p_i19_M x hx h)))))))) (⟨false, (2 : Int), (0 : Int), (⟨(4 : Int), ([(10 : Int), (0 : Int), (0 : Int), (1 : Int), (0 : Int), (0 : Int), (0 : Int), (0 : Int), (0 : Int), (0 : Int), (0 : Int), (0 : Int), (0 : Int), (0 : Int), (0 : Int), (0 : Int)] : List Int)⟩ : S_api_Addr), ([(1 : Int), (2 : Int)] : List Int)⟩ : S_api_Tunnel) (some ⟨g42, 0, none⟩) 2 (Own.toRSl (M' := blkL ao33 ++ ([g28] ++ ([g21] ++ (blkL ao16 ++ ([g11] ++ ([g4] ++ (M))))))) f45 oL (fun x hx hm => (List.mem_append.1 hm).elim (fun h => p_i44_i33 x hx h) (fun h => (List.mem_append.1 h).elim (fun h => p_i44_i30 x hx h) (fun h => (List.mem_append.1 h).elim (fun h => p_i44_i23 x hx h) (fun h => (List.mem_append.1 h).elim (fun h => p_i44_i16 x hx h) (fun h => (List.mem_append.1 h).elim (fun h => p_i44_i13 x hx h) (fun h => (List.mem_append.1 h).elim (fun h => p_i44_i6 x hx h) (fun h => p_i44_M x hx h)))))))) _ H46) ?_
      rintro _ w46 ⟨rfl, hc46, hMn⟩ a ha
      have o1 : Ok [] ([g42] ++ (blkL ao33 ++ ([g28] ++ ([g21] ++ (blkL ao19 ++ (blkL ao16 ++ ([g11] ++ ([g4] ++ (M))))))))) w41.heap.size := Ok.nil _ _
      have o2 : Ok ([g42] ++ (blkL ao33 ++ ([g28] ++ ([g21] ++ (blkL ao19 ++ (blkL ao16 ++ ([g11] ++ ([g4] ++ (M))))))))) ([g42] ++ (blkL ao33 ++ ([g28] ++ ([g21] ++ (blkL ao19 ++ (blkL ao16 ++ ([g11] ++ ([g4] ++ (M))))))))) w41.heap.size := (Ok.refl _ _)
      have f19 := f19.chg hc46 o1 o2 (fun _ _ h => nomatch h) (fun _ h => mr (mr (mr (mr (ml h)))))
      have f45 := f45.chg hc46 o1 o2 (fun _ _ h => nomatch h) (fun _ h => ml h)
      have hBg4 := hBg4.chg hc46 (fun h => nomatch h)
      have hBg21 := hBg21.chg hc46 (fun h => nomatch h)
      have hM : MS ([g42] ++ (blkL ao33 ++ ([g28] ++ ([g21] ++ (blkL ao19 ++ (blkL ao16 ++ ([g11] ++ ([g4] ++ (M))))))))) w46 := (hM.chg hc46)
      have hC := hC.trans hc46 (Ok.nil _ _)
      refine sgh ha 2 [3, 0] [(57, .bool t46), (7, .int .i64 t32.2)] (by kernel_rfl) fun a ha => ?_
      rcases Bool.eq_false_or_eq_true (t46) with hb47 | hb47
      ·have ha := ha.lit hb47
       have H := ite_t hb47 H
       refine sgh ha 4 [2, 2, 3, 0] [(0, .bool (t32.2 == (1 : Int)))] (by kernel_rfl) fun a ha => ?_
       obtain rfl := Option.some.inj H
       have o1 : Ok [] ([g42] ++ (blkL ao33 ++ ([g28] ++ ([g21] ++ (blkL ao19 ++ (blkL ao16 ++ ([g11] ++ ([g4] ++ (M))))))))) w46.heap.size := Ok.nil _ _
       have o2 : Ok ([g21] ++ (blkL ao19 ++ ([g4] ++ (M)))) ([g42] ++ (blkL ao33 ++ ([g28] ++ ([g21] ++ (blkL ao19 ++ (blkL ao16 ++ ([g11] ++ ([g4] ++ (M))))))))) w46.heap.size := (Ok.app (fun _ h => .inl (mr (mr (mr (ml h))))) (Ok.app (fun _ h => .inl (mr (mr (mr (mr (ml h)))))) (fun _ h => .inl (mr (mr (mr (mr (mr (mr (mr (h)))))))))))
       have f19 := f19.chg (Chg.refl [] _) o1 o2 (fun _ _ h => nomatch h) (fun _ h => mr (ml h))
       have hBg4 := hBg4.chg (Chg.refl [] _) (fun h => nomatch h)
       have hBg21 := hBg21.chg (Chg.refl [] _) (fun h => nomatch h)
       have hM : MS ([g21] ++ (blkL ao19 ++ ([g4] ++ (M)))) w46 := (MS.app (fun x h => hM.chg (Chg.refl [] _) x (mr (mr (mr (ml h))))) (MS.app (fun x h => hM.chg (Chg.refl [] _) x (mr (mr (mr (mr (ml h)))))) (fun x h => hM.chg (Chg.refl [] _) x (mr (mr (mr (mr (mr (mr (mr (h)))))))))))
       have hC := hC.trans (Chg.refl [] _) (Ok.nil _ _)
       exact J35 _ _ (ha.sel (by kernel_rfl)) f19 hBg4 hBg21 hC hM
      ·have ha := ha.lit hb47
       have H := ite_f hb47 H
       refine sgh ha 4 [1, 1, 4, 0] [(0, .bool false)] (by kernel_rfl) fun a ha => ?_
       obtain rfl := Option.some.inj H
       have o1 : Ok [] ([g42] ++ (blkL ao33 ++ ([g28] ++ ([g21] ++ (blkL ao19 ++ (blkL ao16 ++ ([g11] ++ ([g4] ++ (M))))))))) w46.heap.size := Ok.nil _ _
       have o2 : Ok ([g21] ++ (blkL ao19 ++ ([g4] ++ (M)))) ([g42] ++ (blkL ao33 ++ ([g28] ++ ([g21] ++ (blkL ao19 ++ (blkL ao16 ++ ([g11] ++ ([g4] ++ (M))))))))) w46.heap.size := (Ok.app (fun _ h => .inl (mr (mr (mr (ml h))))) (Ok.app (fun _ h => .inl (mr (mr (mr (mr (ml h)))))) (fun _ h => .inl (mr (mr (mr (mr (mr (mr (mr (h)))))))))))
       have f19 := f19.chg (Chg.refl [] _) o1 o2 (fun _ _ h => nomatch h) (fun _ h => mr (ml h))
       have hBg4 := hBg4.chg (Chg.refl [] _) (fun h => nomatch h)
       have hBg21 := hBg21.chg (Chg.refl [] _) (fun h => nomatch h)
       have hM : MS ([g21] ++ (blkL ao19 ++ ([g4] ++ (M)))) w46 := (MS.app (fun x h => hM.chg (Chg.refl [] _) x (mr (mr (mr (ml h))))) (MS.app (fun x h => hM.chg (Chg.refl [] _) x (mr (mr (mr (mr (ml h)))))) (fun x h => hM.chg (Chg.refl [] _) x (mr (mr (mr (mr (mr (mr (mr (h)))))))))))
       have hC := hC.trans (Chg.refl [] _) (Ok.nil _ _)
       exact J35 _ _ (ha.sel (by kernel_rfl)) f19 hBg4 hBg21 hC hM
     ·have ha := ha.lit hb40
      have H := ite_f hb40 H
      refine sgh ha 11 [1, 1, 1, 1, 1, 4, 0, 1, 1, 4, 0] [(0, .bool false)] (by kernel_rfl) fun a ha => ?_
      obtain rfl := Option.some.inj H
      have o1 : Ok [] (blkL ao33 ++ ([g28] ++ ([g21] ++ (blkL ao19 ++ (blkL ao16 ++ ([g11] ++ ([g4] ++ (M)))))))) w32.heap.size := Ok.nil _ _
      have o2 : Ok ([g21] ++ (blkL ao19 ++ ([g4] ++ (M)))) (blkL ao33 ++ ([g28] ++ ([g21] ++ (blkL ao19 ++ (blkL ao16 ++ ([g11] ++ ([g4] ++ (M)))))))) w32.heap.size := (Ok.app (fun _ h => .inl (mr (mr (ml h)))) (Ok.app (fun _ h => .inl (mr (mr (mr (ml h))))) (fun _ h => .inl (mr (mr (mr (mr (mr (mr (h))))))))))
      have f19 := f19.chg (Chg.refl [] _) o1 o2 (fun _ _ h => nomatch h) (fun _ h => mr (ml h))
      have hBg4 := hBg4.chg (Chg.refl [] _) (fun h => nomatch h)
      have hBg21 := hBg21.chg (Chg.refl [] _) (fun h => nomatch h)
      have hM : MS ([g21] ++ (blkL ao19 ++ ([g4] ++ (M)))) w32 := (MS.app (fun x h => hM.chg (Chg.refl [] _) x (mr (mr (ml h)))) (MS.app (fun x h => hM.chg (Chg.refl [] _) x (mr (mr (mr (ml h))))) (fun x h => hM.chg (Chg.refl [] _) x (mr (mr (mr (mr (mr (mr (h))))))))))
      have hC := hC.trans (Chg.refl [] _) (Ok.nil _ _)
      exact J35 _ _ (ha.sel (by kernel_rfl)) f19 hBg4 hBg21 hC hM
    ·have ha := ha.lit hb39
     have H := ite_f hb39 H
     refine sgh ha 17 [1, 1, 1, 1, 4, 0, 1, 1, 1, 1, 1, 4, 0, 1, 1, 4, 0] [(0, .bool false)] (by kernel_rfl) fun a ha => ?_
     obtain rfl := Option.some.inj H
     have o1 : Ok [] (blkL ao33 ++ ([g28] ++ ([g21] ++ (blkL ao19 ++ (blkL ao16 ++ ([g11] ++ ([g4] ++ (M)))))))) w32.heap.size := Ok.nil _ _
     have o2 : Ok ([g21] ++ (blkL ao19 ++ ([g4] ++ (M)))) (blkL ao33 ++ ([g28] ++ ([g21] ++ (blkL ao19 ++ (blkL ao16 ++ ([g11] ++ ([g4] ++ (M)))))))) w32.heap.size := (Ok.app (fun _ h => .inl (mr (mr (ml h)))) (Ok.app (fun _ h => .inl (mr (mr (mr (ml h))))) (fun _ h => .inl (mr (mr (mr (mr (mr (mr (h))))))))))
     have f19 := f19.chg (Chg.refl [] _) o1 o2 (fun _ _ h => nomatch h) (fun _ h => mr (ml h))
     have hBg4 := hBg4.chg (Chg.refl [] _) (fun h => nomatch h)
     have hBg21 := hBg21.chg (Chg.refl [] _) (fun h => nomatch h)
     have hM : MS ([g21] ++ (blkL ao19 ++ ([g4] ++ (M)))) w32 := (MS.app (fun x h => hM.chg (Chg.refl [] _) x (mr (mr (ml h)))) (MS.app (fun x h => hM.chg (Chg.refl [] _) x (mr (mr (mr (ml h))))) (fun x h => hM.chg (Chg.refl [] _) x (mr (mr (mr (mr (mr (mr (h))))))))))
     have hC := hC.trans (Chg.refl [] _) (Ok.nil _ _)
     exact J35 _ _ (ha.sel (by kernel_rfl)) f19 hBg4 hBg21 hC hM
   ·have ha := ha.lit hb38
    have H := ite_f hb38 H
    refine sgh ha 21 [1, 1, 4, 0, 1, 1, 1, 1, 4, 0, 1, 1, 1, 1, 1, 4, 0, 1, 1, 4, 0] [(0, .bool false)] (by kernel_rfl) fun a ha => ?_
    obtain rfl := Option.some.inj H
    have o1 : Ok [] (blkL ao33 ++ ([g28] ++ ([g21] ++ (blkL ao19 ++ (blkL ao16 ++ ([g11] ++ ([g4] ++ (M)))))))) w32.heap.size := Ok.nil _ _
    have o2 : Ok ([g21] ++ (blkL ao19 ++ ([g4] ++ (M)))) (blkL ao33 ++ ([g28] ++ ([g21] ++ (blkL ao19 ++ (blkL ao16 ++ ([g11] ++ ([g4] ++ (M)))))))) w32.heap.size := (Ok.app (fun _ h => .inl (mr (mr (ml h)))) (Ok.app (fun _ h => .inl (mr (mr (mr (ml h))))) (fun _ h => .inl (mr (mr (mr (mr (mr (mr (h))))))))))
    have f19 := f19.chg (Chg.refl [] _) o1 o2 (fun _ _ h => nomatch h) (fun _ h => mr (ml h))
    have hBg4 := hBg4.chg (Chg.refl [] _) (fun h => nomatch h)
    have hBg21 := hBg21.chg (Chg.refl [] _) (fun h => nomatch h)
    have hM : MS ([g21] ++ (blkL ao19 ++ ([g4] ++ (M)))) w32 := (MS.app (fun x h => hM.chg (Chg.refl [] _) x (mr (mr (ml h)))) (MS.app (fun x h => hM.chg (Chg.refl [] _) x (mr (mr (mr (ml h))))) (fun x h => hM.chg (Chg.refl [] _) x (mr (mr (mr (mr (mr (mr (h))))))))))
    have hC := hC.trans (Chg.refl [] _) (Ok.nil _ _)
    exact J35 _ _ (ha.sel (by kernel_rfl)) f19 hBg4 hBg21 hC hM
  ·have ha := ha.lit hb37
   have H := ite_f hb37 H
   refine sgh ha 25 [1, 1, 4, 0, 1, 1, 4, 0, 1, 1, 1, 1, 4, 0, 1, 1, 1, 1, 1, 4, 0, 1, 1, 4, 0] [(0, .bool false)] (by kernel_rfl) fun a ha => ?_
   obtain rfl := Option.some.inj H
   have o1 : Ok [] (blkL ao33 ++ ([g28] ++ ([g21] ++ (blkL ao19 ++ (blkL ao16 ++ ([g11] ++ ([g4] ++ (M)))))))) w32.heap.size := Ok.nil _ _
   have o2 : Ok ([g21] ++ (blkL ao19 ++ ([g4] ++ (M)))) (blkL ao33 ++ ([g28] ++ ([g21] ++ (blkL ao19 ++ (blkL ao16 ++ ([g11] ++ ([g4] ++ (M)))))))) w32.heap.size := (Ok.app (fun _ h => .inl (mr (mr (ml h)))) (Ok.app (fun _ h => .inl (mr (mr (mr (ml h))))) (fun _ h => .inl (mr (mr (mr (mr (mr (mr (h))))))))))
   have f19 := f19.chg (Chg.refl [] _) o1 o2 (fun _ _ h => nomatch h) (fun _ h => mr (ml h))
   have hBg4 := hBg4.chg (Chg.refl [] _) (fun h => nomatch h)
   have hBg21 := hBg21.chg (Chg.refl [] _) (fun h => nomatch h)
   have hM : MS ([g21] ++ (blkL ao19 ++ ([g4] ++ (M)))) w32 := (MS.app (fun x h => hM.chg (Chg.refl [] _) x (mr (mr (ml h)))) (MS.app (fun x h => hM.chg (Chg.refl [] _) x (mr (mr (mr (ml h))))) (fun x h => hM.chg (Chg.refl [] _) x (mr (mr (mr (mr (mr (mr (h))))))))))
   have hC := hC.trans (Chg.refl [] _) (Ok.nil _ _)
   exact J35 _ _ (ha.sel (by kernel_rfl)) f19 hBg4 hBg21 hC hM
 ·have ha := ha.lit hb36
  have H := ite_f hb36 H
  refine sgh ha 30 [1, 1, 1, 4, 0, 1, 1, 4, 0, 1, 1, 4, 0, 1, 1, 1, 1, 4, 0, 1, 1, 1, 1, 1, 4, 0, 1, 1, 4, 0] [(0, .bool false)] (by kernel_rfl) fun a ha => ?_
  obtain rfl := Option.some.inj H
  have o1 : Ok [] (blkL ao33 ++ ([g28] ++ ([g21] ++ (blkL ao19 ++ (blkL ao16 ++ ([g11] ++ ([g4] ++ (M)))))))) w32.heap.size := Ok.nil _ _
  have o2 : Ok ([g21] ++ (blkL ao19 ++ ([g4] ++ (M)))) (blkL ao33 ++ ([g28] ++ ([g21] ++ (blkL ao19 ++ (blkL ao16 ++ ([g11] ++ ([g4] ++ (M)))))))) w32.heap.size := (Ok.app (fun _ h => .inl (mr (mr (ml h)))) (Ok.app (fun _ h => .inl (mr (mr (mr (ml h))))) (fun _ h => .inl (mr (mr (mr (mr (mr (mr (h))))))))))
  have f19 := f19.chg (Chg.refl [] _) o1 o2 (fun _ _ h => nomatch h) (fun _ h => mr (ml h))
  have hBg4 := hBg4.chg (Chg.refl [] _) (fun h => nomatch h)
  have hBg21 := hBg21.chg (Chg.refl [] _) (fun h => nomatch h)
  have hM : MS ([g21] ++ (blkL ao19 ++ ([g4] ++ (M)))) w32 := (MS.app (fun x h => hM.chg (Chg.refl [] _) x (mr (mr (ml h)))) (MS.app (fun x h => hM.chg (Chg.refl [] _) x (mr (mr (mr (ml h))))) (fun x h => hM.chg (Chg.refl [] _) x (mr (mr (mr (mr (mr (mr (h))))))))))
  have hC := hC.trans (Chg.refl [] _) (Ok.nil _ _)
  exact J35 _ _ (ha.sel (by kernel_rfl)) f19 hBg4 hBg21 hC hM

theorem Lent.go (w : World) (M : List Nat) (hM : MS M w) (a0 : List Int) (ao1 : Option Addr) (cap1 : Nat) (f1 : RSl (rInt .u8) 5 w M ao1 cap1 a0) (hb : a0.length ≤ 281474976710655) :
    To Tryd.prog 13 [.slice ao1 a0.length cap1] w fun v w' => ∃ (g : Nat), v = .slice (some ⟨g, 0, none⟩) a0.length (a0.length + 1) ∧ Box w' g (a0.map (.int .u8) ++ [.int .u8 77]) ∧ (w.heap.size ≤ g) ∧ Chg [] w w' ∧ MS ([g] ++ M) w' := by
  have hmax : maxLen = 9223372036854775807 := rfl
  refine ent Tryd.func13 rfl [(0, .slice ao1 a0.length cap1)] rfl rfl fun a ha => ?_
  refine wp_seq_k fun K hK => ?_
  refine wp_region_lit ?_
  refine seg ha 1 [(0, .slice ao1 a0.length cap1)] (by kernel_rfl) fun a ha => ?_
  refine hK _ _ ?_; clear hK K
  refine wp_seq_k fun K hK => ?_
  refine wp_region_lit ?_
  refine seg ha 5 [(0, .slice ao1 a0.length cap1), (5, .int .i64 a0.length), (8, .int .i64 (IntKind.i64.wrap ((a0.length : Int) + 1)))] (by kernel_rfl) fun a ha => ?_
  have e8 : IntKind.i64.wrap ((a0.length : Int) + 1) = ((a0.length + 1 : Nat) : Int) := by rw [IntKind.wrap_i64]; omega
  rw [e8] at ha
  refine mks (e := 5) (z := .int .u8 0) (nb := 1) ha (by kernel_rfl) (by kernel_rfl) (by kernel_rfl) rfl rfl rfl (Nat.le_succ _) (by omega) (by omega) rfl rfl rfl fun a w1 g hN ha => ?_
  refine seg ha 1 [(0, .slice ao1 a0.length cap1), (3, .slice (some ⟨g, 0, none⟩) a0.length (a0.length + 1))] (by kernel_rfl) fun a ha => ?_
  refine hK _ _ ?_; clear hK K
  have h1 : RSl (rInt .u8) 5 w1 ([g] ++ M) ao1 cap1 a0 := f1.chg hN.chg (Ok.nil _ _) (Ok.app (hN.ok _) (Ok.refl _ _))
  refine wp_seq_k fun K hK => ?_
  refine wp_region_lit ?_
  refine seg ha 2 [(0, .slice ao1 a0.length cap1), (3, .slice (some ⟨g, 0, none⟩) a0.length (a0.length + 1)), (10, .slice (some ⟨g, 0, none⟩) a0.length (a0.length + 1)), (11, .slice ao1 a0.length cap1)] (by kernel_rfl) fun a ha => ?_
  refine cpy ha (by kernel_rfl) (by kernel_rfl) rfl rfl rfl rfl rfl hN.box h1 (Nat.le_refl _) (by simp) fun a w2 hB hc2 ha => ?_
  refine wpl_end ?_
  have ha := ha.sel (env' := [(0, .slice ao1 a0.length cap1), (3, .slice (some ⟨g, 0, none⟩) a0.length (a0.length + 1))]) (by kernel_rfl)
  refine hK _ _ ?_; clear hK K
  refine wp_seq_k fun K hK => ?_
  refine wp_region_lit ?_
  refine seg ha 4 [(0, .slice ao1 a0.length cap1), (3, .slice (some ⟨g, 0, none⟩) a0.length (a0.length + 1)), (13, .slice (some ⟨g, 0, none⟩) a0.length (a0.length + 1)), (16, .int .i64 (IntKind.i64.wrap ((a0.length : Int) + 1)))] (by kernel_rfl) fun a ha => ?_
  rw [e8] at ha
  refine slx (T := 5) (s := 1) ha (by kernel_rfl) (by kernel_rfl) rfl rfl (Nat.le_refl _) rfl rfl rfl fun a ha => ?_
  refine seg ha 2 [(3, .slice (some ⟨g, 0, none⟩) a0.length (a0.length + 1)), (17, .slice (some ⟨g, 0, none⟩) (a0.length + 1) (a0.length + 1)), (19, .int .i64 a0.length)] (by kernel_rfl) fun a ha => ?_
  have hl : (List.replicate (a0.length + 1) (0 : Int)).length = a0.length + 1 := by simp
  refine hop (v := .pointer (some ⟨g, 0 + Int.toNat (a0.length : Int) * (rInt .u8).sz, none⟩)) (w' := w2) ha rfl rfl rfl (ix_run (r := rInt .u8) (T := 5) (xs := List.replicate (a0.length + 1) (0 : Int)) (k := .i64) (i := (a0.length : Int)) ha (by kernel_rfl) (by kernel_rfl) (by rw [hl]; rfl) rfl rfl (by omega) (by rw [hl]; omega)) fun a ha => ?_
  refine st (cs := a0.map (.int .u8) ++ (List.replicate (a0.length + 1) (Value.int .u8 0)).drop a0.length) (g := g) (o' := a0.length) ha rfl rfl (by simp [rInt]) (by kernel_rfl) rfl rfl hB (by simp) fun a w3 ha hB3 hc3 _ => ?_
  refine wpl_end ?_
  have ha := ha.sel (env' := [(3, .slice (some ⟨g, 0, none⟩) a0.length (a0.length + 1))]) (by kernel_rfl)
  refine hK _ _ ?_; clear hK K
  refine wp_seq_k fun K hK => ?_
  refine wp_region_lit ?_
  refine seg ha 2 [(2, .slice (some ⟨g, 0, none⟩) a0.length (a0.length + 1))] (by kernel_rfl) fun a ha => ?_
  refine hK _ _ ?_; clear hK K
  refine wp_ret ?_
  refine rt1 ha rfl rfl ⟨g, rfl, ?_, hN.ge, ?_, ?_⟩
  · have e : (a0.map (Value.int .u8) ++ (List.replicate (a0.length + 1) (Value.int .u8 0)).drop a0.length).set a0.length (.int .u8 77) = a0.map (Value.int .u8) ++ [Value.int .u8 77] := by
      have : (List.replicate (a0.length + 1) (Value.int .u8 0)).drop a0.length = [Value.int .u8 0] := by simp [List.drop_replicate]
      rw [this, List.set_append_right _ _ (by simp)]
      simp
    rw [e] at hB3
    exact hB3
  · exact (hN.chg.trans hc2 (Ok.one (.inr hN.ge))).trans hc3 (Ok.one (.inr hN.ge))
  · exact MS.app (fun x hx => by simp at hx; subst hx; exact hB3.lt) (((hM.chg hN.chg).chg hc2).chg hc3)
def Lent.f (a0 : List Int) : Option (List Int) := if a0.length ≤ 281474976710655 then some a0 else none
theorem Lent.walk (w : World) (M : List Nat) (hM : MS M w) (a0 : List Int) (ao1 : Option Addr) (cap1 : Nat) (f1 : RSl (rInt .u8) 5 w M ao1 cap1 a0) (r : List Int) (H : Lent.f a0 = some r) :
    To Tryd.prog 13 [.slice ao1 a0.length cap1] w fun v w' => ∃ (ao2 : Option Addr) (cap2 : Nat), v = .slice ao2 r.length cap2 ∧ (Len w' (blkL ao2 ++ M) ao2 cap2 r) ∧ (∀ x ∈ blkL ao2, w.heap.size ≤ x) ∧ Chg [] w w' ∧ MS (blkL ao2 ++ M) w' := by
  unfold Lent.f at H
  obtain ⟨hb, H⟩ := ite_some H
  obtain rfl := Option.some.inj H
  refine (Lent.go w M hM a0 ao1 cap1 f1 hb).mono ?_
  rintro v w' ⟨g, rfl, hB, hge, hc, hm⟩
  exact ⟨some ⟨g, 0, none⟩, a0.length + 1, rfl, ⟨g, rfl, List.mem_append_left _ (List.mem_singleton.2 rfl), rfl, hb, hB⟩, fun x hx => by simp [blkL] at hx; subst hx; exact hge, hc, hm⟩


theorem Kept.go (w : World) (M : List Nat) (hM : MS M w) (a0 : List Int) (g : Nat) (hB : Box w g (a0.map (.int .u8) ++ [.int .u8 77])) (hl : a0.length ≤ 281474976710655) (a1 : List Int) (ao1 : Option Addr) (cap1 : Nat) (f1 : RSl (rInt .u8) 5 w M ao1 cap1 a1) :
    To Tryd.prog 16 [.slice (some ⟨g, 0, none⟩) a0.length (a0.length + 1), .slice ao1 a1.length cap1] w fun v w' => v = .bool ((bstr (b2s a0)).toList == (bstr (b2s a1)).toList) ∧ Chg [] w w' ∧ MS M w' := by
  have hmax : maxLen = 9223372036854775807 := rfl
  have f0 : RSl (rInt .u8) 5 w [] (some ⟨g, 0, none⟩) (a0.length + 1) a0 := Box.bytes hB (by simp) (by omega) (by omega)
  refine ent Tryd.func16 rfl [(0, .slice (some ⟨g, 0, none⟩) a0.length (a0.length + 1)), (1, .slice ao1 a1.length cap1)] rfl rfl fun a ha => ?_
  refine wp_seq_k fun K hK => ?_
  refine wp_region_lit ?_
  refine seg ha 1 [(0, .slice (some ⟨g, 0, none⟩) a0.length (a0.length + 1)), (1, .slice ao1 a1.length cap1)] (by kernel_rfl) fun a ha => ?_
  refine hK _ _ ?_; clear hK K
  refine wp_seq_k fun K hK => ?_
  refine wp_region_lit ?_
  refine seg ha 1 [(0, .slice (some ⟨g, 0, none⟩) a0.length (a0.length + 1)), (1, .slice ao1 a1.length cap1), (5, .slice (some ⟨g, 0, none⟩) a0.length (a0.length + 1))] (by kernel_rfl) fun a ha => ?_
  refine cvs ha rfl (by kernel_rfl) (by kernel_rfl) (by kernel_rfl) rfl rfl rfl f0 fun a ha => ?_
  refine seg ha 1 [(0, .slice (some ⟨g, 0, none⟩) a0.length (a0.length + 1)), (1, .slice ao1 a1.length cap1), (6, .string (bstr (b2s a0))), (7, .slice ao1 a1.length cap1)] (by kernel_rfl) fun a ha => ?_
  refine cvs ha rfl (by kernel_rfl) (by kernel_rfl) (by kernel_rfl) rfl rfl rfl f1 fun a ha => ?_
  refine seg ha 2 [(10, .bool ((bstr (b2s a0)).toList == (bstr (b2s a1)).toList)), (0, .slice (some ⟨g, 0, none⟩) a0.length (a0.length + 1)), (1, .slice ao1 a1.length cap1)] (by kernel_rfl) fun a ha => ?_
  rcases Bool.eq_false_or_eq_true ((bstr (b2s a0)).toList == (bstr (b2s a1)).toList) with hb | hb
  · have ha := ha.lit hb
    have hlen : a0.length = a1.length := by
      have h1 := eq_of_beq hb
      rw [ByteArray.toList_eq, ByteArray.toList_eq] at h1
      have := congrArg List.length h1
      simpa [bstr, b2s] using this
    have e8 : IntKind.i64.wrap ((a1.length : Int) + 1) = ((a1.length + 1 : Nat) : Int) := by rw [IntKind.wrap_i64]; omega
    refine sgh ha 4 [2, 2, 2, 2] [(10, .bool true), (1, .slice ao1 a1.length cap1), (11, .slice (some ⟨g, 0, none⟩) a0.length (a0.length + 1)), (14, .int .i64 (IntKind.i64.wrap ((a1.length : Int) + 1)))] (by kernel_rfl) fun a ha => ?_
    rw [e8] at ha
    refine slx (T := 5) (s := 1) ha (by kernel_rfl) (by kernel_rfl) rfl rfl (by omega) rfl rfl rfl fun a ha => ?_
    refine sgh ha 2 [2, 2] [(10, .bool true), (15, .slice (some ⟨g, 0, none⟩) (a1.length + 1) (a0.length + 1)), (17, .int .i64 a1.length)] (by kernel_rfl) fun a ha => ?_
    have hl2 : (List.replicate (a1.length + 1) (0 : Int)).length = a1.length + 1 := by simp
    refine hop (v := .pointer (some ⟨g, 0 + Int.toNat (a1.length : Int) * (rInt .u8).sz, none⟩)) (w' := w) ha rfl rfl rfl (ix_run (r := rInt .u8) (T := 5) (xs := List.replicate (a1.length + 1) (0 : Int)) (k := .i64) (i := (a1.length : Int)) ha (by kernel_rfl) (by kernel_rfl) (by rw [hl2]; rfl) rfl rfl (by omega) (by rw [hl2]; omega)) fun a ha => ?_
    refine ld (v := .int .u8 77) ha rfl (by kernel_rfl) rfl rfl rfl (hB.cell' (o := a0.length) (by simp [rInt, hlen]) (by rw [List.getElem?_append_right (by simp)]; simp)) fun a ha => ?_
    refine sgh ha 3 [2, 3, 0] [(4, .bool ((77 : Int) == 77))] (by kernel_rfl) fun a ha => ?_
    refine hK _ _ ?_; clear hK K
    refine wp_ret ?_
    refine rt1 ha rfl rfl ⟨?_, Chg.refl _ _, hM⟩
    rw [hb]; rfl
  · have ha := ha.lit hb
    refine sgh ha 12 [1, 1, 1, 1, 1, 1, 1, 1, 1, 1, 4, 0] [(4, .bool false)] (by kernel_rfl) fun a ha => ?_
    refine hK _ _ ?_; clear hK K
    refine wp_ret ?_
    refine rt1 ha rfl rfl ⟨?_, Chg.refl _ _, hM⟩
    rw [hb]
def Kept.f (a0 a1 : List Int) : Option Bool := some ((bstr (b2s a0)).toList == (bstr (b2s a1)).toList)
theorem Kept.walk (w : World) (M : List Nat) (hM : MS M w) (a0 : List Int) (ao0 : Option Addr) (cap0 : Nat) {M1 : List Nat} (f0 : Len w M1 ao0 cap0 a0) (a1 : List Int) (ao1 : Option Addr) (cap1 : Nat) (f1 : RSl (rInt .u8) 5 w M ao1 cap1 a1) (r : Bool) (H : Kept.f a0 a1 = some r) :
    To Tryd.prog 16 [.slice ao0 a0.length cap0, .slice ao1 a1.length cap1] w fun v w' => v = .bool r ∧ Chg [] w w' ∧ MS M w' := by
  obtain ⟨g, rfl, _, rfl, hl, hB⟩ := f0
  obtain rfl := Option.some.inj H
  exact Kept.go w M hM a0 g hB hl a1 ao1 cap1 f1

def vineryref02_Right.l0 (a0 : S_api_Addr) : Nat → Int → Option ((Bool) ⊕ (Unit))
  | 0, _ => none
  | kk + 1, x15 => (if (decide (x15 < (16 : Int))) = true then (if 0 ≤ x15 ∧ x15 < (16 : Int) then (if ((ar a0.B (Int.toNat x15)) != (0 : Int)) = true then some (.inl ((false : Bool))) else vineryref02_Right.l0 a0 kk (IntKind.i64.wrap (x15 + (1 : Int)))) else none) else some (.inr (() : Unit)))
def vineryref02_Right.f (k : Nat) (a0 : S_api_Addr) : Option (Bool) := ((if (a0.Size != (0 : Int)) = true then (if (a0.Size != (4 : Int)) = true then some (a0.Size != (16 : Int) : Bool) else some (false : Bool)) else some (false : Bool))).bind fun s9 => (if s9 = true then some ((false : Bool)) else (vineryref02_Right.l0 a0 k a0.Size).bind fun s14 => match s14 with | .inl r => some r | .inr s14' => some ((true : Bool)))
set_option maxRecDepth 100000 in
theorem vineryref02_Right.walk (w : World) (M : List Nat) (hM : MS M w) (a0 : S_api_Addr) (k : Nat) (r : Bool) (H : vineryref02_Right.f k a0 = some r) :
    To Tryd.prog 56 [.agg (cS_api_Addr a0).toArray] w fun v w' => v = .bool r ∧ Chg [] w w' ∧ MS (M) w' := by
 unfold vineryref02_Right.f at H
 refine ent Tryd.func56 rfl [(0, .agg (cS_api_Addr a0).toArray)] rfl (by rfl) fun a ha => ?_
 have hC : Chg [] w w := Chg.refl _ _
 refine wp_seq_k fun K1 hK1 => ?_
 refine wp_region_lit ?_
 refine bx (cs := (cS_api_Addr a0)) ha rfl rfl rfl rfl rfl fun a w2 g3 hN4 ha => ?_
 have hn6 := hN4.notin hM
 have hM : MS (M) w2 := (hM.chg hN4.chg)
 have hC := hC.trans hN4.chg (Ok.nil _ _)
 have hE5 : ∀ j v, (cS_api_Addr a0)[j]? = some v → w2.cell? ⟨g3, 0 + j, none⟩ = some v := Box.cells (New.box hN4)
 refine seg ha 1 [(1, .pointer (some ⟨g3, 0, none⟩))] (by kernel_rfl) fun a ha => ?_
 refine hK1 _ _ ?_; try clear hK1 K1
 refine wp_seq_k fun K7 hK7 => ?_
 refine wp_seq_k fun K8 hK8 => ?_
 refine wp_region_lit ?_
 obtain ⟨s9, H9, H⟩ := bind_some H
 have J9 : ∀ (a : Act) (w9 : World), Has a Tryd.f56.ntmps [(1, .pointer (some ⟨g3, 0, none⟩)), (16, .bool s9)] → (∀ j v, (cS_api_Addr a0)[j]? = some v → w9.cell? ⟨g3, 0 + j, none⟩ = some v) → (g3 ∉ (M)) → (Chg [] w w9) → (MS (M) w9) → K8 a w9 := by
  intro a w9 ha hE5 hn6 hC hM
  refine hK8 _ _ ?_; try clear hK8 K8
  refine cnd ha rfl (fun hc10 => ?_) (fun hc10 => ?_)
  ·have H := ite_t hc10 H
   refine wp_seq_k fun K11 hK11 => ?_
   refine wp_region_lit ?_
   refine seg ha 1 [(2, .bool false)] (by kernel_rfl) fun a ha => ?_
   refine hK11 _ _ ?_; try clear hK11 K11
   refine wp_ret ?_
   try simp only [Exit.then, Exit.inBlock]
   obtain rfl := Option.some.inj H
   refine rt1 ha rfl rfl ?_
   exact ⟨rfl, hC, hM⟩
  ·have H := ite_f hc10 H
   refine wp_skip ?_
   refine hK7 _ _ ?_; try clear hK7 K7
   refine wp_seq_k fun K12 hK12 => ?_
   refine wp_seq_k fun K13 hK13 => ?_
   refine wp_region_lit ?_
   refine seg ha 1 [(1, .pointer (some ⟨g3, 0, none⟩)), (17, .pointer (some ⟨g3, 0, none⟩))] (by kernel_rfl) fun a ha => ?_
   refine ld ha rfl (by kernel_rfl) rfl rfl rfl (hE5 0 (.int .i64 a0.Size) (by kernel_rfl)) fun a ha => ?_
   refine seg ha 1 [(1, .pointer (some ⟨g3, 0, none⟩)), (3, .int .i64 a0.Size)] (by kernel_rfl) fun a ha => ?_
   refine hK13 _ _ ?_; try clear hK13 K13
   refine wp_block ?_
   obtain ⟨s14, H14, H⟩ := bind_some H
   have J14 : ∀ s14' (a : Act) (wx14 : World), s14 = .inr s14' → Has a Tryd.f56.ntmps [] → (Chg [] w wx14) → (MS (M) wx14) → K12 a wx14 := by
    intro s14' a wx14 hs ha hC hM
    subst hs
    refine hK12 _ _ ?_; try clear hK12 K12
    refine wp_seq_k fun K16 hK16 => ?_
    refine wp_region_lit ?_
    refine seg ha 1 [(2, .bool true)] (by kernel_rfl) fun a ha => ?_
    refine hK16 _ _ ?_; try clear hK16 K16
    refine wp_ret ?_
    try simp only [Exit.then, Exit.inBlock]
    obtain rfl := Option.some.inj H
    refine rt1 ha rfl rfl ?_
    exact ⟨rfl, hC, hM⟩
   have Hc14 := H
   have H := H14
   refine wp_loop_ghost (fun kk a w14 => ∃ (x15 : Int), vineryref02_Right.l0 a0 kk x15 = some s14 ∧ Has a Tryd.f56.ntmps [(1, .pointer (some ⟨g3, 0, none⟩)), (3, .int .i64 x15)] ∧ (∀ j v, (cS_api_Addr a0)[j]? = some v → w14.cell? ⟨g3, 0 + j, none⟩ = some v) ∧ (g3 ∉ (M)) ∧ (Chg [] w w14) ∧ (MS (M) w14)) k ?_ ?_
   ·skip
    exact ⟨a0.Size, H, (ha.sel (by kernel_rfl)), hE5, hn6, hC, hM⟩
   ·rintro kk a w14 ⟨x15, H, ha, hE5, hn6, hC, hM⟩
    obtain _ | kk := kk
    ·exact nomatch (show none = some _ from H)
    rw [vineryref02_Right.l0] at H
    refine wp_seq_k fun K17 hK17 => ?_
    refine wp_seq_k fun K18 hK18 => ?_
    refine wp_region_lit ?_
    refine seg ha 2 [(1, .pointer (some ⟨g3, 0, none⟩)), (3, .int .i64 x15), (20, .bool (decide (x15 < (16 : Int))))] (by kernel_rfl) fun a ha => ?_
    refine hK18 _ _ ?_; try clear hK18 K18
    refine cnd ha rfl (fun hc19 => ?_) (fun hc19 => ?_)
    ·have H := ite_t hc19 H
     refine wp_skip ?_
     refine hK17 _ _ ?_; try clear hK17 K17
     refine wp_seq_k fun K20 hK20 => ?_
     refine wp_block ?_
     refine wp_seq_k fun K21 hK21 => ?_
     refine wp_region_lit ?_
     refine seg ha 2 [(1, .pointer (some ⟨g3, 0, none⟩)), (3, .int .i64 x15), (23, .int .i64 x15), (24, .pointer (some ⟨g3, 0 + 1, none⟩))] (by kernel_rfl) fun a ha => ?_
     obtain ⟨⟨hx22, hx22'⟩, H⟩ := ite_some H
     have hE22 : ∀ j v, ([.int .u8 (ar a0.B (Int.toNat x15))] : List Value)[j]? = some v → w14.cell? ⟨g3, (0 + 1 + (Int.toNat x15)) + j, none⟩ = some v := cellA (m := 16) [.int .i64 a0.Size] [] hE5 (by kernel_rfl) (by omega)
     have hn22 := hn6
     refine hop (v := .pointer (some ⟨g3, (0 + 1 + (Int.toNat x15)), none⟩)) (w' := w14) ha rfl rfl rfl (ixA_run (T := 5) (N := 16) (g := g3) (o' := 0 + 1) (k := .i64) (i := x15) ha (by kernel_rfl) (by kernel_rfl) (by rfl) (by rfl) hx22 hx22' _) fun a ha => ?_
     refine ld ha rfl (by kernel_rfl) rfl rfl rfl (hE22 0 (.int .u8 (ar a0.B (Int.toNat x15))) (by kernel_rfl)) fun a ha => ?_
     refine seg ha 1 [(1, .pointer (some ⟨g3, 0, none⟩)), (3, .int .i64 x15), (27, .bool ((ar a0.B (Int.toNat x15)) != (0 : Int)))] (by kernel_rfl) fun a ha => ?_
     refine hK21 _ _ ?_; try clear hK21 K21
     refine cnd ha rfl (fun hc23 => ?_) (fun hc23 => ?_)
     ·have H := ite_t hc23 H
      refine wp_seq_k fun K24 hK24 => ?_
      refine wp_region_lit ?_
      refine seg ha 1 [(2, .bool false)] (by kernel_rfl) fun a ha => ?_
      refine hK24 _ _ ?_; try clear hK24 K24
      refine wp_ret ?_
      try simp only [Exit.then, Exit.inBlock]
      obtain rfl := Option.some.inj H
      have H := (show some _ = some _ from Hc14)
      obtain rfl := Option.some.inj H
      refine rt1 ha rfl rfl ?_
      exact ⟨rfl, hC, hM⟩
     ·have H := ite_f hc23 H
      refine wp_skip ?_
      refine hK20 _ _ ?_; try clear hK20 K20
      refine wp_region_lit ?_
      refine seg ha 3 [(1, .pointer (some ⟨g3, 0, none⟩)), (3, .int .i64 (IntKind.i64.wrap (x15 + (1 : Int))))] (by kernel_rfl) fun a ha => ?_
      exact ⟨kk, Nat.lt_succ_self _, ⟨IntKind.i64.wrap (x15 + (1 : Int)), H, (ha.sel (by kernel_rfl)), hE5, hn6, hC, hM⟩⟩
    ·have H := ite_f hc19 H
     refine wp_exit ?_
     simp only [Exit.then, Exit.inBlock, ↓reduceIte, Nat.reduceEqDiff]
     obtain rfl := Option.some.inj H
     exact J14 _ _ _ rfl (ha.sel (by kernel_rfl)) hC hM
 have H := H9
 refine seg ha 1 [(1, .pointer (some ⟨g3, 0, none⟩)), (4, .pointer (some ⟨g3, 0, none⟩))] (by kernel_rfl) fun a ha => ?_
 refine ld ha rfl (by kernel_rfl) rfl rfl rfl (hE5 0 (.int .i64 a0.Size) (by kernel_rfl)) fun a ha => ?_
 refine seg ha 2 [(7, .bool (a0.Size != (0 : Int))), (1, .pointer (some ⟨g3, 0, none⟩))] (by kernel_rfl) fun a ha => ?_
 rcases Bool.eq_false_or_eq_true (a0.Size != (0 : Int)) with hb25 | hb25
 ·have ha := ha.lit hb25
  have H := ite_t hb25 H
  refine sgh ha 1 [2] [(1, .pointer (some ⟨g3, 0, none⟩)), (7, .bool true), (8, .pointer (some ⟨g3, 0, none⟩))] (by kernel_rfl) fun a ha => ?_
  refine ld ha rfl (by kernel_rfl) rfl rfl rfl (hE5 0 (.int .i64 a0.Size) (by kernel_rfl)) fun a ha => ?_
  refine sgh ha 3 [2, 3, 0] [(12, .bool (a0.Size != (4 : Int))), (1, .pointer (some ⟨g3, 0, none⟩))] (by kernel_rfl) fun a ha => ?_
  rcases Bool.eq_false_or_eq_true (a0.Size != (4 : Int)) with hb26 | hb26
  ·have ha := ha.lit hb26
   have H := ite_t hb26 H
   refine sgh ha 1 [2] [(1, .pointer (some ⟨g3, 0, none⟩)), (12, .bool true), (13, .pointer (some ⟨g3, 0, none⟩))] (by kernel_rfl) fun a ha => ?_
   refine ld ha rfl (by kernel_rfl) rfl rfl rfl (hE5 0 (.int .i64 a0.Size) (by kernel_rfl)) fun a ha => ?_
   refine sgh ha 2 [2, 3] [(1, .pointer (some ⟨g3, 0, none⟩)), (16, .bool (a0.Size != (16 : Int)))] (by kernel_rfl) fun a ha => ?_
   obtain rfl := Option.some.inj H
   exact J9 _ _ (ha.sel (by kernel_rfl)) hE5 hn6 hC hM
  ·have ha := ha.lit hb26
   have H := ite_f hb26 H
   refine sgh ha 4 [1, 1, 1, 4] [(1, .pointer (some ⟨g3, 0, none⟩)), (16, .bool false)] (by kernel_rfl) fun a ha => ?_
   obtain rfl := Option.some.inj H
   exact J9 _ _ (ha.sel (by kernel_rfl)) hE5 hn6 hC hM
 ·have ha := ha.lit hb25
  have H := ite_f hb25 H
  refine sgh ha 9 [1, 1, 1, 4, 0, 1, 1, 1, 4] [(1, .pointer (some ⟨g3, 0, none⟩)), (16, .bool false)] (by kernel_rfl) fun a ha => ?_
  obtain rfl := Option.some.inj H
  exact J9 _ _ (ha.sel (by kernel_rfl)) hE5 hn6 hC hM
def vineryref02_Of.l0 (a0 : List Int) : Nat → Int → (List Int) → Option (List Int)
  | 0, _, _ => none
  | kk + 1, x24, x25 => (if (decide (x24 < (a0.length : Int))) = true then (if 0 ≤ x24 ∧ x24 < (a0.length : Int) then (if 0 ≤ x24 ∧ x24 < (16 : Int) then vineryref02_Of.l0 a0 kk (IntKind.i64.wrap (x24 + (1 : Int))) ((arL 16 x25).set (Int.toNat x24) (rd a0 x24)) else none) else none) else some (x25 : List Int))
def vineryref02_Of.f (k : Nat) (a0 : List Int) : Option (S_api_Addr × Int) := (if (if (if ((a0.length : Int) != (0 : Int)) = true then ((a0.length : Int) != (4 : Int)) else false) = true then ((a0.length : Int) != (16 : Int)) else false) = true then some (((⟨(0 : Int), (List.replicate 16 (0 : Int))⟩ : S_api_Addr) : S_api_Addr), ((1 : Int) : Int)) else (vineryref02_Of.l0 a0 k (0 : Int) (List.replicate 16 (0 : Int))).bind fun s23 => some (((⟨(a0.length : Int), s23⟩ : S_api_Addr) : S_api_Addr), ((0 : Int) : Int)))
set_option maxRecDepth 100000 in
theorem vineryref02_Of.walk (w : World) (M : List Nat) (hM : MS M w) (a0 : List Int) (ao1 : Option Addr) (cap1 : Nat) (f1 : RSl (rInt .u8) 5 w M ao1 cap1 a0) (k : Nat) (r : S_api_Addr × Int) (H : vineryref02_Of.f k a0 = some r) :
    To Tryd.prog 57 [.slice ao1 a0.length cap1] w fun v w' => v = .tuple #[.agg (cS_api_Addr r.1).toArray, .int .i64 r.2] ∧ Chg [] w w' ∧ MS (M) w' := by
 unfold vineryref02_Of.f at H
 refine ent Tryd.func57 rfl [(0, .slice ao1 a0.length cap1)] rfl (by rfl) fun a ha => ?_
 have hC : Chg [] w w := Chg.refl _ _
 refine wp_seq_k fun K2 hK2 => ?_
 refine wp_region_lit ?_
 refine al (cs := (cS_api_Addr (⟨(0 : Int), (List.replicate 16 (0 : Int))⟩ : S_api_Addr))) (z := .agg (cS_api_Addr (⟨(0 : Int), (List.replicate 16 (0 : Int))⟩ : S_api_Addr)).toArray) ha (fun w => by kernel_rfl) rfl rfl rfl rfl fun a w3 g4 hN5 ha => ?_
 have o1 : Ok [] (M) w.heap.size := Ok.nil _ _
 have o2 : Ok ([g4] ++ (M)) (M) w.heap.size := (Ok.app (hN5.ok _) (Ok.refl _ _))
 have f1 := f1.chg hN5.chg o1 o2
 have p_i6_M : ∀ x ∈ [g4], x ∉ M := fun x hx hy => absurd (hM x (hy)) (Nat.not_lt.2 ((hN5.ge1) x hx))
 have e_i6 : ∀ x ∈ [g4], w.heap.size ≤ x := fun x hx => Nat.le_trans hC.size ((hN5.ge1) x hx)
 have hM : MS ([g4] ++ (M)) w3 := (MS.app hN5.ms (hM.chg hN5.chg))
 have hC := hC.trans hN5.chg (Ok.nil _ _)
 have hBg4 : Box w3 g4 (cS_api_Addr (⟨(0 : Int), (List.replicate 16 (0 : Int))⟩ : S_api_Addr)) := hN5.box
 refine seg ha 1 [(0, .slice ao1 a0.length cap1), (2, .pointer (some ⟨g4, 0, none⟩))] (by kernel_rfl) fun a ha => ?_
 refine hK2 _ _ ?_; try clear hK2 K2
 refine wp_seq_k fun K7 hK7 => ?_
 refine wp_region_lit ?_
 refine al (cs := (cS_api_Addr (⟨(0 : Int), (List.replicate 16 (0 : Int))⟩ : S_api_Addr))) (z := .agg (cS_api_Addr (⟨(0 : Int), (List.replicate 16 (0 : Int))⟩ : S_api_Addr)).toArray) ha (fun w => by kernel_rfl) rfl rfl rfl rfl fun a w8 g9 hN10 ha => ?_
 have o1 : Ok [] ([g4] ++ (M)) w3.heap.size := Ok.nil _ _
 have o2 : Ok ([g9] ++ ([g4] ++ (M))) ([g4] ++ (M)) w3.heap.size := (Ok.app (hN10.ok _) (Ok.refl _ _))
 have f1 := f1.chg hN10.chg o1 o2
 have hBg4 := hBg4.chg hN10.chg (fun h => nomatch h)
 have p_i11_i6 : ∀ x ∈ [g9], x ∉ ([g4]) := fun x hx hy => absurd (hM x (ml hy)) (Nat.not_lt.2 ((hN10.ge1) x hx))
 have p_i11_M : ∀ x ∈ [g9], x ∉ M := fun x hx hy => absurd (hM x (mr (hy))) (Nat.not_lt.2 ((hN10.ge1) x hx))
 have e_i11 : ∀ x ∈ [g9], w.heap.size ≤ x := fun x hx => Nat.le_trans hC.size ((hN10.ge1) x hx)
 have hM : MS ([g9] ++ ([g4] ++ (M))) w8 := (MS.app hN10.ms (hM.chg hN10.chg))
 have hC := hC.trans hN10.chg (Ok.nil _ _)
 have hBg9 : Box w8 g9 (cS_api_Addr (⟨(0 : Int), (List.replicate 16 (0 : Int))⟩ : S_api_Addr)) := hN10.box
 refine hK7 _ _ ?_; try clear hK7 K7
 refine wp_seq_k fun K12 hK12 => ?_
 refine wp_seq_k fun K13 hK13 => ?_
 refine wp_region_lit ?_
 refine seg ha 13 [(0, .slice ao1 a0.length cap1), (2, .pointer (some ⟨g4, 0, none⟩)), (4, .pointer (some ⟨g9, 0, none⟩)), (18, .bool (if (if ((a0.length : Int) != (0 : Int)) = true then ((a0.length : Int) != (4 : Int)) else false) = true then ((a0.length : Int) != (16 : Int)) else false))] (by kernel_rfl) fun a ha => ?_
 refine hK13 _ _ ?_; try clear hK13 K13
 refine cnd ha rfl (fun hc14 => ?_) (fun hc14 => ?_)
 ·have H := ite_t hc14 H
  refine wp_seq_k fun K15 hK15 => ?_
  refine wp_region_lit ?_
  refine ldA (cs := (cS_api_Addr (⟨(0 : Int), (List.replicate 16 (0 : Int))⟩ : S_api_Addr))) ha rfl (by kernel_rfl) rfl rfl rfl (cells_sub (Box.cells hBg9) (all := (cS_api_Addr (⟨(0 : Int), (List.replicate 16 (0 : Int))⟩ : S_api_Addr))) [] [] (by kernel_rfl)) fun a ha => ?_
  refine stA (l := (cS_api_Addr (⟨(0 : Int), (List.replicate 16 (0 : Int))⟩ : S_api_Addr))) ha rfl rfl rfl (by kernel_rfl) rfl rfl hBg4 rfl fun a w16 ha hb2 hc17 _ => ?_
  have hBg9 := hBg9.chg hc17 (p_i11_i6 g9 (by simp))
  have hM : MS ([g9] ++ ([g4] ++ (M))) w16 := (hM.chg hc17)
  have hC := hC.trans hc17 (fun x h => .inr (e_i6 x h))
  have hBg4 : Box w16 g4 (cS_api_Addr (⟨(0 : Int), (List.replicate 16 (0 : Int))⟩ : S_api_Addr)) := hb2
  refine seg ha 1 [(2, .pointer (some ⟨g4, 0, none⟩)), (3, .int .i64 (1 : Int))] (by kernel_rfl) fun a ha => ?_
  refine hK15 _ _ ?_; try clear hK15 K15
  refine wp_ret ?_
  try simp only [Exit.then, Exit.inBlock]
  have hBg4 := hBg4.chg (Chg.refl [] _) (fun h => nomatch h)
  have hBg9 := hBg9.chg (Chg.refl [] _) (fun h => nomatch h)
  have hM : MS (M) w16 := (fun x h => hM.chg (Chg.refl [] _) x (mr (mr (h))))
  have hC := hC.trans (Chg.refl [] _) (Ok.nil _ _)
  obtain rfl := Option.some.inj H
  refine rtr ha (res2 rfl (roA ha rfl hBg4 (by kernel_rfl)) (roT ha rfl)) ?_
  exact ⟨rfl, hC, hM⟩
 ·have H := ite_f hc14 H
  refine wp_skip ?_
  refine hK12 _ _ ?_; try clear hK12 K12
  refine wp_seq_k fun K18 hK18 => ?_
  refine wp_region_lit ?_
  refine seg ha 3 [(0, .slice ao1 a0.length cap1), (2, .pointer (some ⟨g4, 0, none⟩)), (4, .pointer (some ⟨g9, 0, none⟩)), (21, .int .i64 (a0.length : Int)), (22, .pointer (some ⟨g9, 0, none⟩))] (by kernel_rfl) fun a ha => ?_
  refine st ha rfl rfl rfl (by kernel_rfl) rfl rfl hBg9 (Nat.le_of_ble_eq_true (by kernel_rfl)) fun a w19 ha hb2 hc20 _ => ?_
  have o1 : Ok [g9] ([g9] ++ ([g4] ++ (M))) w8.heap.size := (fun _ h => .inl (ml h))
  have o2 : Ok ([g9] ++ ([g4] ++ (M))) ([g9] ++ ([g4] ++ (M))) w8.heap.size := (Ok.refl _ _)
  have f1 := f1.chg hc20 o1 o2
  have hBg4 := hBg4.chg hc20 ((fun x (hx : x ∈ [g4]) (hy : x ∈ [g9]) => p_i11_i6 x hy hx) g4 (by simp))
  have hM : MS ([g9] ++ ([g4] ++ (M))) w19 := (hM.chg hc20)
  have hC := hC.trans hc20 (fun x h => .inr (e_i11 x h))
  have hBg9 : Box w19 g9 (cS_api_Addr (⟨(a0.length : Int), (List.replicate 16 (0 : Int))⟩ : S_api_Addr)) := hb2
  refine hK18 _ _ ?_; try clear hK18 K18
  refine wp_seq_k fun K21 hK21 => ?_
  refine wp_seq_k fun K22 hK22 => ?_
  refine wp_region_lit ?_
  refine seg ha 1 [(0, .slice ao1 a0.length cap1), (2, .pointer (some ⟨g4, 0, none⟩)), (4, .pointer (some ⟨g9, 0, none⟩)), (5, .int .i64 (0 : Int))] (by kernel_rfl) fun a ha => ?_
  refine hK22 _ _ ?_; try clear hK22 K22
  refine wp_block ?_
  obtain ⟨s23, H23, H⟩ := bind_some H
  have J23 : ∀ (a : Act) (wx23 : World), Has a Tryd.f57.ntmps [(2, .pointer (some ⟨g4, 0, none⟩)), (4, .pointer (some ⟨g9, 0, none⟩))] → (Box wx23 g4 (cS_api_Addr (⟨(0 : Int), (List.replicate 16 (0 : Int))⟩ : S_api_Addr))) → (Box wx23 g9 (cS_api_Addr (⟨(a0.length : Int), s23⟩ : S_api_Addr))) → (Chg [] w wx23) → (MS ([g9] ++ ([g4] ++ (M))) wx23) → K21 a wx23 := by
   intro a wx23 ha hBg4 hBg9 hC hM
   refine hK21 _ _ ?_; try clear hK21 K21
   refine wp_seq_k fun K26 hK26 => ?_
   refine wp_region_lit ?_
   refine ldA (cs := (cS_api_Addr (⟨(a0.length : Int), s23⟩ : S_api_Addr))) ha rfl (by kernel_rfl) rfl rfl rfl (cells_sub (Box.cells hBg9) (all := (cS_api_Addr (⟨(a0.length : Int), s23⟩ : S_api_Addr))) [] [] (by kernel_rfl)) fun a ha => ?_
   refine stA (l := (cS_api_Addr (⟨(a0.length : Int), s23⟩ : S_api_Addr))) ha rfl rfl rfl (by kernel_rfl) rfl rfl hBg4 rfl fun a w27 ha hb2 hc28 _ => ?_
   have hBg9 := hBg9.chg hc28 (p_i11_i6 g9 (by simp))
   have hM : MS ([g9] ++ ([g4] ++ (M))) w27 := (hM.chg hc28)
   have hC := hC.trans hc28 (fun x h => .inr (e_i6 x h))
   have hBg4 : Box w27 g4 (cS_api_Addr (⟨(a0.length : Int), s23⟩ : S_api_Addr)) := hb2
   refine seg ha 1 [(2, .pointer (some ⟨g4, 0, none⟩)), (3, .int .i64 (0 : Int))] (by kernel_rfl) fun a ha => ?_
   refine hK26 _ _ ?_; try clear hK26 K26
   refine wp_ret ?_
   try simp only [Exit.then, Exit.inBlock]
   have hBg4 := hBg4.chg (Chg.refl [] _) (fun h => nomatch h)
   have hBg9 := hBg9.chg (Chg.refl [] _) (fun h => nomatch h)
   have hM : MS (M) w27 := (fun x h => hM.chg (Chg.refl [] _) x (mr (mr (h))))
   have hC := hC.trans (Chg.refl [] _) (Ok.nil _ _)
   obtain rfl := Option.some.inj H
   refine rtr ha (res2 rfl (roA ha rfl hBg4 (by kernel_rfl)) (roT ha rfl)) ?_
   exact ⟨rfl, hC, hM⟩
  have Hc23 := H
  have H := H23
  refine wp_loop_ghost (fun kk a w23 => ∃ (x24 : Int) (x25 : List Int), vineryref02_Of.l0 a0 kk x24 x25 = some s23 ∧ Has a Tryd.f57.ntmps [(0, .slice ao1 a0.length cap1), (2, .pointer (some ⟨g4, 0, none⟩)), (4, .pointer (some ⟨g9, 0, none⟩)), (5, .int .i64 x24)] ∧ (RSl (rInt .u8) 5 w23 ([g9] ++ ([g4] ++ (M))) ao1 cap1 a0) ∧ (Box w23 g4 (cS_api_Addr (⟨(0 : Int), (List.replicate 16 (0 : Int))⟩ : S_api_Addr))) ∧ (Box w23 g9 (cS_api_Addr (⟨(a0.length : Int), x25⟩ : S_api_Addr))) ∧ (Chg [] w w23) ∧ (MS ([g9] ++ ([g4] ++ (M))) w23)) k ?_ ?_
  ·skip
   exact ⟨(0 : Int), (List.replicate 16 (0 : Int)), H, (ha.sel (by kernel_rfl)), f1, hBg4, hBg9, hC, hM⟩
  ·rintro kk a w23 ⟨x24, x25, H, ha, f1, hBg4, hBg9, hC, hM⟩
   obtain _ | kk := kk
   ·exact nomatch (show none = some _ from H)
   rw [vineryref02_Of.l0] at H
   refine wp_seq_k fun K29 hK29 => ?_
   refine wp_seq_k fun K30 hK30 => ?_
   refine wp_region_lit ?_
   refine seg ha 4 [(0, .slice ao1 a0.length cap1), (2, .pointer (some ⟨g4, 0, none⟩)), (4, .pointer (some ⟨g9, 0, none⟩)), (5, .int .i64 x24), (26, .bool (decide (x24 < (a0.length : Int))))] (by kernel_rfl) fun a ha => ?_
   refine hK30 _ _ ?_; try clear hK30 K30
   refine cnd ha rfl (fun hc31 => ?_) (fun hc31 => ?_)
   ·have H := ite_t hc31 H
    refine wp_skip ?_
    refine hK29 _ _ ?_; try clear hK29 K29
    refine wp_seq_k fun K32 hK32 => ?_
    refine wp_block ?_
    refine wp_region_lit ?_
    refine seg ha 3 [(0, .slice ao1 a0.length cap1), (2, .pointer (some ⟨g4, 0, none⟩)), (4, .pointer (some ⟨g9, 0, none⟩)), (5, .int .i64 x24), (29, .int .i64 x24), (30, .slice ao1 a0.length cap1), (31, .int .i64 x24)] (by kernel_rfl) fun a ha => ?_
    obtain ⟨⟨hx33, hx33'⟩, H⟩ := ite_some H
    refine ix (r := (rInt .u8)) ha (by kernel_rfl) (by kernel_rfl) rfl rfl rfl rfl rfl f1 hx33 hx33' fun a ge34 oe35 cs36 hn39 hR37 hE38 ha => ?_
    rw [rd_get] at hR37
    obtain rfl := hR37
    have hE38 : ∀ j v, ([.int .u8 (rd a0 x24)] : List Value)[j]? = some v → w23.cell? ⟨ge34, oe35 + j, none⟩ = some v := hE38
    refine ld ha rfl (by kernel_rfl) rfl rfl rfl (hE38 0 (.int .u8 (rd a0 x24)) (by kernel_rfl)) fun a ha => ?_
    refine seg ha 1 [(0, .slice ao1 a0.length cap1), (2, .pointer (some ⟨g4, 0, none⟩)), (4, .pointer (some ⟨g9, 0, none⟩)), (5, .int .i64 x24), (29, .int .i64 x24), (33, .int .u8 (rd a0 x24)), (34, .pointer (some ⟨g9, 1, none⟩))] (by kernel_rfl) fun a ha => ?_
    obtain ⟨⟨hx40, hx40'⟩, H⟩ := ite_some H
    have hi40 : (Int.toNat x24) < 16 := by omega
    refine hop (v := .pointer (some ⟨g9, 1 + (Int.toNat x24), none⟩)) (w' := w23) ha rfl rfl rfl (ixA_run (T := 5) (N := 16) (g := g9) (o' := 1) (k := .i64) (i := x24) ha (by kernel_rfl) (by kernel_rfl) (by rfl) (by rfl) hx40 hx40' _) fun a ha => ?_
    refine st (o' := 1 + (Int.toNat x24)) ha rfl rfl rfl (by kernel_rfl) rfl rfl hBg9 (arr_lt (k := .u8) (m := 16) (x := x25) ([.int .i64 (a0.length : Int)] : List Value) ([] : List Value) (by kernel_rfl) hi40) fun a w41 ha hb2 hc42 _ => ?_
    have o1 : Ok [g9] ([g9] ++ ([g4] ++ (M))) w23.heap.size := (fun _ h => .inl (ml h))
    have o2 : Ok ([g9] ++ ([g4] ++ (M))) ([g9] ++ ([g4] ++ (M))) w23.heap.size := (Ok.refl _ _)
    have f1 := f1.chg hc42 o1 o2
    have hBg4 := hBg4.chg hc42 ((fun x (hx : x ∈ [g4]) (hy : x ∈ [g9]) => p_i11_i6 x hy hx) g4 (by simp))
    have hM : MS ([g9] ++ ([g4] ++ (M))) w41 := (hM.chg hc42)
    have hC := hC.trans hc42 (fun x h => .inr (e_i11 x h))
    have hBg9 : Box w41 g9 (cS_api_Addr (⟨(a0.length : Int), ((arL 16 x25).set (Int.toNat x24) (rd a0 x24))⟩ : S_api_Addr)) := Box.setA (k := .u8) (m := 16) (x := x25) ([.int .i64 (a0.length : Int)] : List Value) ([] : List Value) hb2 (by kernel_rfl) hi40 (by kernel_rfl)
    refine hK32 _ _ ?_; try clear hK32 K32
    refine wp_region_lit ?_
    refine seg ha 3 [(0, .slice ao1 a0.length cap1), (2, .pointer (some ⟨g4, 0, none⟩)), (4, .pointer (some ⟨g9, 0, none⟩)), (5, .int .i64 (IntKind.i64.wrap (x24 + (1 : Int))))] (by kernel_rfl) fun a ha => ?_
    exact ⟨kk, Nat.lt_succ_self _, ⟨IntKind.i64.wrap (x24 + (1 : Int)), ((arL 16 x25).set (Int.toNat x24) (rd a0 x24)), H, (ha.sel (by kernel_rfl)), f1, hBg4, hBg9, hC, hM⟩⟩
   ·have H := ite_f hc31 H
    refine wp_exit ?_
    simp only [Exit.then, Exit.inBlock, ↓reduceIte, Nat.reduceEqDiff]
    obtain rfl := Option.some.inj H
    exact J23 _ _ (ha.sel (by kernel_rfl)) hBg4 hBg9 hC hM
end Go.E
