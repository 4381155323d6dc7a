/- What the functions that the law reaches compute, and the walks that show it. -/
import Derived.Test.YtoeenagdbjppgaaDoorEngM
import Derived.Test.YtoeenagdbjppgaaDoorProg
import Derived.Test.YtoeenagdbjppgaaDoorGenPmsiHeadsP0
set_option linter.unusedVariables false
set_option linter.unusedSimpArgs false
namespace Go.E
open Go.RowKit Go.Proofs
def cursor_rest_Bad.f (a0 : S_cursor_rest) : Option (Bool) := some ((a0.bad : Bool))
set_option maxRecDepth 100000 in
theorem cursor_rest_Bad.walk (w : World) (M : List Nat) (hM : MS M w) (gp0 : Nat) (a0 : S_cursor_rest) (ao1 : Option Addr) (cap1 : Nat) (f1 : RSl (rInt .u8) 5 w M ao1 cap1 a0.left) (hBgp0 : Box w gp0 (cS_cursor_rest a0 ao1 cap1)) (hg_gp0 : gp0 ∈ M) (r : Bool) (H : cursor_rest_Bad.f a0 = some r) :
    To Tryd.prog 47 [.pointer (some ⟨gp0, 0, none⟩)] w fun v w' => v = .bool r ∧ Chg [] w w' ∧ MS (M) w' := by
  unfold cursor_rest_Bad.f at H
  refine ent Tryd.func47 rfl [(0, .pointer (some ⟨gp0, 0, none⟩))] rfl (by rfl) fun a ha => ?_
  have hC : Chg [] w w := Chg.refl _ _
  refine wp_seq_k fun K2 hK2 => ?_
  refine wp_region_lit ?_
  refine seg ha 1 [(0, .pointer (some ⟨gp0, 0, none⟩))] (by kernel_rfl) fun a ha => ?_
  refine hK2 _ _ ?_; try clear hK2 K2
  refine wp_seq_k fun K3 hK3 => ?_
  refine wp_region_lit ?_
  refine seg ha 3 [(5, .pointer (some ⟨gp0, 1, none⟩))] (by kernel_rfl) fun a ha => ?_
  refine ld (v := .bool a0.bad) ha rfl (by kernel_rfl) rfl rfl rfl (hBgp0.cell' (o := 1) rfl (by kernel_rfl)) fun a ha => ?_
  refine seg ha 1 [(2, .bool a0.bad)] (by kernel_rfl) fun a ha => ?_
  refine hK3 _ _ ?_; try clear hK3 K3
  refine wp_ret ?_
  try simp only [Exit.then, Exit.inBlock]
  obtain rfl := Option.some.inj H
  refine rt1 ha rfl rfl ?_
  exact ⟨rfl, hC, hM⟩
def bytes_Equal.f (a0 : List Int) (a1 : List Int) : Option (Bool) := some (((bstr (b2s a0)).toList == (bstr (b2s a1)).toList : Bool))
set_option maxRecDepth 100000 in
theorem bytes_Equal.walk (w : World) (M : List Nat) (hM : MS M w) (a0 : List Int) (ao1 : Option Addr) (cap1 : Nat) (f1 : RSl (rInt .u8) 5 w M ao1 cap1 a0) (a1 : List Int) (ao2 : Option Addr) (cap2 : Nat) (f2 : RSl (rInt .u8) 5 w M ao2 cap2 a1) (r : Bool) (H : bytes_Equal.f a0 a1 = some r) :
    To Tryd.prog 48 [.slice ao1 a0.length cap1, .slice ao2 a1.length cap2] w fun v w' => v = .bool r ∧ Chg [] w w' ∧ MS (M) w' := by
  unfold bytes_Equal.f at H
  refine ent Tryd.func48 rfl [(0, .slice ao1 a0.length cap1), (1, .slice ao2 a1.length cap2)] rfl (by rfl) fun a ha => ?_
  have hC : Chg [] w w := Chg.refl _ _
  refine wp_seq_k fun K3 hK3 => ?_
  refine wp_region_lit ?_
  refine seg ha 1 [(0, .slice ao1 a0.length cap1), (1, .slice ao2 a1.length cap2)] (by kernel_rfl) fun a ha => ?_
  refine hK3 _ _ ?_; try clear hK3 K3
  refine wp_seq_k fun K4 hK4 => ?_
  refine wp_region_lit ?_
  refine seg ha 1 [(1, .slice ao2 a1.length cap2), (5, .slice ao1 a0.length cap1)] (by kernel_rfl) fun a ha => ?_
  refine cvs ha rfl (by kernel_rfl) (by kernel_rfl) (by kernel_rfl) rfl rfl rfl f1 fun a ha => ?_
  refine seg ha 1 [(6, .string (bstr (b2s a0))), (7, .slice ao2 a1.length cap2)] (by kernel_rfl) fun a ha => ?_
  refine cvs ha rfl (by kernel_rfl) (by kernel_rfl) (by kernel_rfl) rfl rfl rfl f2 fun a ha => ?_
  refine seg ha 2 [(4, .bool ((bstr (b2s a0)).toList == (bstr (b2s a1)).toList))] (by kernel_rfl) fun a ha => ?_
  refine hK4 _ _ ?_; try clear hK4 K4
  refine wp_ret ?_
  try simp only [Exit.then, Exit.inBlock]
  obtain rfl := Option.some.inj H
  refine rt1 ha rfl rfl ?_
  exact ⟨rfl, hC, hM⟩
def cursor_rest_Left.f (a0 : S_cursor_rest) : Option (Int) := (if a0.bad = true then some (((0 : Int) : Int)) else some (((a0.left.length : Int) : Int)))
set_option maxRecDepth 100000 in
theorem cursor_rest_Left.walk (w : World) (M : List Nat) (hM : MS M w) (gp0 : Nat) (a0 : S_cursor_rest) (ao1 : Option Addr) (cap1 : Nat) (f1 : RSl (rInt .u8) 5 w M ao1 cap1 a0.left) (hBgp0 : Box w gp0 (cS_cursor_rest a0 ao1 cap1)) (hg_gp0 : gp0 ∈ M) (r : Int) (H : cursor_rest_Left.f a0 = some r) :
    To Tryd.prog 46 [.pointer (some ⟨gp0, 0, none⟩)] w fun v w' => v = .int .i64 r ∧ Chg [] w w' ∧ MS (M) w' := by
  unfold cursor_rest_Left.f at H
  refine ent Tryd.func46 rfl [(0, .pointer (some ⟨gp0, 0, none⟩))] rfl (by rfl) fun a ha => ?_
  have hC : Chg [] w w := Chg.refl _ _
  refine wp_seq_k fun K2 hK2 => ?_
  refine wp_region_lit ?_
  refine seg ha 1 [(0, .pointer (some ⟨gp0, 0, none⟩))] (by kernel_rfl) fun a ha => ?_
  refine hK2 _ _ ?_; try clear hK2 K2
  refine wp_seq_k fun K3 hK3 => ?_
  refine wp_seq_k fun K4 hK4 => ?_
  refine wp_region_lit ?_
  refine seg ha 3 [(0, .pointer (some ⟨gp0, 0, none⟩)), (5, .pointer (some ⟨gp0, 1, none⟩))] (by kernel_rfl) fun a ha => ?_
  refine ld (v := .bool a0.bad) ha rfl (by kernel_rfl) rfl rfl rfl (hBgp0.cell' (o := 1) rfl (by kernel_rfl)) fun a ha => ?_
  refine hK4 _ _ ?_; try clear hK4 K4
  refine cnd ha rfl (fun hc5 => ?_) (fun hc5 => ?_)
  · have H := ite_t hc5 H
    refine wp_seq_k fun K6 hK6 => ?_
    refine wp_region_lit ?_
    refine seg ha 1 [(2, .int .i64 (0 : Int))] (by kernel_rfl) fun a ha => ?_
    refine hK6 _ _ ?_; try clear hK6 K6
    refine wp_ret ?_
    try simp only [Exit.then, Exit.inBlock]
    obtain rfl := Option.some.inj H
    refine rt1 ha rfl rfl ?_
    exact ⟨rfl, hC, hM⟩
  · have H := ite_f hc5 H
    refine wp_skip ?_
    refine hK3 _ _ ?_; try clear hK3 K3
    refine wp_seq_k fun K7 hK7 => ?_
    refine wp_region_lit ?_
    refine seg ha 3 [(9, .pointer (some ⟨gp0, 0, none⟩))] (by kernel_rfl) fun a ha => ?_
    refine ld (v := .slice ao1 a0.left.length cap1) ha rfl (by kernel_rfl) rfl rfl rfl (hBgp0.cell' (o := 0) rfl (by kernel_rfl)) fun a ha => ?_
    refine seg ha 2 [(2, .int .i64 (a0.left.length : Int))] (by kernel_rfl) fun a ha => ?_
    refine hK7 _ _ ?_; try clear hK7 K7
    refine wp_ret ?_
    try simp only [Exit.then, Exit.inBlock]
    obtain rfl := Option.some.inj H
    refine rt1 ha rfl rfl ?_
    exact ⟨rfl, hC, hM⟩
def pmsi_Parse.f (k : Nat) (a0 : List Int) : Option (S_api_Tunnel × Int) := (cursor_Open.f a0).bind fun t8 => (cursor_Reader_Num.f k t8 (1 : Int)).bind fun t13 => (cursor_Reader_Num.f k t13.2 (1 : Int)).bind fun t22 => (cursor_Reader_Take.f t22.2 (3 : Int)).bind fun t27 => (label_Read.f k t27.1).bind fun t30 => (if (t22.1 == (1 : Int)) = true then (cursor_Reader_Take.f t27.2 (4 : Int)).bind fun t38 => (cursor_Reader_Take.f t38.2 (2 : Int)).bind fun t44 => ((cursor_Reader_Take.f t44.2 (2 : Int)).bind fun t76 => (if (t38.1.length + t76.1.length) * 1 ≤ 140737488355328 then some ((t76.2.rest.left : List Int), (t76.2.rest.bad : Bool), ((t38.1 ++ t76.1) : List Int)) else none)).bind fun s50 => (pmsi_root.f (⟨(⟨s50.1, s50.2.1⟩ : S_cursor_rest)⟩ : S_cursor_Reader) (4 : Int)).bind fun t53 => (pmsi_Bytes.f k (⟨t13.1 == (1 : Int), t22.1, t30.1, t53.1, s50.2.2⟩ : S_api_Tunnel)).bind fun t59 => ((cursor_rest_Bad.f t53.2.rest).bind fun t70 => (if t70 = true then some (true : Bool) else (if (t59.2 != (0 : Int)) = true then some (true : Bool) else (bytes_Equal.f t59.1 a0).bind fun t73 => some (!t73 : Bool)))).bind fun s62 => (if s62 = true then some (((⟨false, (0 : Int), (0 : Int), (⟨(0 : Int), (List.replicate 16 (0 : Int))⟩ : S_api_Addr), ([] : List Int)⟩ : S_api_Tunnel) : S_api_Tunnel), ((4 : Int) : Int)) else some (((⟨t13.1 == (1 : Int), t22.1, t30.1, t53.1, s50.2.2⟩ : S_api_Tunnel) : S_api_Tunnel), ((0 : Int) : Int))) else ((if (t22.1 == (2 : Int)) = true then some (t22.1 == (2 : Int) : Bool) else some (t22.1 == (7 : Int) : Bool))).bind fun s99 => (if s99 = true then (cursor_Reader_Take.f t27.2 (3 : Int)).bind fun t102 => (cursor_Reader_Num.f k t102.2 (1 : Int)).bind fun t106 => (pmsi_root.f t106.2 t106.1).bind fun t108 => (cursor_Reader_Num.f k t108.2 (2 : Int)).bind fun t112 => (cursor_Reader_Take.f t112.2 t112.1).bind fun t114 => (pmsi_Bytes.f k (⟨t13.1 == (1 : Int), t22.1, t30.1, t108.1, t114.1⟩ : S_api_Tunnel)).bind fun t121 => ((cursor_rest_Bad.f t114.2.rest).bind fun t132 => (if t132 = true then some (true : Bool) else (if (t121.2 != (0 : Int)) = true then some (true : Bool) else (bytes_Equal.f t121.1 a0).bind fun t135 => some (!t135 : Bool)))).bind fun s124 => (if s124 = true then some (((⟨false, (0 : Int), (0 : Int), (⟨(0 : Int), (List.replicate 16 (0 : Int))⟩ : S_api_Addr), ([] : List Int)⟩ : S_api_Tunnel) : S_api_Tunnel), ((4 : Int) : Int)) else some (((⟨t13.1 == (1 : Int), t22.1, t30.1, t108.1, t114.1⟩ : S_api_Tunnel) : S_api_Tunnel), ((0 : Int) : Int))) else ((if (t22.1 == (3 : Int)) = true then some (t22.1 == (3 : Int) : Bool) else (if (t22.1 == (4 : Int)) = true then some (t22.1 == (4 : Int) : Bool) else some (t22.1 == (5 : Int) : Bool)))).bind fun s137 => (if s137 = true then (cursor_rest_Left.f t27.2.rest).bind fun t140 => (pmsi_root.f t27.2 (IntKind.i64.wrap (Int.tdiv t140 (2 : Int)))).bind fun t141 => (cursor_rest_Left.f t141.2.rest).bind fun t145 => (cursor_Reader_Take.f t141.2 t145).bind fun t146 => (pmsi_Bytes.f k (⟨t13.1 == (1 : Int), t22.1, t30.1, t141.1, t146.1⟩ : S_api_Tunnel)).bind fun t153 => ((cursor_rest_Bad.f t146.2.rest).bind fun t164 => (if t164 = true then some (true : Bool) else (if (t153.2 != (0 : Int)) = true then some (true : Bool) else (bytes_Equal.f t153.1 a0).bind fun t167 => some (!t167 : Bool)))).bind fun s156 => (if s156 = true then some (((⟨false, (0 : Int), (0 : Int), (⟨(0 : Int), (List.replicate 16 (0 : Int))⟩ : S_api_Addr), ([] : List Int)⟩ : S_api_Tunnel) : S_api_Tunnel), ((4 : Int) : Int)) else some (((⟨t13.1 == (1 : Int), t22.1, t30.1, t141.1, t146.1⟩ : S_api_Tunnel) : S_api_Tunnel), ((0 : Int) : Int))) else (cursor_rest_Left.f t27.2.rest).bind fun t168 => (pmsi_root.f t27.2 t168).bind fun t169 => (pmsi_Bytes.f k (⟨t13.1 == (1 : Int), t22.1, t30.1, t169.1, ([] : List Int)⟩ : S_api_Tunnel)).bind fun t175 => ((cursor_rest_Bad.f t169.2.rest).bind fun t186 => (if t186 = true then some (true : Bool) else (if (t175.2 != (0 : Int)) = true then some (true : Bool) else (bytes_Equal.f t175.1 a0).bind fun t189 => some (!t189 : Bool)))).bind fun s178 => (if s178 = true then some (((⟨false, (0 : Int), (0 : Int), (⟨(0 : Int), (List.replicate 16 (0 : Int))⟩ : S_api_Addr), ([] : List Int)⟩ : S_api_Tunnel) : S_api_Tunnel), ((4 : Int) : Int)) else some (((⟨t13.1 == (1 : Int), t22.1, t30.1, t169.1, ([] : List Int)⟩ : S_api_Tunnel) : S_api_Tunnel), ((0 : Int) : Int))))))
set_option maxRecDepth 100000 in
theorem pmsi_Parse.walk (w : World) (M : List Nat) (hM : MS M w) (a0 : List Int) (ao1 : Option Addr) (cap1 : Nat) (f1 : RSl (rInt .u8) 5 w M ao1 cap1 a0) (k : Nat) (r : S_api_Tunnel × Int) (H : pmsi_Parse.f k a0 = some r) :
    To Tryd.prog 15 [.slice ao1 a0.length cap1] w fun v w' => ∃ (ao196 : Option Addr) (cap196 : Nat), v = .tuple #[.agg (cS_api_Tunnel r.1 ao196 cap196).toArray, .int .i64 r.2] ∧ (RSl (rInt .u8) 5 w' (M) ao196 cap196 r.1.Id) ∧ Chg [] w w' ∧ MS (M) w' := by
  unfold pmsi_Parse.f at H
  refine ent Tryd.func15 rfl [(0, .slice ao1 a0.length cap1)] rfl (by rfl) fun a ha => ?_
  have hC : Chg [] w w := Chg.refl _ _
  refine wp_seq_k fun K2 hK2 => ?_
  refine wp_region_lit ?_
  refine al (cs := (cS_api_Tunnel (⟨false, (0 : Int), (0 : Int), (⟨(0 : Int), (List.replicate 16 (0 : Int))⟩ : S_api_Addr), ([] : List Int)⟩ : S_api_Tunnel) none 0)) (z := .agg (cS_api_Tunnel (⟨false, (0 : Int), (0 : Int), (⟨(0 : Int), (List.replicate 16 (0 : Int))⟩ : S_api_Addr), ([] : List Int)⟩ : S_api_Tunnel) none 0).toArray) ha (fun w => by kernel_rfl) rfl rfl rfl rfl fun a w3 g4 hN5 ha => ?_
  have o1 : Ok [] (M) w.heap.size := Ok.nil _ _
  have o2 : Ok ([g4] ++ (M)) (M) w.heap.size := (Ok.app (hN5.ok _) (fun _ h => .inl (h)))
  have f1 := f1.chg hN5.chg o1 o2
  have nw : Ok ([g4]) (M) w.heap.size := (hN5.ok _)
  have p_i6_M : ∀ x ∈ [g4], x ∉ M := fun x hx hy => absurd (hM x (hy)) (Nat.not_lt.2 ((hN5.ge1) x hx))
  have e_i6 : ∀ x ∈ [g4], w.heap.size ≤ x := fun x hx => Nat.le_trans hC.size ((hN5.ge1) x hx)
  have hM : MS ([g4] ++ (M)) w3 := (MS.app hN5.ms (fun x h => hM.chg hN5.chg x (h)))
  have hC := hC.trans hN5.chg (Ok.nil _ _)
  have hBg4 : Box w3 g4 (cS_api_Tunnel (⟨false, (0 : Int), (0 : Int), (⟨(0 : Int), (List.replicate 16 (0 : Int))⟩ : S_api_Addr), ([] : List Int)⟩ : S_api_Tunnel) none 0) := hN5.box
  refine seg ha 1 [(0, .slice ao1 a0.length cap1), (2, .pointer (some ⟨g4, 0, none⟩))] (by kernel_rfl) fun a ha => ?_
  refine hK2 _ _ ?_; try clear hK2 K2
  refine wp_seq_k fun K7 hK7 => ?_
  refine wp_region_lit ?_
  refine seg ha 1 [(0, .slice ao1 a0.length cap1), (2, .pointer (some ⟨g4, 0, none⟩)), (8, .slice ao1 a0.length cap1)] (by kernel_rfl) fun a ha => ?_
  obtain ⟨t8, H8, H⟩ := bind_some H
  refine cl ha (by rfl) (by kernel_rfl) (by rfl) (by rfl) (by rfl) (cursor_Open.walk w3 _ hM a0 ao1 cap1 f1 _ H8) ?_
  rintro _ w8 ⟨g9, ao11, cap11, rfl, f11, hBg9, ne_i10, hc8, hMn⟩ a ha
  have o1 : Ok [] ([g4] ++ (M)) w3.heap.size := Ok.nil _ _
  have o2 : Ok ([g9] ++ ([g4] ++ (M))) ([g4] ++ (M)) w3.heap.size := (Ok.app (fun x h => .inr (ne_i10 x h)) (Ok.app (fun _ h => .inl (ml h)) (fun _ h => .inl (mr (h)))))
  have f1 := f1.chg hc8 o1 o2
  have hBg4 := hBg4.chg hc8 (fun h => nomatch h)
  have nw : Ok ([g9]) ([g4] ++ (M)) w3.heap.size := (fun x h => .inr (ne_i10 x h))
  have p_i10_i6 : ∀ x ∈ [g9], x ∉ ([g4]) := fun x hx hy => absurd (hM x (ml hy)) (Nat.not_lt.2 (ne_i10 x hx))
  have p_i10_M : ∀ x ∈ [g9], x ∉ M := fun x hx hy => absurd (hM x (mr (hy))) (Nat.not_lt.2 (ne_i10 x hx))
  have e_i10 : ∀ x ∈ [g9], w.heap.size ≤ x := fun x hx => Nat.le_trans hC.size (ne_i10 x hx)
  have hM : MS ([g9] ++ ([g4] ++ (M))) w8 := (MS.app (fun x h => hMn x (ml h)) (MS.app (fun x h => hM.chg hc8 x (ml h)) (fun x h => hM.chg hc8 x (mr (h)))))
  have hC := hC.trans hc8 (Ok.nil _ _)
  refine seg ha 1 [(0, .slice ao1 a0.length cap1), (2, .pointer (some ⟨g4, 0, none⟩)), (4, .pointer (some ⟨g9, 0, none⟩))] (by kernel_rfl) fun a ha => ?_
  refine hK7 _ _ ?_; try clear hK7 K7
  refine wp_seq_k fun K12 hK12 => ?_
  refine wp_region_lit ?_
  refine seg ha 1 [(0, .slice ao1 a0.length cap1), (2, .pointer (some ⟨g4, 0, none⟩)), (4, .pointer (some ⟨g9, 0, none⟩)), (10, .pointer (some ⟨g9, 0, none⟩))] (by kernel_rfl) fun a ha => ?_
  obtain ⟨t13, H13, H⟩ := bind_some H
  refine cl ha (by rfl) (by kernel_rfl) (by rfl) (by rfl) (by rfl) (cursor_Reader_Num.walk w8 _ hM g9 t8 ao11 cap11 f11 hBg9 (ml (List.mem_singleton.2 rfl)) (1 : Int) k _ H13) ?_
  rintro _ w13 ⟨ao14, cap14, rfl, f14, qhBg9, hc13, hMn⟩ a ha
  have o1 : Ok [g9] ([g9] ++ ([g4] ++ (M))) w8.heap.size := (fun _ h => .inl (ml h))
  have o2 : Ok ([g9] ++ ([g4] ++ (M))) ([g9] ++ ([g4] ++ (M))) w8.heap.size := (Ok.app (fun _ h => .inl (ml h)) (Ok.app (fun _ h => .inl (mr (ml h))) (fun _ h => .inl (mr (mr (h))))))
  have f1 := f1.chg hc13 o1 o2
  have f11 := f11.chg hc13 o1 o2
  have hBg4 := hBg4.chg hc13 ((fun x (hx : x ∈ [g4]) (hy : x ∈ [g9]) => p_i10_i6 x hy hx) g4 (by simp))
  have hM : MS ([g9] ++ ([g4] ++ (M))) w13 := (MS.app (fun x h => hM.chg hc13 x (ml h)) (MS.app (fun x h => hM.chg hc13 x (mr (ml h))) (fun x h => hM.chg hc13 x (mr (mr (h))))))
  have hC := hC.trans hc13 (fun x h => .inr (e_i10 x h))
  have hBg9 := qhBg9
  refine seg ha 1 [(0, .slice ao1 a0.length cap1), (2, .pointer (some ⟨g4, 0, none⟩)), (4, .pointer (some ⟨g9, 0, none⟩)), (12, .bool (t13.1 == (1 : Int)))] (by kernel_rfl) fun a ha => ?_
  refine opk (v := .agg (cS_api_Tunnel (⟨t13.1 == (1 : Int), (0 : Int), (0 : Int), (⟨(0 : Int), (List.replicate 16 (0 : Int))⟩ : S_api_Addr), ([] : List Int)⟩ : S_api_Tunnel) none 0).toArray) ha rfl rfl rfl rfl rfl (fun w => by kernel_rfl) fun a ha => ?_
  refine al (cs := (cS_api_Tunnel (⟨false, (0 : Int), (0 : Int), (⟨(0 : Int), (List.replicate 16 (0 : Int))⟩ : S_api_Addr), ([] : List Int)⟩ : S_api_Tunnel) none 0)) (z := .agg (cS_api_Tunnel (⟨false, (0 : Int), (0 : Int), (⟨(0 : Int), (List.replicate 16 (0 : Int))⟩ : S_api_Addr), ([] : List Int)⟩ : S_api_Tunnel) none 0).toArray) ha (fun w => by kernel_rfl) rfl rfl rfl rfl fun a w15 g16 hN17 ha => ?_
  have o1 : Ok [] ([g9] ++ ([g4] ++ (M))) w13.heap.size := Ok.nil _ _
  have o2 : Ok ([g16] ++ ([g9] ++ ([g4] ++ (M)))) ([g9] ++ ([g4] ++ (M))) w13.heap.size := (Ok.app (hN17.ok _) (Ok.app (fun _ h => .inl (ml h)) (Ok.app (fun _ h => .inl (mr (ml h))) (fun _ h => .inl (mr (mr (h)))))))
  have f1 := f1.chg hN17.chg o1 o2
  have f14 := f14.chg hN17.chg o1 o2
  have hBg4 := hBg4.chg hN17.chg (fun h => nomatch h)
  have hBg9 := hBg9.chg hN17.chg (fun h => nomatch h)
  have nw : Ok ([g16]) ([g9] ++ ([g4] ++ (M))) w13.heap.size := (hN17.ok _)
  have p_i18_i10 : ∀ x ∈ [g16], x ∉ ([g9]) := fun x hx hy => absurd (hM x (ml hy)) (Nat.not_lt.2 ((hN17.ge1) x hx))
  have p_i18_i6 : ∀ x ∈ [g16], x ∉ ([g4]) := fun x hx hy => absurd (hM x (mr (ml hy))) (Nat.not_lt.2 ((hN17.ge1) x hx))
  have p_i18_M : ∀ x ∈ [g16], x ∉ M := fun x hx hy => absurd (hM x (mr (mr (hy)))) (Nat.not_lt.2 ((hN17.ge1) x hx))
  have e_i18 : ∀ x ∈ [g16], w.heap.size ≤ x := fun x hx => Nat.le_trans hC.size ((hN17.ge1) x hx)
  have hM : MS ([g16] ++ ([g9] ++ ([g4] ++ (M)))) w15 := (MS.app hN17.ms (MS.app (fun x h => hM.chg hN17.chg x (ml h)) (MS.app (fun x h => hM.chg hN17.chg x (mr (ml h))) (fun x h => hM.chg hN17.chg x (mr (mr (h)))))))
  have hC := hC.trans hN17.chg (Ok.nil _ _)
  have hBg16 : Box w15 g16 (cS_api_Tunnel (⟨false, (0 : Int), (0 : Int), (⟨(0 : Int), (List.replicate 16 (0 : Int))⟩ : S_api_Addr), ([] : List Int)⟩ : S_api_Tunnel) none 0) := hN17.box
  refine stA (l := (cS_api_Tunnel (⟨t13.1 == (1 : Int), (0 : Int), (0 : Int), (⟨(0 : Int), (List.replicate 16 (0 : Int))⟩ : S_api_Addr), ([] : List Int)⟩ : S_api_Tunnel) none 0)) ha rfl rfl rfl (by kernel_rfl) rfl rfl hBg16 rfl fun a w19 ha hb2 hc20 _ => ?_
  have o1 : Ok [g16] ([g16] ++ ([g9] ++ ([g4] ++ (M)))) w15.heap.size := (fun _ h => .inl (ml h))
  have o2 : Ok ([g16] ++ ([g9] ++ ([g4] ++ (M)))) ([g16] ++ ([g9] ++ ([g4] ++ (M)))) w15.heap.size := (Ok.app (fun _ h => .inl (ml h)) (Ok.app (fun _ h => .inl (mr (ml h))) (Ok.app (fun _ h => .inl (mr (mr (ml h)))) (fun _ h => .inl (mr (mr (mr (h))))))))
  have f1 := f1.chg hc20 o1 o2
  have f14 := f14.chg hc20 o1 o2
  have hBg4 := hBg4.chg hc20 ((fun x (hx : x ∈ [g4]) (hy : x ∈ [g16]) => p_i18_i6 x hy hx) g4 (by simp))
  have hBg9 := hBg9.chg hc20 ((fun x (hx : x ∈ [g9]) (hy : x ∈ [g16]) => p_i18_i10 x hy hx) g9 (by simp))
  have hM : MS ([g16] ++ ([g9] ++ ([g4] ++ (M)))) w19 := (MS.app (fun x h => hM.chg hc20 x (ml h)) (MS.app (fun x h => hM.chg hc20 x (mr (ml h))) (MS.app (fun x h => hM.chg hc20 x (mr (mr (ml h)))) (fun x h => hM.chg hc20 x (mr (mr (mr (h))))))))
  have hC := hC.trans hc20 (fun x h => .inr (e_i18 x h))
  have hBg16 : Box w19 g16 (cS_api_Tunnel (⟨t13.1 == (1 : Int), (0 : Int), (0 : Int), (⟨(0 : Int), (List.replicate 16 (0 : Int))⟩ : S_api_Addr), ([] : List Int)⟩ : S_api_Tunnel) none 0) := hb2
  refine hK12 _ _ ?_; try clear hK12 K12
  refine wp_seq_k fun K21 hK21 => ?_
  refine wp_region_lit ?_
  refine seg ha 1 [(0, .slice ao1 a0.length cap1), (2, .pointer (some ⟨g4, 0, none⟩)), (4, .pointer (some ⟨g9, 0, none⟩)), (5, .pointer (some ⟨g16, 0, none⟩)), (14, .pointer (some ⟨g9, 0, none⟩))] (by kernel_rfl) fun a ha => ?_
  obtain ⟨t22, H22, H⟩ := bind_some H
  refine cl ha (by rfl) (by kernel_rfl) (by rfl) (by rfl) (by rfl) (cursor_Reader_Num.walk w19 _ hM g9 t13.2 ao14 cap14 f14 hBg9 (mr (ml (List.mem_singleton.2 rfl))) (1 : Int) k _ H22) ?_
  rintro _ w22 ⟨ao23, cap23, rfl, f23, qhBg9, hc22, hMn⟩ a ha
  have o1 : Ok [g9] ([g16] ++ ([g9] ++ ([g4] ++ (M)))) w19.heap.size := (fun _ h => .inl (mr (ml h)))
  have o2 : Ok ([g16] ++ ([g9] ++ ([g4] ++ (M)))) ([g16] ++ ([g9] ++ ([g4] ++ (M)))) w19.heap.size := (Ok.app (fun _ h => .inl (ml h)) (Ok.app (fun _ h => .inl (mr (ml h))) (Ok.app (fun _ h => .inl (mr (mr (ml h)))) (fun _ h => .inl (mr (mr (mr (h))))))))
  have f1 := f1.chg hc22 o1 o2
  have f14 := f14.chg hc22 o1 o2
  have hBg4 := hBg4.chg hc22 ((fun x (hx : x ∈ [g4]) (hy : x ∈ [g9]) => p_i10_i6 x hy hx) g4 (by simp))
  have hBg16 := hBg16.chg hc22 (p_i18_i10 g16 (by simp))
  have hM : MS ([g16] ++ ([g9] ++ ([g4] ++ (M)))) w22 := (MS.app (fun x h => hM.chg hc22 x (ml h)) (MS.app (fun x h => hM.chg hc22 x (mr (ml h))) (MS.app (fun x h => hM.chg hc22 x (mr (mr (ml h)))) (fun x h => hM.chg hc22 x (mr (mr (mr (h))))))))
  have hC := hC.trans hc22 (fun x h => .inr (e_i10 x h))
  have hBg9 := qhBg9
  refine seg ha 1 [(0, .slice ao1 a0.length cap1), (2, .pointer (some ⟨g4, 0, none⟩)), (4, .pointer (some ⟨g9, 0, none⟩)), (5, .pointer (some ⟨g16, 0, none⟩)), (15, .int .i64 t22.1), (16, .pointer (some ⟨g16, 1, none⟩))] (by kernel_rfl) fun a ha => ?_
  refine st ha rfl rfl rfl (by kernel_rfl) rfl rfl hBg16 (Nat.le_of_ble_eq_true (by kernel_rfl)) fun a w24 ha hb2 hc25 _ => ?_
  have o1 : Ok [g16] ([g16] ++ ([g9] ++ ([g4] ++ (M)))) w22.heap.size := (fun _ h => .inl (ml h))
  have o2 : Ok ([g16] ++ ([g9] ++ ([g4] ++ (M)))) ([g16] ++ ([g9] ++ ([g4] ++ (M)))) w22.heap.size := (Ok.app (fun _ h => .inl (ml h)) (Ok.app (fun _ h => .inl (mr (ml h))) (Ok.app (fun _ h => .inl (mr (mr (ml h)))) (fun _ h => .inl (mr (mr (mr (h))))))))
  have f1 := f1.chg hc25 o1 o2
  have f23 := f23.chg hc25 o1 o2
  have hBg4 := hBg4.chg hc25 ((fun x (hx : x ∈ [g4]) (hy : x ∈ [g16]) => p_i18_i6 x hy hx) g4 (by simp))
  have hBg9 := hBg9.chg hc25 ((fun x (hx : x ∈ [g9]) (hy : x ∈ [g16]) => p_i18_i10 x hy hx) g9 (by simp))
  have hM : MS ([g16] ++ ([g9] ++ ([g4] ++ (M)))) w24 := (MS.app (fun x h => hM.chg hc25 x (ml h)) (MS.app (fun x h => hM.chg hc25 x (mr (ml h))) (MS.app (fun x h => hM.chg hc25 x (mr (mr (ml h)))) (fun x h => hM.chg hc25 x (mr (mr (mr (h))))))))
  have hC := hC.trans hc25 (fun x h => .inr (e_i18 x h))
  have hBg16 : Box w24 g16 (cS_api_Tunnel (⟨t13.1 == (1 : Int), t22.1, (0 : Int), (⟨(0 : Int), (List.replicate 16 (0 : Int))⟩ : S_api_Addr), ([] : List Int)⟩ : S_api_Tunnel) none 0) := hb2
  refine hK21 _ _ ?_; try clear hK21 K21
  refine wp_seq_k fun K26 hK26 => ?_
  refine wp_region_lit ?_
  refine seg ha 1 [(0, .slice ao1 a0.length cap1), (2, .pointer (some ⟨g4, 0, none⟩)), (4, .pointer (some ⟨g9, 0, none⟩)), (5, .pointer (some ⟨g16, 0, none⟩)), (18, .pointer (some ⟨g9, 0, none⟩))] (by kernel_rfl) fun a ha => ?_
  obtain ⟨t27, H27, H⟩ := bind_some H
  refine cl ha (by rfl) (by kernel_rfl) (by rfl) (by rfl) (by rfl) (cursor_Reader_Take.walk w24 _ hM g9 t22.2 ao23 cap23 f23 hBg9 (mr (ml (List.mem_singleton.2 rfl))) (3 : Int) _ H27) ?_
  rintro _ w27 ⟨ao28, cap28, ao29, cap29, rfl, f28, f29, qhBg9, ne_i28, hc27, hMn⟩ a ha
  have o1 : Ok [g9] ([g16] ++ ([g9] ++ ([g4] ++ (M)))) w24.heap.size := (fun _ h => .inl (mr (ml h)))
  have o2 : Ok (blkL ao28 ++ ([g16] ++ ([g9] ++ ([g4] ++ (M))))) ([g16] ++ ([g9] ++ ([g4] ++ (M)))) w24.heap.size := (Ok.app (fun x h => .inr (ne_i28 x h)) (Ok.app (fun _ h => .inl (ml h)) (Ok.app (fun _ h => .inl (mr (ml h))) (Ok.app (fun _ h => .inl (mr (mr (ml h)))) (fun _ h => .inl (mr (mr (mr (h)))))))))
  have f1 := f1.chg hc27 o1 o2
  have f23 := f23.chg hc27 o1 o2
  have hBg4 := hBg4.chg hc27 ((fun x (hx : x ∈ [g4]) (hy : x ∈ [g9]) => p_i10_i6 x hy hx) g4 (by simp))
  have hBg16 := hBg16.chg hc27 (p_i18_i10 g16 (by simp))
  have nw : Ok (blkL ao28) ([g16] ++ ([g9] ++ ([g4] ++ (M)))) w24.heap.size := (fun x h => .inr (ne_i28 x h))
  have p_i28_i18 : ∀ x ∈ blkL ao28, x ∉ ([g16]) := fun x hx hy => absurd (hM x (ml hy)) (Nat.not_lt.2 (ne_i28 x hx))
  have p_i28_i10 : ∀ x ∈ blkL ao28, x ∉ ([g9]) := fun x hx hy => absurd (hM x (mr (ml hy))) (Nat.not_lt.2 (ne_i28 x hx))
  have p_i28_i6 : ∀ x ∈ blkL ao28, x ∉ ([g4]) := fun x hx hy => absurd (hM x (mr (mr (ml hy)))) (Nat.not_lt.2 (ne_i28 x hx))
  have p_i28_M : ∀ x ∈ blkL ao28, x ∉ M := fun x hx hy => absurd (hM x (mr (mr (mr (hy))))) (Nat.not_lt.2 (ne_i28 x hx))
  have e_i28 : ∀ x ∈ blkL ao28, w.heap.size ≤ x := fun x hx => Nat.le_trans hC.size (ne_i28 x hx)
  have hM : MS (blkL ao28 ++ ([g16] ++ ([g9] ++ ([g4] ++ (M))))) w27 := (MS.app (fun x h => hMn x (ml h)) (MS.app (fun x h => hM.chg hc27 x (ml h)) (MS.app (fun x h => hM.chg hc27 x (mr (ml h))) (MS.app (fun x h => hM.chg hc27 x (mr (mr (ml h)))) (fun x h => hM.chg hc27 x (mr (mr (mr (h)))))))))
  have hC := hC.trans hc27 (fun x h => .inr (e_i10 x h))
  have hBg9 := qhBg9
  have fz := f28.toRSl (M' := [g16] ++ ([g9] ++ ([g4] ++ (M)))) (Ok.app (fun _ h => .inl (mr (ml h))) (Ok.app (fun _ h => .inl (mr (mr (ml h)))) (Ok.app (fun _ h => .inl (mr (mr (mr (ml h))))) (fun _ h => .inl (mr (mr (mr (mr (h))))))))) (fun x hx hm => (List.mem_append.1 hm).elim (fun h => p_i28_i18 x hx h) (fun h => (List.mem_append.1 h).elim (fun h => p_i28_i10 x hx h) (fun h => (List.mem_append.1 h).elim (fun h => p_i28_i6 x hx h) (fun h => p_i28_M x hx h))))
  have o1 : Ok [] (blkL ao28 ++ ([g16] ++ ([g9] ++ ([g4] ++ (M))))) w27.heap.size := Ok.nil _ _
  have o2 : Ok ([g16] ++ ([g9] ++ ([g4] ++ (M)))) (blkL ao28 ++ ([g16] ++ ([g9] ++ ([g4] ++ (M))))) w27.heap.size := (Ok.app (fun _ h => .inl (mr (ml h))) (Ok.app (fun _ h => .inl (mr (mr (ml h)))) (Ok.app (fun _ h => .inl (mr (mr (mr (ml h))))) (fun _ h => .inl (mr (mr (mr (mr (h)))))))))
  have f1 := f1.chg (Chg.refl [] _) o1 o2
  have f29 := f29.chg (Chg.refl [] _) o1 o2
  have hBg4 := hBg4.chg (Chg.refl [] _) (fun h => nomatch h)
  have hBg9 := hBg9.chg (Chg.refl [] _) (fun h => nomatch h)
  have hBg16 := hBg16.chg (Chg.refl [] _) (fun h => nomatch h)
  have hM : MS ([g16] ++ ([g9] ++ ([g4] ++ (M)))) w27 := (MS.app (fun x h => hM.chg (Chg.refl [] _) x (mr (ml h))) (MS.app (fun x h => hM.chg (Chg.refl [] _) x (mr (mr (ml h)))) (MS.app (fun x h => hM.chg (Chg.refl [] _) x (mr (mr (mr (ml h))))) (fun x h => hM.chg (Chg.refl [] _) x (mr (mr (mr (mr (h)))))))))
  have hC := hC.trans (Chg.refl [] _) (Ok.nil _ _)
  have f28 := fz
  obtain ⟨t30, H30, H⟩ := bind_some H
  refine cl ha (by rfl) (by kernel_rfl) (by rfl) (by rfl) (by rfl) (label_Read.walk w27 _ hM t27.1 ao28 cap28 f28 k _ H30) ?_
  rintro _ w30 ⟨rfl, hc30, hMn⟩ a ha
  have o1 : Ok [] ([g16] ++ ([g9] ++ ([g4] ++ (M)))) w27.heap.size := Ok.nil _ _
  have o2 : Ok ([g16] ++ ([g9] ++ ([g4] ++ (M)))) ([g16] ++ ([g9] ++ ([g4] ++ (M)))) w27.heap.size := (Ok.app (fun _ h => .inl (ml h)) (Ok.app (fun _ h => .inl (mr (ml h))) (Ok.app (fun _ h => .inl (mr (mr (ml h)))) (fun _ h => .inl (mr (mr (mr (h))))))))
  have f1 := f1.chg hc30 o1 o2
  have f28 := f28.chg hc30 o1 o2
  have f29 := f29.chg hc30 o1 o2
  have hBg4 := hBg4.chg hc30 (fun h => nomatch h)
  have hBg9 := hBg9.chg hc30 (fun h => nomatch h)
  have hBg16 := hBg16.chg hc30 (fun h => nomatch h)
  have hM : MS ([g16] ++ ([g9] ++ ([g4] ++ (M)))) w30 := (MS.app (fun x h => hM.chg hc30 x (ml h)) (MS.app (fun x h => hM.chg hc30 x (mr (ml h))) (MS.app (fun x h => hM.chg hc30 x (mr (mr (ml h)))) (fun x h => hM.chg hc30 x (mr (mr (mr (h))))))))
  have hC := hC.trans hc30 (Ok.nil _ _)
  refine seg ha 5 [(0, .slice ao1 a0.length cap1), (2, .pointer (some ⟨g4, 0, none⟩)), (4, .pointer (some ⟨g9, 0, none⟩)), (5, .pointer (some ⟨g16, 0, none⟩)), (21, .int .i64 t30.1), (24, .pointer (some ⟨g16, 2, none⟩))] (by kernel_rfl) fun a ha => ?_
  refine st ha rfl rfl rfl (by kernel_rfl) rfl rfl hBg16 (Nat.le_of_ble_eq_true (by kernel_rfl)) fun a w31 ha hb2 hc32 _ => ?_
  have o1 : Ok [g16] ([g16] ++ ([g9] ++ ([g4] ++ (M)))) w30.heap.size := (fun _ h => .inl (ml h))
  have o2 : Ok ([g16] ++ ([g9] ++ ([g4] ++ (M)))) ([g16] ++ ([g9] ++ ([g4] ++ (M)))) w30.heap.size := (Ok.app (fun _ h => .inl (ml h)) (Ok.app (fun _ h => .inl (mr (ml h))) (Ok.app (fun _ h => .inl (mr (mr (ml h)))) (fun _ h => .inl (mr (mr (mr (h))))))))
  have f1 := f1.chg hc32 o1 o2
  have f29 := f29.chg hc32 o1 o2
  have hBg4 := hBg4.chg hc32 ((fun x (hx : x ∈ [g4]) (hy : x ∈ [g16]) => p_i18_i6 x hy hx) g4 (by simp))
  have hBg9 := hBg9.chg hc32 ((fun x (hx : x ∈ [g9]) (hy : x ∈ [g16]) => p_i18_i10 x hy hx) g9 (by simp))
  have hM : MS ([g16] ++ ([g9] ++ ([g4] ++ (M)))) w31 := (MS.app (fun x h => hM.chg hc32 x (ml h)) (MS.app (fun x h => hM.chg hc32 x (mr (ml h))) (MS.app (fun x h => hM.chg hc32 x (mr (mr (ml h)))) (fun x h => hM.chg hc32 x (mr (mr (mr (h))))))))
  have hC := hC.trans hc32 (fun x h => .inr (e_i18 x h))
  have hBg16 : Box w31 g16 (cS_api_Tunnel (⟨t13.1 == (1 : Int), t22.1, t30.1, (⟨(0 : Int), (List.replicate 16 (0 : Int))⟩ : S_api_Addr), ([] : List Int)⟩ : S_api_Tunnel) none 0) := hb2
  refine hK26 _ _ ?_; try clear hK26 K26
  refine wp_seq_k fun K33 hK33 => ?_
  refine wp_seq_k fun K34 hK34 => ?_
  refine wp_region_lit ?_
  refine seg ha 1 [(0, .slice ao1 a0.length cap1), (2, .pointer (some ⟨g4, 0, none⟩)), (4, .pointer (some ⟨g9, 0, none⟩)), (5, .pointer (some ⟨g16, 0, none⟩)), (25, .pointer (some ⟨g16, 1, none⟩))] (by kernel_rfl) fun a ha => ?_
  refine ld (v := .int .i64 t22.1) ha rfl (by kernel_rfl) rfl rfl rfl (hBg16.cell' (o := 1) rfl (by kernel_rfl)) fun a ha => ?_
  refine hK34 _ _ ?_; try clear hK34 K34
  refine wp_block ?_
  refine wp_seq_k fun K35 hK35 => ?_
  refine wp_region_lit ?_
  refine seg ha 2 [(0, .slice ao1 a0.length cap1), (2, .pointer (some ⟨g4, 0, none⟩)), (4, .pointer (some ⟨g9, 0, none⟩)), (5, .pointer (some ⟨g16, 0, none⟩)), (26, .int .i64 t22.1), (34, .bool (t22.1 == (1 : Int)))] (by kernel_rfl) fun a ha => ?_
  refine hK35 _ _ ?_; try clear hK35 K35
  refine cnd ha rfl (fun hc36 => ?_) (fun hc36 => ?_)
  · have H := ite_t hc36 H
    refine wp_seq_k fun K37 hK37 => ?_
    refine wp_region_lit ?_
    refine seg ha 1 [(0, .slice ao1 a0.length cap1), (2, .pointer (some ⟨g4, 0, none⟩)), (4, .pointer (some ⟨g9, 0, none⟩)), (5, .pointer (some ⟨g16, 0, none⟩)), (36, .pointer (some ⟨g9, 0, none⟩))] (by kernel_rfl) fun a ha => ?_
    obtain ⟨t38, H38, H⟩ := bind_some H
    refine cl ha (by rfl) (by kernel_rfl) (by rfl) (by rfl) (by rfl) (cursor_Reader_Take.walk w31 _ hM g9 t27.2 ao29 cap29 f29 hBg9 (mr (ml (List.mem_singleton.2 rfl))) (4 : Int) _ H38) ?_
    rintro _ w38 ⟨ao39, cap39, ao40, cap40, rfl, f39, f40, qhBg9, ne_i39, hc38, hMn⟩ a ha
    have o1 : Ok [g9] ([g16] ++ ([g9] ++ ([g4] ++ (M)))) w31.heap.size := (fun _ h => .inl (mr (ml h)))
    have o2 : Ok (blkL ao39 ++ ([g16] ++ ([g9] ++ ([g4] ++ (M))))) ([g16] ++ ([g9] ++ ([g4] ++ (M)))) w31.heap.size := (Ok.app (fun x h => .inr (ne_i39 x h)) (Ok.app (fun _ h => .inl (ml h)) (Ok.app (fun _ h => .inl (mr (ml h))) (Ok.app (fun _ h => .inl (mr (mr (ml h)))) (fun _ h => .inl (mr (mr (mr (h)))))))))
    have f1 := f1.chg hc38 o1 o2
    have f29 := f29.chg hc38 o1 o2
    have hBg4 := hBg4.chg hc38 ((fun x (hx : x ∈ [g4]) (hy : x ∈ [g9]) => p_i10_i6 x hy hx) g4 (by simp))
    have hBg16 := hBg16.chg hc38 (p_i18_i10 g16 (by simp))
    have nw : Ok (blkL ao39) ([g16] ++ ([g9] ++ ([g4] ++ (M)))) w31.heap.size := (fun x h => .inr (ne_i39 x h))
    have p_i39_i18 : ∀ x ∈ blkL ao39, x ∉ ([g16]) := fun x hx hy => absurd (hM x (ml hy)) (Nat.not_lt.2 (ne_i39 x hx))
    have p_i39_i10 : ∀ x ∈ blkL ao39, x ∉ ([g9]) := fun x hx hy => absurd (hM x (mr (ml hy))) (Nat.not_lt.2 (ne_i39 x hx))
    have p_i39_i6 : ∀ x ∈ blkL ao39, x ∉ ([g4]) := fun x hx hy => absurd (hM x (mr (mr (ml hy)))) (Nat.not_lt.2 (ne_i39 x hx))
    have p_i39_M : ∀ x ∈ blkL ao39, x ∉ M := fun x hx hy => absurd (hM x (mr (mr (mr (hy))))) (Nat.not_lt.2 (ne_i39 x hx))
    have e_i39 : ∀ x ∈ blkL ao39, w.heap.size ≤ x := fun x hx => Nat.le_trans hC.size (ne_i39 x hx)
    have hM : MS (blkL ao39 ++ ([g16] ++ ([g9] ++ ([g4] ++ (M))))) w38 := (MS.app (fun x h => hMn x (ml h)) (MS.app (fun x h => hM.chg hc38 x (ml h)) (MS.app (fun x h => hM.chg hc38 x (mr (ml h))) (MS.app (fun x h => hM.chg hc38 x (mr (mr (ml h)))) (fun x h => hM.chg hc38 x (mr (mr (mr (h)))))))))
    have hC := hC.trans hc38 (fun x h => .inr (e_i10 x h))
    have hBg9 := qhBg9
    refine seg ha 1 [(0, .slice ao1 a0.length cap1), (2, .pointer (some ⟨g4, 0, none⟩)), (4, .pointer (some ⟨g9, 0, none⟩)), (5, .pointer (some ⟨g16, 0, none⟩)), (37, .slice ao39 t38.1.length cap39), (38, .pointer (some ⟨g16, 20, none⟩))] (by kernel_rfl) fun a ha => ?_
    refine st ha rfl rfl rfl (by kernel_rfl) rfl rfl hBg16 (Nat.le_of_ble_eq_true (by kernel_rfl)) fun a w41 ha hb2 hc42 _ => ?_
    have o1 : Ok [g16] (blkL ao39 ++ ([g16] ++ ([g9] ++ ([g4] ++ (M))))) w38.heap.size := (fun _ h => .inl (mr (ml h)))
    have o2 : Ok (blkL ao39 ++ ([g16] ++ ([g9] ++ ([g4] ++ (M))))) (blkL ao39 ++ ([g16] ++ ([g9] ++ ([g4] ++ (M))))) w38.heap.size := (Ok.app (fun _ h => .inl (ml h)) (Ok.app (fun _ h => .inl (mr (ml h))) (Ok.app (fun _ h => .inl (mr (mr (ml h)))) (Ok.app (fun _ h => .inl (mr (mr (mr (ml h))))) (fun _ h => .inl (mr (mr (mr (mr (h))))))))))
    have f1 := f1.chg hc42 o1 o2
    have f39 := f39.chg hc42 o1 o2 p_i39_i18 (fun _ h => ml h)
    have f40 := f40.chg hc42 o1 o2
    have hBg4 := hBg4.chg hc42 ((fun x (hx : x ∈ [g4]) (hy : x ∈ [g16]) => p_i18_i6 x hy hx) g4 (by simp))
    have hBg9 := hBg9.chg hc42 ((fun x (hx : x ∈ [g9]) (hy : x ∈ [g16]) => p_i18_i10 x hy hx) g9 (by simp))
    have hM : MS (blkL ao39 ++ ([g16] ++ ([g9] ++ ([g4] ++ (M))))) w41 := (MS.app (fun x h => hM.chg hc42 x (ml h)) (MS.app (fun x h => hM.chg hc42 x (mr (ml h))) (MS.app (fun x h => hM.chg hc42 x (mr (mr (ml h)))) (MS.app (fun x h => hM.chg hc42 x (mr (mr (mr (ml h))))) (fun x h => hM.chg hc42 x (mr (mr (mr (mr (h))))))))))
    have hC := hC.trans hc42 (fun x h => .inr (e_i18 x h))
    have hBg16 : Box w41 g16 (cS_api_Tunnel (⟨t13.1 == (1 : Int), t22.1, t30.1, (⟨(0 : Int), (List.replicate 16 (0 : Int))⟩ : S_api_Addr), t38.1⟩ : S_api_Tunnel) ao39 cap39) := hb2
    refine hK37 _ _ ?_; try clear hK37 K37
    refine wp_seq_k fun K43 hK43 => ?_
    refine wp_region_lit ?_
    refine seg ha 1 [(0, .slice ao1 a0.length cap1), (2, .pointer (some ⟨g4, 0, none⟩)), (4, .pointer (some ⟨g9, 0, none⟩)), (5, .pointer (some ⟨g16, 0, none⟩)), (39, .pointer (some ⟨g9, 0, none⟩))] (by kernel_rfl) fun a ha => ?_
    obtain ⟨t44, H44, H⟩ := bind_some H
    refine cl ha (by rfl) (by kernel_rfl) (by rfl) (by rfl) (by rfl) (cursor_Reader_Take.walk w41 _ hM g9 t38.2 ao40 cap40 f40 hBg9 (mr (mr (ml (List.mem_singleton.2 rfl)))) (2 : Int) _ H44) ?_
    rintro _ w44 ⟨ao45, cap45, ao46, cap46, rfl, f45, f46, qhBg9, ne_i45, hc44, hMn⟩ a ha
    have o1 : Ok [g9] (blkL ao39 ++ ([g16] ++ ([g9] ++ ([g4] ++ (M))))) w41.heap.size := (fun _ h => .inl (mr (mr (ml h))))
    have o2 : Ok (blkL ao45 ++ (blkL ao39 ++ ([g16] ++ ([g9] ++ ([g4] ++ (M)))))) (blkL ao39 ++ ([g16] ++ ([g9] ++ ([g4] ++ (M))))) w41.heap.size := (Ok.app (fun x h => .inr (ne_i45 x h)) (Ok.app (fun _ h => .inl (ml h)) (Ok.app (fun _ h => .inl (mr (ml h))) (Ok.app (fun _ h => .inl (mr (mr (ml h)))) (Ok.app (fun _ h => .inl (mr (mr (mr (ml h))))) (fun _ h => .inl (mr (mr (mr (mr (h)))))))))))
    have f1 := f1.chg hc44 o1 o2
    have f40 := f40.chg hc44 o1 o2
    have f39 := f39.chg hc44 o1 o2 p_i39_i10 (fun _ h => mr (ml h))
    have hBg4 := hBg4.chg hc44 ((fun x (hx : x ∈ [g4]) (hy : x ∈ [g9]) => p_i10_i6 x hy hx) g4 (by simp))
    have hBg16 := hBg16.chg hc44 (p_i18_i10 g16 (by simp))
    have nw : Ok (blkL ao45) (blkL ao39 ++ ([g16] ++ ([g9] ++ ([g4] ++ (M))))) w41.heap.size := (fun x h => .inr (ne_i45 x h))
    have p_i45_i39 : ∀ x ∈ blkL ao45, x ∉ (blkL ao39) := fun x hx hy => absurd (hM x (ml hy)) (Nat.not_lt.2 (ne_i45 x hx))
    have p_i45_i18 : ∀ x ∈ blkL ao45, x ∉ ([g16]) := fun x hx hy => absurd (hM x (mr (ml hy))) (Nat.not_lt.2 (ne_i45 x hx))
    have p_i45_i10 : ∀ x ∈ blkL ao45, x ∉ ([g9]) := fun x hx hy => absurd (hM x (mr (mr (ml hy)))) (Nat.not_lt.2 (ne_i45 x hx))
    have p_i45_i6 : ∀ x ∈ blkL ao45, x ∉ ([g4]) := fun x hx hy => absurd (hM x (mr (mr (mr (ml hy))))) (Nat.not_lt.2 (ne_i45 x hx))
    have p_i45_M : ∀ x ∈ blkL ao45, x ∉ M := fun x hx hy => absurd (hM x (mr (mr (mr (mr (hy)))))) (Nat.not_lt.2 (ne_i45 x hx))
    have e_i45 : ∀ x ∈ blkL ao45, w.heap.size ≤ x := fun x hx => Nat.le_trans hC.size (ne_i45 x hx)
    have hM : MS (blkL ao45 ++ (blkL ao39 ++ ([g16] ++ ([g9] ++ ([g4] ++ (M)))))) w44 := (MS.app (fun x h => hMn x (ml h)) (MS.app (fun x h => hM.chg hc44 x (ml h)) (MS.app (fun x h => hM.chg hc44 x (mr (ml h))) (MS.app (fun x h => hM.chg hc44 x (mr (mr (ml h)))) (MS.app (fun x h => hM.chg hc44 x (mr (mr (mr (ml h))))) (fun x h => hM.chg hc44 x (mr (mr (mr (mr (h)))))))))))
    have hC := hC.trans hc44 (fun x h => .inr (e_i10 x h))
    have hBg9 := qhBg9
    refine hK43 _ _ ?_; try clear hK43 K43
    refine wp_seq_k fun K47 hK47 => ?_
    have z_f1 := f1
    have z_f46 := f46
    have z_hBg4 := hBg4
    have okS : Ok ([g9] ++ blkL ao39 ++ [g16]) (blkL ao45 ++ (blkL ao39 ++ ([g16] ++ ([g9] ++ ([g4] ++ (M)))))) w44.heap.size := (Ok.app (Ok.app (fun _ h => .inl (mr (mr (mr (ml h))))) (fun _ h => .inl (mr (ml h)))) (fun _ h => .inl (mr (mr (ml h)))))
    refine drw (fun w' => Chg ([g9] ++ blkL ao39 ++ [g16]) w44 w') (by kernel_rfl) fun w48 hc49 _ => ?_
    have hS : Chg ([g9] ++ blkL ao39 ++ [g16]) w44 w48 := (Chg.refl ([g9] ++ blkL ao39 ++ [g16]) _).trans hc49 (Ok.nil _ _)
    have o1 : Ok [] (blkL ao45 ++ (blkL ao39 ++ ([g16] ++ ([g9] ++ ([g4] ++ (M)))))) w44.heap.size := Ok.nil _ _
    have o2 : Ok (blkL ao45 ++ (blkL ao39 ++ ([g16] ++ ([g9] ++ ([g4] ++ (M)))))) (blkL ao45 ++ (blkL ao39 ++ ([g16] ++ ([g9] ++ ([g4] ++ (M)))))) w44.heap.size := (Ok.app (fun _ h => .inl (ml h)) (Ok.app (fun _ h => .inl (mr (ml h))) (Ok.app (fun _ h => .inl (mr (mr (ml h)))) (Ok.app (fun _ h => .inl (mr (mr (mr (ml h))))) (Ok.app (fun _ h => .inl (mr (mr (mr (mr (ml h)))))) (fun _ h => .inl (mr (mr (mr (mr (mr (h))))))))))))
    have f1 := f1.chg hc49 o1 o2
    have f46 := f46.chg hc49 o1 o2
    have f39 := f39.chg hc49 o1 o2 (fun _ _ h => nomatch h) (fun _ h => mr (ml h))
    have hBg4 := hBg4.chg hc49 (fun h => nomatch h)
    have hBg9 := hBg9.chg hc49 (fun h => nomatch h)
    have hBg16 := hBg16.chg hc49 (fun h => nomatch h)
    have hM : MS (blkL ao45 ++ (blkL ao39 ++ ([g16] ++ ([g9] ++ ([g4] ++ (M)))))) w48 := (MS.app (fun x h => hM.chg hc49 x (ml h)) (MS.app (fun x h => hM.chg hc49 x (mr (ml h))) (MS.app (fun x h => hM.chg hc49 x (mr (mr (ml h)))) (MS.app (fun x h => hM.chg hc49 x (mr (mr (mr (ml h))))) (MS.app (fun x h => hM.chg hc49 x (mr (mr (mr (mr (ml h)))))) (fun x h => hM.chg hc49 x (mr (mr (mr (mr (mr (h))))))))))))
    have hC := hC.trans hc49 (Ok.nil _ _)
    obtain ⟨s50, H50, H⟩ := bind_some H
    have J50 : ∀ (a : Act) (w50 : World) (ao51 : Option Addr) (cap51 : Nat) (ao52 : Option Addr) (cap52 : Nat), Has a Tryd.f15.ntmps [(0, .slice ao1 a0.length cap1), (2, .pointer (some ⟨g4, 0, none⟩)), (4, .pointer (some ⟨g9, 0, none⟩)), (5, .pointer (some ⟨g16, 0, none⟩))] → (RSl (rInt .u8) 5 w50 (blkL ao52 ++ ([g16] ++ ([g9] ++ ([g4] ++ (M))))) ao1 cap1 a0) → (RSl (rInt .u8) 5 w50 (blkL ao52 ++ ([g16] ++ ([g9] ++ ([g4] ++ (M))))) ao51 cap51 s50.1) → (Own (rInt .u8) 5 w50 (blkL ao52 ++ ([g16] ++ ([g9] ++ ([g4] ++ (M))))) ao52 cap52 s50.2.2) → (Box w50 g4 (cS_api_Tunnel (⟨false, (0 : Int), (0 : Int), (⟨(0 : Int), (List.replicate 16 (0 : Int))⟩ : S_api_Addr), ([] : List Int)⟩ : S_api_Tunnel) none 0)) → (Box w50 g9 (cS_cursor_Reader (⟨(⟨s50.1, s50.2.1⟩ : S_cursor_rest)⟩ : S_cursor_Reader) ao51 cap51)) → (Box w50 g16 (cS_api_Tunnel (⟨t13.1 == (1 : Int), t22.1, t30.1, (⟨(0 : Int), (List.replicate 16 (0 : Int))⟩ : S_api_Addr), s50.2.2⟩ : S_api_Tunnel) ao52 cap52)) → (∀ x ∈ blkL ao52, w.heap.size ≤ x) → (∀ x ∈ blkL ao52, x ∉ [g16]) → (∀ x ∈ blkL ao52, x ∉ [g9]) → (∀ x ∈ blkL ao52, x ∉ [g4]) → (∀ x ∈ blkL ao52, x ∉ M) → (Chg [] w w50) → (MS (blkL ao52 ++ ([g16] ++ ([g9] ++ ([g4] ++ (M))))) w50) → K47 a w50 := by
      intro a w50 ao51 cap51 ao52 cap52 ha f1 f51 f52 hBg4 hBg9 hBg16 e_i52 p_i52_i18 p_i52_i10 p_i52_i6 p_i52_M hC hM
      refine hK47 _ _ ?_; try clear hK47 K47
      refine wp_region_lit ?_
      refine seg ha 1 [(0, .slice ao1 a0.length cap1), (2, .pointer (some ⟨g4, 0, none⟩)), (4, .pointer (some ⟨g9, 0, none⟩)), (5, .pointer (some ⟨g16, 0, none⟩)), (47, .pointer (some ⟨g9, 0, none⟩))] (by kernel_rfl) fun a ha => ?_
      obtain ⟨t53, H53, H⟩ := bind_some H
      refine cl ha (by rfl) (by kernel_rfl) (by rfl) (by rfl) (by rfl) (pmsi_root.walk w50 _ hM g9 (⟨(⟨s50.1, s50.2.1⟩ : S_cursor_rest)⟩ : S_cursor_Reader) ao51 cap51 f51 hBg9 (mr (mr (ml (List.mem_singleton.2 rfl)))) (4 : Int) _ H53) ?_
      rintro _ w53 ⟨ao54, cap54, rfl, f54, qhBg9, hc53, hMn⟩ a ha
      have o1 : Ok [g9] (blkL ao52 ++ ([g16] ++ ([g9] ++ ([g4] ++ (M))))) w50.heap.size := (fun _ h => .inl (mr (mr (ml h))))
      have o2 : Ok (blkL ao52 ++ ([g16] ++ ([g9] ++ ([g4] ++ (M))))) (blkL ao52 ++ ([g16] ++ ([g9] ++ ([g4] ++ (M))))) w50.heap.size := (Ok.app (fun _ h => .inl (ml h)) (Ok.app (fun _ h => .inl (mr (ml h))) (Ok.app (fun _ h => .inl (mr (mr (ml h)))) (Ok.app (fun _ h => .inl (mr (mr (mr (ml h))))) (fun _ h => .inl (mr (mr (mr (mr (h))))))))))
      have f1 := f1.chg hc53 o1 o2
      have f51 := f51.chg hc53 o1 o2
      have f52 := f52.chg hc53 o1 o2 p_i52_i10 (fun _ h => ml h)
      have hBg4 := hBg4.chg hc53 ((fun x (hx : x ∈ [g4]) (hy : x ∈ [g9]) => p_i10_i6 x hy hx) g4 (by simp))
      have hBg16 := hBg16.chg hc53 (p_i18_i10 g16 (by simp))
      have hM : MS (blkL ao52 ++ ([g16] ++ ([g9] ++ ([g4] ++ (M))))) w53 := (MS.app (fun x h => hM.chg hc53 x (ml h)) (MS.app (fun x h => hM.chg hc53 x (mr (ml h))) (MS.app (fun x h => hM.chg hc53 x (mr (mr (ml h)))) (MS.app (fun x h => hM.chg hc53 x (mr (mr (mr (ml h))))) (fun x h => hM.chg hc53 x (mr (mr (mr (mr (h))))))))))
      have hC := hC.trans hc53 (fun x h => .inr (e_i10 x h))
      have hBg9 := qhBg9
      refine seg ha 1 [(0, .slice ao1 a0.length cap1), (2, .pointer (some ⟨g4, 0, none⟩)), (4, .pointer (some ⟨g9, 0, none⟩)), (5, .pointer (some ⟨g16, 0, none⟩)), (48, .agg (cS_api_Addr t53.1).toArray), (49, .pointer (some ⟨g16, 3, none⟩))] (by kernel_rfl) fun a ha => ?_
      refine stA (l := (cS_api_Addr t53.1)) ha rfl rfl rfl (by kernel_rfl) rfl rfl hBg16 rfl fun a w55 ha hb2 hc56 _ => ?_
      have o1 : Ok [g16] (blkL ao52 ++ ([g16] ++ ([g9] ++ ([g4] ++ (M))))) w53.heap.size := (fun _ h => .inl (mr (ml h)))
      have o2 : Ok (blkL ao52 ++ ([g16] ++ ([g9] ++ ([g4] ++ (M))))) (blkL ao52 ++ ([g16] ++ ([g9] ++ ([g4] ++ (M))))) w53.heap.size := (Ok.app (fun _ h => .inl (ml h)) (Ok.app (fun _ h => .inl (mr (ml h))) (Ok.app (fun _ h => .inl (mr (mr (ml h)))) (Ok.app (fun _ h => .inl (mr (mr (mr (ml h))))) (fun _ h => .inl (mr (mr (mr (mr (h))))))))))
      have f1 := f1.chg hc56 o1 o2
      have f54 := f54.chg hc56 o1 o2
      have f52 := f52.chg hc56 o1 o2 p_i52_i18 (fun _ h => ml h)
      have hBg4 := hBg4.chg hc56 ((fun x (hx : x ∈ [g4]) (hy : x ∈ [g16]) => p_i18_i6 x hy hx) g4 (by simp))
      have hBg9 := hBg9.chg hc56 ((fun x (hx : x ∈ [g9]) (hy : x ∈ [g16]) => p_i18_i10 x hy hx) g9 (by simp))
      have hM : MS (blkL ao52 ++ ([g16] ++ ([g9] ++ ([g4] ++ (M))))) w55 := (MS.app (fun x h => hM.chg hc56 x (ml h)) (MS.app (fun x h => hM.chg hc56 x (mr (ml h))) (MS.app (fun x h => hM.chg hc56 x (mr (mr (ml h)))) (MS.app (fun x h => hM.chg hc56 x (mr (mr (mr (ml h))))) (fun x h => hM.chg hc56 x (mr (mr (mr (mr (h))))))))))
      have hC := hC.trans hc56 (fun x h => .inr (e_i18 x h))
      have hBg16 : Box w55 g16 (cS_api_Tunnel (⟨t13.1 == (1 : Int), t22.1, t30.1, t53.1, s50.2.2⟩ : S_api_Tunnel) ao52 cap52) := hb2
      refine hK33 _ _ ?_; try clear hK33 K33
      refine wp_seq_k fun K57 hK57 => ?_
      refine wp_seq_k fun K58 hK58 => ?_
      refine wp_region_lit ?_
      refine ldA (cs := (cS_api_Tunnel (⟨t13.1 == (1 : Int), t22.1, t30.1, t53.1, s50.2.2⟩ : S_api_Tunnel) ao52 cap52)) ha rfl (by kernel_rfl) rfl rfl rfl (cells_sub (Box.cells hBg16) (all := (cS_api_Tunnel (⟨t13.1 == (1 : Int), t22.1, t30.1, t53.1, s50.2.2⟩ : S_api_Tunnel) ao52 cap52)) [] [] (by kernel_rfl)) fun a ha => ?_
      have fz := f52.toRSl (M' := [g16] ++ ([g9] ++ ([g4] ++ (M)))) (Ok.app (fun _ h => .inl (mr (ml h))) (Ok.app (fun _ h => .inl (mr (mr (ml h)))) (Ok.app (fun _ h => .inl (mr (mr (mr (ml h))))) (fun _ h => .inl (mr (mr (mr (mr (h))))))))) (fun x hx hm => (List.mem_append.1 hm).elim (fun h => p_i52_i18 x hx h) (fun h => (List.mem_append.1 h).elim (fun h => p_i52_i10 x hx h) (fun h => (List.mem_append.1 h).elim (fun h => p_i52_i6 x hx h) (fun h => p_i52_M x hx h))))
      have o1 : Ok [] (blkL ao52 ++ ([g16] ++ ([g9] ++ ([g4] ++ (M))))) w55.heap.size := Ok.nil _ _
      have o2 : Ok ([g16] ++ ([g9] ++ ([g4] ++ (M)))) (blkL ao52 ++ ([g16] ++ ([g9] ++ ([g4] ++ (M))))) w55.heap.size := (Ok.app (fun _ h => .inl (mr (ml h))) (Ok.app (fun _ h => .inl (mr (mr (ml h)))) (Ok.app (fun _ h => .inl (mr (mr (mr (ml h))))) (fun _ h => .inl (mr (mr (mr (mr (h)))))))))
      have f1 := f1.chg (Chg.refl [] _) o1 o2
      have f54 := f54.chg (Chg.refl [] _) o1 o2
      have hBg4 := hBg4.chg (Chg.refl [] _) (fun h => nomatch h)
      have hBg9 := hBg9.chg (Chg.refl [] _) (fun h => nomatch h)
      have hBg16 := hBg16.chg (Chg.refl [] _) (fun h => nomatch h)
      have hM : MS ([g16] ++ ([g9] ++ ([g4] ++ (M)))) w55 := (MS.app (fun x h => hM.chg (Chg.refl [] _) x (mr (ml h))) (MS.app (fun x h => hM.chg (Chg.refl [] _) x (mr (mr (ml h)))) (MS.app (fun x h => hM.chg (Chg.refl [] _) x (mr (mr (mr (ml h))))) (fun x h => hM.chg (Chg.refl [] _) x (mr (mr (mr (mr (h)))))))))
      have hC := hC.trans (Chg.refl [] _) (Ok.nil _ _)
      have f52 := fz
      obtain ⟨t59, H59, H⟩ := bind_some H
      refine cl ha (by rfl) (by kernel_rfl) (by rfl) (by rfl) (by rfl) (pmsi_Bytes.walk w55 _ hM (⟨t13.1 == (1 : Int), t22.1, t30.1, t53.1, s50.2.2⟩ : S_api_Tunnel) ao52 cap52 f52 k _ H59) ?_
      rintro _ w59 ⟨ao60, cap60, rfl, f60, ne_i60, hc59, hMn⟩ a ha
      have o1 : Ok [] ([g16] ++ ([g9] ++ ([g4] ++ (M)))) w55.heap.size := Ok.nil _ _
      have o2 : Ok (blkL ao60 ++ ([g16] ++ ([g9] ++ ([g4] ++ (M))))) ([g16] ++ ([g9] ++ ([g4] ++ (M)))) w55.heap.size := (Ok.app (fun x h => .inr (ne_i60 x h)) (Ok.app (fun _ h => .inl (ml h)) (Ok.app (fun _ h => .inl (mr (ml h))) (Ok.app (fun _ h => .inl (mr (mr (ml h)))) (fun _ h => .inl (mr (mr (mr (h)))))))))
      have f1 := f1.chg hc59 o1 o2
      have f52 := f52.chg hc59 o1 o2
      have f54 := f54.chg hc59 o1 o2
      have hBg4 := hBg4.chg hc59 (fun h => nomatch h)
      have hBg9 := hBg9.chg hc59 (fun h => nomatch h)
      have hBg16 := hBg16.chg hc59 (fun h => nomatch h)
      have nw : Ok (blkL ao60) ([g16] ++ ([g9] ++ ([g4] ++ (M)))) w55.heap.size := (fun x h => .inr (ne_i60 x h))
      have p_i60_i18 : ∀ x ∈ blkL ao60, x ∉ ([g16]) := fun x hx hy => absurd (hM x (ml hy)) (Nat.not_lt.2 (ne_i60 x hx))
      have p_i60_i10 : ∀ x ∈ blkL ao60, x ∉ ([g9]) := fun x hx hy => absurd (hM x (mr (ml hy))) (Nat.not_lt.2 (ne_i60 x hx))
      have p_i60_i6 : ∀ x ∈ blkL ao60, x ∉ ([g4]) := fun x hx hy => absurd (hM x (mr (mr (ml hy)))) (Nat.not_lt.2 (ne_i60 x hx))
      have p_i60_M : ∀ x ∈ blkL ao60, x ∉ M := fun x hx hy => absurd (hM x (mr (mr (mr (hy))))) (Nat.not_lt.2 (ne_i60 x hx))
      have e_i60 : ∀ x ∈ blkL ao60, w.heap.size ≤ x := fun x hx => Nat.le_trans hC.size (ne_i60 x hx)
      have hM : MS (blkL ao60 ++ ([g16] ++ ([g9] ++ ([g4] ++ (M))))) w59 := (MS.app (fun x h => hMn x (ml h)) (MS.app (fun x h => hM.chg hc59 x (ml h)) (MS.app (fun x h => hM.chg hc59 x (mr (ml h))) (MS.app (fun x h => hM.chg hc59 x (mr (mr (ml h)))) (fun x h => hM.chg hc59 x (mr (mr (mr (h)))))))))
      have hC := hC.trans hc59 (Ok.nil _ _)
      refine seg ha 5 [(0, .slice ao1 a0.length cap1), (2, .pointer (some ⟨g4, 0, none⟩)), (4, .pointer (some ⟨g9, 0, none⟩)), (5, .pointer (some ⟨g16, 0, none⟩)), (6, .slice ao60 t59.1.length cap60), (7, .int .i64 t59.2)] (by kernel_rfl) fun a ha => ?_
      refine hK58 _ _ ?_; try clear hK58 K58
      refine wp_seq_k fun K61 hK61 => ?_
      refine wp_region_lit ?_
      obtain ⟨s62, H62, H⟩ := bind_some H
      have J62 : ∀ (a : Act) (w62 : World), Has a Tryd.f15.ntmps [(2, .pointer (some ⟨g4, 0, none⟩)), (5, .pointer (some ⟨g16, 0, none⟩)), (102, .bool s62)] → (RSl (rInt .u8) 5 w62 ([g16] ++ ([g9] ++ ([g4] ++ (M)))) ao54 cap54 t53.2.rest.left) → (RSl (rInt .u8) 5 w62 ([g16] ++ ([g9] ++ ([g4] ++ (M)))) ao52 cap52 s50.2.2) → (Box w62 g4 (cS_api_Tunnel (⟨false, (0 : Int), (0 : Int), (⟨(0 : Int), (List.replicate 16 (0 : Int))⟩ : S_api_Addr), ([] : List Int)⟩ : S_api_Tunnel) none 0)) → (Box w62 g9 (cS_cursor_Reader t53.2 ao54 cap54)) → (Box w62 g16 (cS_api_Tunnel (⟨t13.1 == (1 : Int), t22.1, t30.1, t53.1, s50.2.2⟩ : S_api_Tunnel) ao52 cap52)) → (Chg [] w w62) → (MS ([g16] ++ ([g9] ++ ([g4] ++ (M)))) w62) → K61 a w62 := by
        intro a w62 ha f54 f52 hBg4 hBg9 hBg16 hC hM
        refine hK61 _ _ ?_; try clear hK61 K61
        refine cnd ha rfl (fun hc63 => ?_) (fun hc63 => ?_)
        · have H := ite_t hc63 H
          refine wp_seq_k fun K64 hK64 => ?_
          refine wp_region_lit ?_
          refine opk (v := .agg (cS_api_Tunnel (⟨false, (0 : Int), (0 : Int), (⟨(0 : Int), (List.replicate 16 (0 : Int))⟩ : S_api_Addr), ([] : List Int)⟩ : S_api_Tunnel) none 0).toArray) ha rfl rfl rfl rfl rfl (fun w => by kernel_rfl) fun a ha => ?_
          refine stA (l := (cS_api_Tunnel (⟨false, (0 : Int), (0 : Int), (⟨(0 : Int), (List.replicate 16 (0 : Int))⟩ : S_api_Addr), ([] : List Int)⟩ : S_api_Tunnel) none 0)) ha rfl rfl rfl (by kernel_rfl) rfl rfl hBg4 rfl fun a w65 ha hb2 hc66 _ => ?_
          have o1 : Ok [g4] ([g16] ++ ([g9] ++ ([g4] ++ (M)))) w62.heap.size := (fun _ h => .inl (mr (mr (ml h))))
          have o2 : Ok ([g16] ++ ([g9] ++ ([g4] ++ (M)))) ([g16] ++ ([g9] ++ ([g4] ++ (M)))) w62.heap.size := (Ok.app (fun _ h => .inl (ml h)) (Ok.app (fun _ h => .inl (mr (ml h))) (Ok.app (fun _ h => .inl (mr (mr (ml h)))) (fun _ h => .inl (mr (mr (mr (h))))))))
          have f54 := f54.chg hc66 o1 o2
          have f52 := f52.chg hc66 o1 o2
          have hBg9 := hBg9.chg hc66 (p_i10_i6 g9 (by simp))
          have hBg16 := hBg16.chg hc66 (p_i18_i6 g16 (by simp))
          have hM : MS ([g16] ++ ([g9] ++ ([g4] ++ (M)))) w65 := (MS.app (fun x h => hM.chg hc66 x (ml h)) (MS.app (fun x h => hM.chg hc66 x (mr (ml h))) (MS.app (fun x h => hM.chg hc66 x (mr (mr (ml h)))) (fun x h => hM.chg hc66 x (mr (mr (mr (h))))))))
          have hC := hC.trans hc66 (fun x h => .inr (e_i6 x h))
          have hBg4 : Box w65 g4 (cS_api_Tunnel (⟨false, (0 : Int), (0 : Int), (⟨(0 : Int), (List.replicate 16 (0 : Int))⟩ : S_api_Addr), ([] : List Int)⟩ : S_api_Tunnel) none 0) := hb2
          refine seg ha 1 [(2, .pointer (some ⟨g4, 0, none⟩)), (3, .int .i64 (4 : Int))] (by kernel_rfl) fun a ha => ?_
          refine hK64 _ _ ?_; try clear hK64 K64
          refine wp_ret ?_
          try simp only [Exit.then, Exit.inBlock]
          have o1 : Ok [] ([g16] ++ ([g9] ++ ([g4] ++ (M)))) w65.heap.size := Ok.nil _ _
          have o2 : Ok (M) ([g16] ++ ([g9] ++ ([g4] ++ (M)))) w65.heap.size := (fun _ h => .inl (mr (mr (mr (h)))))
          have f54 := f54.chg (Chg.refl [] _) o1 o2
          have f52 := f52.chg (Chg.refl [] _) o1 o2
          have hBg4 := hBg4.chg (Chg.refl [] _) (fun h => nomatch h)
          have hBg9 := hBg9.chg (Chg.refl [] _) (fun h => nomatch h)
          have hBg16 := hBg16.chg (Chg.refl [] _) (fun h => nomatch h)
          have hM : MS (M) w65 := (fun x h => hM.chg (Chg.refl [] _) x (mr (mr (mr (h)))))
          have hC := hC.trans (Chg.refl [] _) (Ok.nil _ _)
          obtain rfl := Option.some.inj H
          refine rtr ha (res2 rfl (roA ha rfl hBg4 (by kernel_rfl)) (roT ha rfl)) ?_
          exact ⟨none, 0, rfl, (RSl.nil (Nat.zero_le _)), hC, hM⟩
        · have H := ite_f hc63 H
          refine wp_skip ?_
          refine hK57 _ _ ?_; try clear hK57 K57
          refine wp_seq_k fun K67 hK67 => ?_
          refine wp_region_lit ?_
          refine ldA (cs := (cS_api_Tunnel (⟨t13.1 == (1 : Int), t22.1, t30.1, t53.1, s50.2.2⟩ : S_api_Tunnel) ao52 cap52)) ha rfl (by kernel_rfl) rfl rfl rfl (cells_sub (Box.cells hBg16) (all := (cS_api_Tunnel (⟨t13.1 == (1 : Int), t22.1, t30.1, t53.1, s50.2.2⟩ : S_api_Tunnel) ao52 cap52)) [] [] (by kernel_rfl)) fun a ha => ?_
          refine stA (l := (cS_api_Tunnel (⟨t13.1 == (1 : Int), t22.1, t30.1, t53.1, s50.2.2⟩ : S_api_Tunnel) ao52 cap52)) ha rfl rfl rfl (by kernel_rfl) rfl rfl hBg4 rfl fun a w68 ha hb2 hc69 _ => ?_
          have o1 : Ok [g4] ([g16] ++ ([g9] ++ ([g4] ++ (M)))) w62.heap.size := (fun _ h => .inl (mr (mr (ml h))))
          have o2 : Ok ([g16] ++ ([g9] ++ ([g4] ++ (M)))) ([g16] ++ ([g9] ++ ([g4] ++ (M)))) w62.heap.size := (Ok.app (fun _ h => .inl (ml h)) (Ok.app (fun _ h => .inl (mr (ml h))) (Ok.app (fun _ h => .inl (mr (mr (ml h)))) (fun _ h => .inl (mr (mr (mr (h))))))))
          have f52 := f52.chg hc69 o1 o2
          have f54 := f54.chg hc69 o1 o2
          have hBg9 := hBg9.chg hc69 (p_i10_i6 g9 (by simp))
          have hBg16 := hBg16.chg hc69 (p_i18_i6 g16 (by simp))
          have hM : MS ([g16] ++ ([g9] ++ ([g4] ++ (M)))) w68 := (MS.app (fun x h => hM.chg hc69 x (ml h)) (MS.app (fun x h => hM.chg hc69 x (mr (ml h))) (MS.app (fun x h => hM.chg hc69 x (mr (mr (ml h)))) (fun x h => hM.chg hc69 x (mr (mr (mr (h))))))))
          have hC := hC.trans hc69 (fun x h => .inr (e_i6 x h))
          have hBg4 : Box w68 g4 (cS_api_Tunnel (⟨t13.1 == (1 : Int), t22.1, t30.1, t53.1, s50.2.2⟩ : S_api_Tunnel) ao52 cap52) := hb2
          refine seg ha 1 [(2, .pointer (some ⟨g4, 0, none⟩)), (3, .int .i64 (0 : Int))] (by kernel_rfl) fun a ha => ?_
          refine hK67 _ _ ?_; try clear hK67 K67
          refine wp_ret ?_
          try simp only [Exit.then, Exit.inBlock]
          have o1 : Ok [] ([g16] ++ ([g9] ++ ([g4] ++ (M)))) w68.heap.size := Ok.nil _ _
          have o2 : Ok (M) ([g16] ++ ([g9] ++ ([g4] ++ (M)))) w68.heap.size := (fun _ h => .inl (mr (mr (mr (h)))))
          have f52 := f52.chg (Chg.refl [] _) o1 o2
          have f54 := f54.chg (Chg.refl [] _) o1 o2
          have hBg4 := hBg4.chg (Chg.refl [] _) (fun h => nomatch h)
          have hBg9 := hBg9.chg (Chg.refl [] _) (fun h => nomatch h)
          have hBg16 := hBg16.chg (Chg.refl [] _) (fun h => nomatch h)
          have hM : MS (M) w68 := (fun x h => hM.chg (Chg.refl [] _) x (mr (mr (mr (h)))))
          have hC := hC.trans (Chg.refl [] _) (Ok.nil _ _)
          obtain rfl := Option.some.inj H
          refine rtr ha (res2 rfl (roA ha rfl hBg4 (by kernel_rfl)) (roT ha rfl)) ?_
          exact ⟨ao52, cap52, rfl, f52, hC, hM⟩
      have H := H62
      refine seg ha 3 [(0, .slice ao1 a0.length cap1), (2, .pointer (some ⟨g4, 0, none⟩)), (5, .pointer (some ⟨g16, 0, none⟩)), (6, .slice ao60 t59.1.length cap60), (7, .int .i64 t59.2), (91, .pointer (some ⟨g9, 0, none⟩))] (by kernel_rfl) fun a ha => ?_
      obtain ⟨t70, H70, H⟩ := bind_some H
      refine cl ha (by rfl) (by kernel_rfl) (by rfl) (by rfl) (by rfl) (cursor_rest_Bad.walk w59 _ hM g9 t53.2.rest ao54 cap54 f54 hBg9 (mr (mr (ml (List.mem_singleton.2 rfl)))) _ H70) ?_
      rintro _ w70 ⟨rfl, hc70, hMn⟩ a ha
      have o1 : Ok [] (blkL ao60 ++ ([g16] ++ ([g9] ++ ([g4] ++ (M))))) w59.heap.size := Ok.nil _ _
      have o2 : Ok (blkL ao60 ++ ([g16] ++ ([g9] ++ ([g4] ++ (M))))) (blkL ao60 ++ ([g16] ++ ([g9] ++ ([g4] ++ (M))))) w59.heap.size := (Ok.app (fun _ h => .inl (ml h)) (Ok.app (fun _ h => .inl (mr (ml h))) (Ok.app (fun _ h => .inl (mr (mr (ml h)))) (Ok.app (fun _ h => .inl (mr (mr (mr (ml h))))) (fun _ h => .inl (mr (mr (mr (mr (h))))))))))
      have f1 := f1.chg hc70 o1 o2
      have f60 := f60.chg hc70 o1 o2 (fun _ _ h => nomatch h) (fun _ h => ml h)
      have f54 := f54.chg hc70 o1 o2
      have f52 := f52.chg hc70 o1 o2
      have hBg4 := hBg4.chg hc70 (fun h => nomatch h)
      have hBg9 := hBg9.chg hc70 (fun h => nomatch h)
      have hBg16 := hBg16.chg hc70 (fun h => nomatch h)
      have hM : MS (blkL ao60 ++ ([g16] ++ ([g9] ++ ([g4] ++ (M))))) w70 := (MS.app (fun x h => hM.chg hc70 x (ml h)) (MS.app (fun x h => hM.chg hc70 x (mr (ml h))) (MS.app (fun x h => hM.chg hc70 x (mr (mr (ml h)))) (MS.app (fun x h => hM.chg hc70 x (mr (mr (mr (ml h))))) (fun x h => hM.chg hc70 x (mr (mr (mr (mr (h))))))))))
      have hC := hC.trans hc70 (Ok.nil _ _)
      refine seg ha 1 [(93, .bool t70), (0, .slice ao1 a0.length cap1), (2, .pointer (some ⟨g4, 0, none⟩)), (5, .pointer (some ⟨g16, 0, none⟩)), (6, .slice ao60 t59.1.length cap60), (7, .int .i64 t59.2)] (by kernel_rfl) fun a ha => ?_
      rcases Bool.eq_false_or_eq_true (t70) with hb71 | hb71
      · have ha := ha.lit hb71
        have H := ite_t hb71 H
        refine sgh ha 9 [1, 1, 3, 0, 1, 1, 1, 1, 3] [(2, .pointer (some ⟨g4, 0, none⟩)), (5, .pointer (some ⟨g16, 0, none⟩)), (102, .bool true)] (by kernel_rfl) fun a ha => ?_
        obtain rfl := Option.some.inj H
        have o1 : Ok [] (blkL ao60 ++ ([g16] ++ ([g9] ++ ([g4] ++ (M))))) w70.heap.size := Ok.nil _ _
        have o2 : Ok ([g16] ++ ([g9] ++ ([g4] ++ (M)))) (blkL ao60 ++ ([g16] ++ ([g9] ++ ([g4] ++ (M))))) w70.heap.size := (Ok.app (fun _ h => .inl (mr (ml h))) (Ok.app (fun _ h => .inl (mr (mr (ml h)))) (Ok.app (fun _ h => .inl (mr (mr (mr (ml h))))) (fun _ h => .inl (mr (mr (mr (mr (h)))))))))
        have f54 := f54.chg (Chg.refl [] _) o1 o2
        have f52 := f52.chg (Chg.refl [] _) o1 o2
        have hBg4 := hBg4.chg (Chg.refl [] _) (fun h => nomatch h)
        have hBg9 := hBg9.chg (Chg.refl [] _) (fun h => nomatch h)
        have hBg16 := hBg16.chg (Chg.refl [] _) (fun h => nomatch h)
        have hM : MS ([g16] ++ ([g9] ++ ([g4] ++ (M)))) w70 := (MS.app (fun x h => hM.chg (Chg.refl [] _) x (mr (ml h))) (MS.app (fun x h => hM.chg (Chg.refl [] _) x (mr (mr (ml h)))) (MS.app (fun x h => hM.chg (Chg.refl [] _) x (mr (mr (mr (ml h))))) (fun x h => hM.chg (Chg.refl [] _) x (mr (mr (mr (mr (h)))))))))
        have hC := hC.trans (Chg.refl [] _) (Ok.nil _ _)
        exact J62 _ _ (ha.sel (by kernel_rfl)) f54 f52 hBg4 hBg9 hBg16 hC hM
      · have ha := ha.lit hb71
        have H := ite_f hb71 H
        refine sgh ha 4 [2, 2, 4, 0] [(97, .bool (t59.2 != (0 : Int))), (0, .slice ao1 a0.length cap1), (2, .pointer (some ⟨g4, 0, none⟩)), (5, .pointer (some ⟨g16, 0, none⟩)), (6, .slice ao60 t59.1.length cap60)] (by kernel_rfl) fun a ha => ?_
        rcases Bool.eq_false_or_eq_true (t59.2 != (0 : Int)) with hb72 | hb72
        · have ha := ha.lit hb72
          have H := ite_t hb72 H
          refine sgh ha 5 [1, 1, 1, 1, 3] [(2, .pointer (some ⟨g4, 0, none⟩)), (5, .pointer (some ⟨g16, 0, none⟩)), (102, .bool true)] (by kernel_rfl) fun a ha => ?_
          obtain rfl := Option.some.inj H
          have o1 : Ok [] (blkL ao60 ++ ([g16] ++ ([g9] ++ ([g4] ++ (M))))) w70.heap.size := Ok.nil _ _
          have o2 : Ok ([g16] ++ ([g9] ++ ([g4] ++ (M)))) (blkL ao60 ++ ([g16] ++ ([g9] ++ ([g4] ++ (M))))) w70.heap.size := (Ok.app (fun _ h => .inl (mr (ml h))) (Ok.app (fun _ h => .inl (mr (mr (ml h)))) (Ok.app (fun _ h => .inl (mr (mr (mr (ml h))))) (fun _ h => .inl (mr (mr (mr (mr (h)))))))))
          have f54 := f54.chg (Chg.refl [] _) o1 o2
          have f52 := f52.chg (Chg.refl [] _) o1 o2
          have hBg4 := hBg4.chg (Chg.refl [] _) (fun h => nomatch h)
          have hBg9 := hBg9.chg (Chg.refl [] _) (fun h => nomatch h)
          have hBg16 := hBg16.chg (Chg.refl [] _) (fun h => nomatch h)
          have hM : MS ([g16] ++ ([g9] ++ ([g4] ++ (M)))) w70 := (MS.app (fun x h => hM.chg (Chg.refl [] _) x (mr (ml h))) (MS.app (fun x h => hM.chg (Chg.refl [] _) x (mr (mr (ml h)))) (MS.app (fun x h => hM.chg (Chg.refl [] _) x (mr (mr (mr (ml h))))) (fun x h => hM.chg (Chg.refl [] _) x (mr (mr (mr (mr (h)))))))))
          have hC := hC.trans (Chg.refl [] _) (Ok.nil _ _)
          exact J62 _ _ (ha.sel (by kernel_rfl)) f54 f52 hBg4 hBg9 hBg16 hC hM
        · have ha := ha.lit hb72
          have H := ite_f hb72 H
          refine sgh ha 2 [2, 2] [(2, .pointer (some ⟨g4, 0, none⟩)), (5, .pointer (some ⟨g16, 0, none⟩)), (97, .bool false), (98, .slice ao60 t59.1.length cap60), (99, .slice ao1 a0.length cap1)] (by kernel_rfl) fun a ha => ?_
          have fz := f60.toRSl (M' := [g16] ++ ([g9] ++ ([g4] ++ (M)))) (Ok.app (fun _ h => .inl (mr (ml h))) (Ok.app (fun _ h => .inl (mr (mr (ml h)))) (Ok.app (fun _ h => .inl (mr (mr (mr (ml h))))) (fun _ h => .inl (mr (mr (mr (mr (h))))))))) (fun x hx hm => (List.mem_append.1 hm).elim (fun h => p_i60_i18 x hx h) (fun h => (List.mem_append.1 h).elim (fun h => p_i60_i10 x hx h) (fun h => (List.mem_append.1 h).elim (fun h => p_i60_i6 x hx h) (fun h => p_i60_M x hx h))))
          have o1 : Ok [] (blkL ao60 ++ ([g16] ++ ([g9] ++ ([g4] ++ (M))))) w70.heap.size := Ok.nil _ _
          have o2 : Ok ([g16] ++ ([g9] ++ ([g4] ++ (M)))) (blkL ao60 ++ ([g16] ++ ([g9] ++ ([g4] ++ (M))))) w70.heap.size := (Ok.app (fun _ h => .inl (mr (ml h))) (Ok.app (fun _ h => .inl (mr (mr (ml h)))) (Ok.app (fun _ h => .inl (mr (mr (mr (ml h))))) (fun _ h => .inl (mr (mr (mr (mr (h)))))))))
          have f1 := f1.chg (Chg.refl [] _) o1 o2
          have f54 := f54.chg (Chg.refl [] _) o1 o2
          have f52 := f52.chg (Chg.refl [] _) o1 o2
          have hBg4 := hBg4.chg (Chg.refl [] _) (fun h => nomatch h)
          have hBg9 := hBg9.chg (Chg.refl [] _) (fun h => nomatch h)
          have hBg16 := hBg16.chg (Chg.refl [] _) (fun h => nomatch h)
          have hM : MS ([g16] ++ ([g9] ++ ([g4] ++ (M)))) w70 := (MS.app (fun x h => hM.chg (Chg.refl [] _) x (mr (ml h))) (MS.app (fun x h => hM.chg (Chg.refl [] _) x (mr (mr (ml h)))) (MS.app (fun x h => hM.chg (Chg.refl [] _) x (mr (mr (mr (ml h))))) (fun x h => hM.chg (Chg.refl [] _) x (mr (mr (mr (mr (h)))))))))
          have hC := hC.trans (Chg.refl [] _) (Ok.nil _ _)
          have f60 := fz
          obtain ⟨t73, H73, H⟩ := bind_some H
          refine cl ha (by rfl) (by kernel_rfl) (by rfl) (by rfl) (by rfl) (bytes_Equal.walk w70 _ hM t59.1 ao60 cap60 f60 a0 ao1 cap1 f1 _ H73) ?_
          rintro _ w73 ⟨rfl, hc73, hMn⟩ a ha
          have o1 : Ok [] ([g16] ++ ([g9] ++ ([g4] ++ (M)))) w70.heap.size := Ok.nil _ _
          have o2 : Ok ([g16] ++ ([g9] ++ ([g4] ++ (M)))) ([g16] ++ ([g9] ++ ([g4] ++ (M)))) w70.heap.size := (Ok.app (fun _ h => .inl (ml h)) (Ok.app (fun _ h => .inl (mr (ml h))) (Ok.app (fun _ h => .inl (mr (mr (ml h)))) (fun _ h => .inl (mr (mr (mr (h))))))))
          have f60 := f60.chg hc73 o1 o2
          have f1 := f1.chg hc73 o1 o2
          have f54 := f54.chg hc73 o1 o2
          have f52 := f52.chg hc73 o1 o2
          have hBg4 := hBg4.chg hc73 (fun h => nomatch h)
          have hBg9 := hBg9.chg hc73 (fun h => nomatch h)
          have hBg16 := hBg16.chg hc73 (fun h => nomatch h)
          have hM : MS ([g16] ++ ([g9] ++ ([g4] ++ (M)))) w73 := (MS.app (fun x h => hM.chg hc73 x (ml h)) (MS.app (fun x h => hM.chg hc73 x (mr (ml h))) (MS.app (fun x h => hM.chg hc73 x (mr (mr (ml h)))) (fun x h => hM.chg hc73 x (mr (mr (mr (h))))))))
          have hC := hC.trans hc73 (Ok.nil _ _)
          refine sgh ha 2 [2, 4] [(2, .pointer (some ⟨g4, 0, none⟩)), (5, .pointer (some ⟨g16, 0, none⟩)), (102, .bool (!t73))] (by kernel_rfl) fun a ha => ?_
          obtain rfl := Option.some.inj H
          exact J62 _ _ (ha.sel (by kernel_rfl)) f54 f52 hBg4 hBg9 hBg16 hC hM
    have H := H50
    refine tkp 0 0 (.pointer (some ⟨g16, 20, none⟩)) ha (by rfl) (by kernel_rfl) (by kernel_rfl) (by kernel_rfl) (by rfl) (by rfl) (by rfl) (by exact fun _ _ _ h => h) (by kernel_rfl) hS fun a ha => ?_
    refine tkp 2 0 (.pointer (some ⟨g9, 0, none⟩)) ha (by rfl) (by kernel_rfl) (by kernel_rfl) (by kernel_rfl) (by rfl) (by rfl) (by rfl) (by exact fun _ _ _ h => h) (by kernel_rfl) hS fun a ha => ?_
    refine acs [1, 3] (by kernel_rfl) (by simp) fun i hi => ?_
    simp only [List.mem_cons, List.not_mem_nil, or_false] at hi
    rcases hi with rfl | rfl
    · refine ⟨_, rfl, fun K74 hK74 => ?_⟩
      refine ld (v := .slice ao39 t38.1.length cap39) ha rfl (by kernel_rfl) rfl rfl rfl (hBg16.cell' (o := 20) rfl (by kernel_rfl)) fun a ha => ?_
      refine ae hK74 hS ?_; clear hK74 K74
      refine ac 3 (by kernel_rfl) (by rfl) fun K75 hK75 => ?_
      obtain ⟨t76, H76, H⟩ := bind_some H
      refine cl ha (by rfl) (by kernel_rfl) (by rfl) (by rfl) (by rfl) (cursor_Reader_Take.walk w48 _ hM g9 t44.2 ao46 cap46 f46 hBg9 (mr (mr (mr (ml (List.mem_singleton.2 rfl))))) (2 : Int) _ H76) ?_
      rintro _ w76 ⟨ao77, cap77, ao78, cap78, rfl, f77, f78, qhBg9, ne_iD000077, hc76, hMn⟩ a ha
      have o1 : Ok [g9] (blkL ao45 ++ (blkL ao39 ++ ([g16] ++ ([g9] ++ ([g4] ++ (M)))))) w48.heap.size := (fun _ h => .inl (mr (mr (mr (ml h)))))
      have o2 : Ok (blkL ao77 ++ (blkL ao45 ++ (blkL ao39 ++ ([g16] ++ ([g9] ++ ([g4] ++ (M))))))) (blkL ao45 ++ (blkL ao39 ++ ([g16] ++ ([g9] ++ ([g4] ++ (M)))))) w48.heap.size := (Ok.app (fun x h => .inr (ne_iD000077 x h)) (Ok.app (fun _ h => .inl (ml h)) (Ok.app (fun _ h => .inl (mr (ml h))) (Ok.app (fun _ h => .inl (mr (mr (ml h)))) (Ok.app (fun _ h => .inl (mr (mr (mr (ml h))))) (Ok.app (fun _ h => .inl (mr (mr (mr (mr (ml h)))))) (fun _ h => .inl (mr (mr (mr (mr (mr (h)))))))))))))
      have f1 := f1.chg hc76 o1 o2
      have f39 := f39.chg hc76 o1 o2 p_i39_i10 (fun _ h => mr (mr (ml h)))
      have f46 := f46.chg hc76 o1 o2
      have hBg4 := hBg4.chg hc76 ((fun x (hx : x ∈ [g4]) (hy : x ∈ [g9]) => p_i10_i6 x hy hx) g4 (by simp))
      have hBg16 := hBg16.chg hc76 (p_i18_i10 g16 (by simp))
      have nw : Ok (blkL ao77) (blkL ao45 ++ (blkL ao39 ++ ([g16] ++ ([g9] ++ ([g4] ++ (M)))))) w48.heap.size := (fun x h => .inr (ne_iD000077 x h))
      have p_iD000077_i45 : ∀ x ∈ blkL ao77, x ∉ (blkL ao45) := fun x hx hy => absurd (hM x (ml hy)) (Nat.not_lt.2 (ne_iD000077 x hx))
      have p_iD000077_i39 : ∀ x ∈ blkL ao77, x ∉ (blkL ao39) := fun x hx hy => absurd (hM x (mr (ml hy))) (Nat.not_lt.2 (ne_iD000077 x hx))
      have p_iD000077_i18 : ∀ x ∈ blkL ao77, x ∉ ([g16]) := fun x hx hy => absurd (hM x (mr (mr (ml hy)))) (Nat.not_lt.2 (ne_iD000077 x hx))
      have p_iD000077_i10 : ∀ x ∈ blkL ao77, x ∉ ([g9]) := fun x hx hy => absurd (hM x (mr (mr (mr (ml hy))))) (Nat.not_lt.2 (ne_iD000077 x hx))
      have p_iD000077_i6 : ∀ x ∈ blkL ao77, x ∉ ([g4]) := fun x hx hy => absurd (hM x (mr (mr (mr (mr (ml hy)))))) (Nat.not_lt.2 (ne_iD000077 x hx))
      have p_iD000077_M : ∀ x ∈ blkL ao77, x ∉ M := fun x hx hy => absurd (hM x (mr (mr (mr (mr (mr (hy))))))) (Nat.not_lt.2 (ne_iD000077 x hx))
      have e_iD000077 : ∀ x ∈ blkL ao77, w.heap.size ≤ x := fun x hx => Nat.le_trans hC.size (ne_iD000077 x hx)
      have hM : MS (blkL ao77 ++ (blkL ao45 ++ (blkL ao39 ++ ([g16] ++ ([g9] ++ ([g4] ++ (M))))))) w76 := (MS.app (fun x h => hMn x (ml h)) (MS.app (fun x h => hM.chg hc76 x (ml h)) (MS.app (fun x h => hM.chg hc76 x (mr (ml h))) (MS.app (fun x h => hM.chg hc76 x (mr (mr (ml h)))) (MS.app (fun x h => hM.chg hc76 x (mr (mr (mr (ml h))))) (MS.app (fun x h => hM.chg hc76 x (mr (mr (mr (mr (ml h)))))) (fun x h => hM.chg hc76 x (mr (mr (mr (mr (mr (h)))))))))))))
      have hC := hC.trans hc76 (fun x h => .inr (e_i10 x h))
      have d_iD000077 : Ok (blkL ao77) ([g9] ++ blkL ao39 ++ [g16]) w44.heap.size := fun x hx => .inr (Nat.le_trans hS.size (ne_iD000077 x hx))
      have hS := hS.trans hc76 (fun x h => .inl ((List.mem_append_left _ (List.mem_append_left _ h))))
      have hBg9 := qhBg9
      refine ae hK75 hS ?_; clear hK75 K75
      refine ac 4 (by kernel_rfl) (by rfl) fun K79 hK79 => ?_
      obtain ⟨hx80, H⟩ := ite_some H
      refine app (r := (rInt .u8)) (xs := t38.1) (ys := t76.1) ha (ElemT.mk' (bytes := 1) (by kernel_rfl)) rfl rfl rfl rfl rfl f39 f77.src hx80 (by decide) fun a w81 ao82 cap82 hO82 hc82 hk82 hl82 ha => ?_
      have o1 : Ok (blkL ao39) (blkL ao77 ++ (blkL ao45 ++ (blkL ao39 ++ ([g16] ++ ([g9] ++ ([g4] ++ (M))))))) w76.heap.size := (fun _ h => .inl (mr (mr (ml h))))
      have o2 : Ok (blkL ao82 ++ (blkL ao77 ++ (blkL ao45 ++ ([g16] ++ ([g9] ++ ([g4] ++ (M))))))) (blkL ao77 ++ (blkL ao45 ++ (blkL ao39 ++ ([g16] ++ ([g9] ++ ([g4] ++ (M))))))) w76.heap.size := (Ok.app (Ok.to hk82 (fun _ h => mr (mr (ml h)))) (Ok.app (fun _ h => .inl (ml h)) (Ok.app (fun _ h => .inl (mr (ml h))) (Ok.app (fun _ h => .inl (mr (mr (mr (ml h))))) (Ok.app (fun _ h => .inl (mr (mr (mr (mr (ml h)))))) (Ok.app (fun _ h => .inl (mr (mr (mr (mr (mr (ml h))))))) (fun _ h => .inl (mr (mr (mr (mr (mr (mr (h))))))))))))))
      have f1 := f1.chg hc82 o1 o2
      have f77 := f77.chg hc82 o1 o2 p_iD000077_i39 (fun _ h => mr (ml h))
      have f78 := f78.chg hc82 o1 o2
      have hBg4 := hBg4.chg hc82 ((fun x (hx : x ∈ [g4]) (hy : x ∈ blkL ao39) => p_i39_i6 x hy hx) g4 (by simp))
      have hBg9 := hBg9.chg hc82 ((fun x (hx : x ∈ [g9]) (hy : x ∈ blkL ao39) => p_i39_i10 x hy hx) g9 (by simp))
      have hBg16 := hBg16.chg hc82 ((fun x (hx : x ∈ [g16]) (hy : x ∈ blkL ao39) => p_i39_i18 x hy hx) g16 (by simp))
      have nw : Ok (blkL ao82) (blkL ao77 ++ (blkL ao45 ++ (blkL ao39 ++ ([g16] ++ ([g9] ++ ([g4] ++ (M))))))) w76.heap.size := (Ok.to hk82 (fun _ h => mr (mr (ml h))))
      have p_iD000082_iD000077 : ∀ x ∈ blkL ao82, x ∉ (blkL ao77) := fun x hx hy => (hk82 x hx).elim (fun h => (fun x hx hy => p_iD000077_i39 x hy hx) x h hy) (fun h => absurd (hM x (ml hy)) (Nat.not_lt.2 h))
      have p_iD000082_i45 : ∀ x ∈ blkL ao82, x ∉ (blkL ao45) := fun x hx hy => (hk82 x hx).elim (fun h => (fun x hx hy => p_i45_i39 x hy hx) x h hy) (fun h => absurd (hM x (mr (ml hy))) (Nat.not_lt.2 h))
      have p_iD000082_i18 : ∀ x ∈ blkL ao82, x ∉ ([g16]) := fun x hx hy => (hk82 x hx).elim (fun h => p_i39_i18 x h hy) (fun h => absurd (hM x (mr (mr (mr (ml hy))))) (Nat.not_lt.2 h))
      have p_iD000082_i10 : ∀ x ∈ blkL ao82, x ∉ ([g9]) := fun x hx hy => (hk82 x hx).elim (fun h => p_i39_i10 x h hy) (fun h => absurd (hM x (mr (mr (mr (mr (ml hy)))))) (Nat.not_lt.2 h))
      have p_iD000082_i6 : ∀ x ∈ blkL ao82, x ∉ ([g4]) := fun x hx hy => (hk82 x hx).elim (fun h => p_i39_i6 x h hy) (fun h => absurd (hM x (mr (mr (mr (mr (mr (ml hy))))))) (Nat.not_lt.2 h))
      have p_iD000082_M : ∀ x ∈ blkL ao82, x ∉ M := fun x hx hy => (hk82 x hx).elim (fun h => p_i39_M x h hy) (fun h => absurd (hM x (mr (mr (mr (mr (mr (mr (hy)))))))) (Nat.not_lt.2 h))
      have e_iD000082 : ∀ x ∈ blkL ao82, w.heap.size ≤ x := fun x hx => (hk82 x hx).elim (e_i39 x) (Nat.le_trans hC.size)
      have hM : MS (blkL ao82 ++ (blkL ao77 ++ (blkL ao45 ++ ([g16] ++ ([g9] ++ ([g4] ++ (M))))))) w81 := (MS.app hl82 (MS.app (fun x h => hM.chg hc82 x (ml h)) (MS.app (fun x h => hM.chg hc82 x (mr (ml h))) (MS.app (fun x h => hM.chg hc82 x (mr (mr (mr (ml h))))) (MS.app (fun x h => hM.chg hc82 x (mr (mr (mr (mr (ml h)))))) (MS.app (fun x h => hM.chg hc82 x (mr (mr (mr (mr (mr (ml h))))))) (fun x h => hM.chg hc82 x (mr (mr (mr (mr (mr (mr (h))))))))))))))
      have hC := hC.trans hc82 (fun x h => .inr (e_i39 x h))
      have d_iD000082 : Ok (blkL ao82) ([g9] ++ blkL ao39 ++ [g16]) w44.heap.size := fun x hx => (hk82 x hx).elim (fun h => .inl ((List.mem_append_left _ (List.mem_append_right _ h)))) (fun h => .inr (Nat.le_trans hS.size h))
      have hS := hS.trans hc82 (fun x h => .inl ((List.mem_append_left _ (List.mem_append_right _ h))))
      have f82 := hO82.chg (M' := blkL ao82 ++ (blkL ao77 ++ (blkL ao45 ++ ([g16] ++ ([g9] ++ ([g4] ++ (M))))))) (Chg.refl [] _) (Ok.nil _ _) (Ok.app (fun _ h => .inl (ml h)) (Ok.to (Ok.app (fun _ h => .inl (ml h)) (Ok.app (fun _ h => .inl (mr (ml h))) (Ok.app (fun _ h => .inl (mr (mr (mr (ml h))))) (Ok.app (fun _ h => .inl (mr (mr (mr (mr (ml h)))))) (Ok.app (fun _ h => .inl (mr (mr (mr (mr (mr (ml h))))))) (fun _ h => .inl (mr (mr (mr (mr (mr (mr (h))))))))))))) (fun _ h => mr h))) (fun _ _ h => nomatch h) (fun _ h => ml h)
      refine ae hK79 hS ?_; clear hK79 K79
      refine tkp 5 0 (.pointer (some ⟨g16, 20, none⟩)) ha (by rfl) (by kernel_rfl) (by kernel_rfl) (by kernel_rfl) (by rfl) (by rfl) (by rfl) (by exact fun _ _ _ h => h) (by kernel_rfl) hS fun a ha => ?_
      refine ac 6 (by kernel_rfl) (by rfl) fun K83 hK83 => ?_
      refine st ha rfl rfl rfl (by kernel_rfl) rfl rfl hBg16 (Nat.le_of_ble_eq_true (by kernel_rfl)) fun a w84 ha hb2 hc85 _ => ?_
      have o1 : Ok [g16] (blkL ao82 ++ (blkL ao77 ++ (blkL ao45 ++ ([g16] ++ ([g9] ++ ([g4] ++ (M))))))) w81.heap.size := (fun _ h => .inl (mr (mr (mr (ml h)))))
      have o2 : Ok (blkL ao82 ++ (blkL ao77 ++ (blkL ao45 ++ ([g16] ++ ([g9] ++ ([g4] ++ (M))))))) (blkL ao82 ++ (blkL ao77 ++ (blkL ao45 ++ ([g16] ++ ([g9] ++ ([g4] ++ (M))))))) w81.heap.size := (Ok.app (fun _ h => .inl (ml h)) (Ok.app (fun _ h => .inl (mr (ml h))) (Ok.app (fun _ h => .inl (mr (mr (ml h)))) (Ok.app (fun _ h => .inl (mr (mr (mr (ml h))))) (Ok.app (fun _ h => .inl (mr (mr (mr (mr (ml h)))))) (Ok.app (fun _ h => .inl (mr (mr (mr (mr (mr (ml h))))))) (fun _ h => .inl (mr (mr (mr (mr (mr (mr (h))))))))))))))
      have f1 := f1.chg hc85 o1 o2
      have f77 := f77.chg hc85 o1 o2 p_iD000077_i18 (fun _ h => mr (ml h))
      have f82 := f82.chg hc85 o1 o2 p_iD000082_i18 (fun _ h => ml h)
      have f78 := f78.chg hc85 o1 o2
      have hBg4 := hBg4.chg hc85 ((fun x (hx : x ∈ [g4]) (hy : x ∈ [g16]) => p_i18_i6 x hy hx) g4 (by simp))
      have hBg9 := hBg9.chg hc85 ((fun x (hx : x ∈ [g9]) (hy : x ∈ [g16]) => p_i18_i10 x hy hx) g9 (by simp))
      have hM : MS (blkL ao82 ++ (blkL ao77 ++ (blkL ao45 ++ ([g16] ++ ([g9] ++ ([g4] ++ (M))))))) w84 := (MS.app (fun x h => hM.chg hc85 x (ml h)) (MS.app (fun x h => hM.chg hc85 x (mr (ml h))) (MS.app (fun x h => hM.chg hc85 x (mr (mr (ml h)))) (MS.app (fun x h => hM.chg hc85 x (mr (mr (mr (ml h))))) (MS.app (fun x h => hM.chg hc85 x (mr (mr (mr (mr (ml h)))))) (MS.app (fun x h => hM.chg hc85 x (mr (mr (mr (mr (mr (ml h))))))) (fun x h => hM.chg hc85 x (mr (mr (mr (mr (mr (mr (h))))))))))))))
      have hC := hC.trans hc85 (fun x h => .inr (e_i18 x h))
      have hS := hS.trans hc85 (fun x h => .inl ((List.mem_append_right _ h)))
      have hBg16 : Box w84 g16 (cS_api_Tunnel (⟨t13.1 == (1 : Int), t22.1, t30.1, (⟨(0 : Int), (List.replicate 16 (0 : Int))⟩ : S_api_Addr), (t38.1 ++ t76.1)⟩ : S_api_Tunnel) ao82 cap82) := hb2
      refine ae hK83 hS ?_; clear hK83 K83
      refine dn (by kernel_rfl) ?_
      obtain rfl := Option.some.inj H
      have o1 : Ok [] (blkL ao82 ++ (blkL ao77 ++ (blkL ao45 ++ ([g16] ++ ([g9] ++ ([g4] ++ (M))))))) w84.heap.size := Ok.nil _ _
      have o2 : Ok (blkL ao82 ++ ([g16] ++ ([g9] ++ ([g4] ++ (M))))) (blkL ao82 ++ (blkL ao77 ++ (blkL ao45 ++ ([g16] ++ ([g9] ++ ([g4] ++ (M))))))) w84.heap.size := (Ok.app (fun _ h => .inl (ml h)) (Ok.app (fun _ h => .inl (mr (mr (mr (ml h))))) (Ok.app (fun _ h => .inl (mr (mr (mr (mr (ml h)))))) (Ok.app (fun _ h => .inl (mr (mr (mr (mr (mr (ml h))))))) (fun _ h => .inl (mr (mr (mr (mr (mr (mr (h))))))))))))
      have f1 := f1.chg (Chg.refl [] _) o1 o2
      have f78 := f78.chg (Chg.refl [] _) o1 o2
      have f82 := f82.chg (Chg.refl [] _) o1 o2 (fun _ _ h => nomatch h) (fun _ h => ml h)
      have hBg4 := hBg4.chg (Chg.refl [] _) (fun h => nomatch h)
      have hBg9 := hBg9.chg (Chg.refl [] _) (fun h => nomatch h)
      have hBg16 := hBg16.chg (Chg.refl [] _) (fun h => nomatch h)
      have hM : MS (blkL ao82 ++ ([g16] ++ ([g9] ++ ([g4] ++ (M))))) w84 := (MS.app (fun x h => hM.chg (Chg.refl [] _) x (ml h)) (MS.app (fun x h => hM.chg (Chg.refl [] _) x (mr (mr (mr (ml h))))) (MS.app (fun x h => hM.chg (Chg.refl [] _) x (mr (mr (mr (mr (ml h)))))) (MS.app (fun x h => hM.chg (Chg.refl [] _) x (mr (mr (mr (mr (mr (ml h))))))) (fun x h => hM.chg (Chg.refl [] _) x (mr (mr (mr (mr (mr (mr (h))))))))))))
      have hC := hC.trans (Chg.refl [] _) (Ok.nil _ _)
      exact J50 _ _ ao78 cap78 ao82 cap82 (ha.sel (by kernel_rfl)) f1 f78 f82 hBg4 hBg9 hBg16 e_iD000082 p_iD000082_i18 p_iD000082_i10 p_iD000082_i6 p_iD000082_M hC hM
    · refine ⟨_, rfl, fun K86 hK86 => ?_⟩
      obtain ⟨t87, H87, H⟩ := bind_some H
      refine cl ha (by rfl) (by kernel_rfl) (by rfl) (by rfl) (by rfl) (cursor_Reader_Take.walk w48 _ hM g9 t44.2 ao46 cap46 f46 hBg9 (mr (mr (mr (ml (List.mem_singleton.2 rfl))))) (2 : Int) _ H87) ?_
      rintro _ w87 ⟨ao88, cap88, ao89, cap89, rfl, f88, f89, qhBg9, ne_iD000088, hc87, hMn⟩ a ha
      have o1 : Ok [g9] (blkL ao45 ++ (blkL ao39 ++ ([g16] ++ ([g9] ++ ([g4] ++ (M)))))) w48.heap.size := (fun _ h => .inl (mr (mr (mr (ml h)))))
      have o2 : Ok (blkL ao88 ++ (blkL ao45 ++ (blkL ao39 ++ ([g16] ++ ([g9] ++ ([g4] ++ (M))))))) (blkL ao45 ++ (blkL ao39 ++ ([g16] ++ ([g9] ++ ([g4] ++ (M)))))) w48.heap.size := (Ok.app (fun x h => .inr (ne_iD000088 x h)) (Ok.app (fun _ h => .inl (ml h)) (Ok.app (fun _ h => .inl (mr (ml h))) (Ok.app (fun _ h => .inl (mr (mr (ml h)))) (Ok.app (fun _ h => .inl (mr (mr (mr (ml h))))) (Ok.app (fun _ h => .inl (mr (mr (mr (mr (ml h)))))) (fun _ h => .inl (mr (mr (mr (mr (mr (h)))))))))))))
      have f1 := f1.chg hc87 o1 o2
      have f46 := f46.chg hc87 o1 o2
      have f39 := f39.chg hc87 o1 o2 p_i39_i10 (fun _ h => mr (mr (ml h)))
      have hBg4 := hBg4.chg hc87 ((fun x (hx : x ∈ [g4]) (hy : x ∈ [g9]) => p_i10_i6 x hy hx) g4 (by simp))
      have hBg16 := hBg16.chg hc87 (p_i18_i10 g16 (by simp))
      have nw : Ok (blkL ao88) (blkL ao45 ++ (blkL ao39 ++ ([g16] ++ ([g9] ++ ([g4] ++ (M)))))) w48.heap.size := (fun x h => .inr (ne_iD000088 x h))
      have p_iD000088_i45 : ∀ x ∈ blkL ao88, x ∉ (blkL ao45) := fun x hx hy => absurd (hM x (ml hy)) (Nat.not_lt.2 (ne_iD000088 x hx))
      have p_iD000088_i39 : ∀ x ∈ blkL ao88, x ∉ (blkL ao39) := fun x hx hy => absurd (hM x (mr (ml hy))) (Nat.not_lt.2 (ne_iD000088 x hx))
      have p_iD000088_i18 : ∀ x ∈ blkL ao88, x ∉ ([g16]) := fun x hx hy => absurd (hM x (mr (mr (ml hy)))) (Nat.not_lt.2 (ne_iD000088 x hx))
      have p_iD000088_i10 : ∀ x ∈ blkL ao88, x ∉ ([g9]) := fun x hx hy => absurd (hM x (mr (mr (mr (ml hy))))) (Nat.not_lt.2 (ne_iD000088 x hx))
      have p_iD000088_i6 : ∀ x ∈ blkL ao88, x ∉ ([g4]) := fun x hx hy => absurd (hM x (mr (mr (mr (mr (ml hy)))))) (Nat.not_lt.2 (ne_iD000088 x hx))
      have p_iD000088_M : ∀ x ∈ blkL ao88, x ∉ M := fun x hx hy => absurd (hM x (mr (mr (mr (mr (mr (hy))))))) (Nat.not_lt.2 (ne_iD000088 x hx))
      have e_iD000088 : ∀ x ∈ blkL ao88, w.heap.size ≤ x := fun x hx => Nat.le_trans hC.size (ne_iD000088 x hx)
      have hM : MS (blkL ao88 ++ (blkL ao45 ++ (blkL ao39 ++ ([g16] ++ ([g9] ++ ([g4] ++ (M))))))) w87 := (MS.app (fun x h => hMn x (ml h)) (MS.app (fun x h => hM.chg hc87 x (ml h)) (MS.app (fun x h => hM.chg hc87 x (mr (ml h))) (MS.app (fun x h => hM.chg hc87 x (mr (mr (ml h)))) (MS.app (fun x h => hM.chg hc87 x (mr (mr (mr (ml h))))) (MS.app (fun x h => hM.chg hc87 x (mr (mr (mr (mr (ml h)))))) (fun x h => hM.chg hc87 x (mr (mr (mr (mr (mr (h)))))))))))))
      have hC := hC.trans hc87 (fun x h => .inr (e_i10 x h))
      have d_iD000088 : Ok (blkL ao88) ([g9] ++ blkL ao39 ++ [g16]) w44.heap.size := fun x hx => .inr (Nat.le_trans hS.size (ne_iD000088 x hx))
      have hS := hS.trans hc87 (fun x h => .inl ((List.mem_append_left _ (List.mem_append_left _ h))))
      have hBg9 := qhBg9
      refine ae hK86 hS ?_; clear hK86 K86
      refine ac 1 (by kernel_rfl) (by rfl) fun K90 hK90 => ?_
      refine ld (v := .slice ao39 t38.1.length cap39) ha rfl (by kernel_rfl) rfl rfl rfl (hBg16.cell' (o := 20) rfl (by kernel_rfl)) fun a ha => ?_
      refine ae hK90 hS ?_; clear hK90 K90
      refine ac 4 (by kernel_rfl) (by rfl) fun K91 hK91 => ?_
      obtain ⟨hx92, H⟩ := ite_some H
      refine app (r := (rInt .u8)) (xs := t38.1) (ys := t87.1) ha (ElemT.mk' (bytes := 1) (by kernel_rfl)) rfl rfl rfl rfl rfl f39 f88.src hx92 (by decide) fun a w93 ao94 cap94 hO94 hc94 hk94 hl94 ha => ?_
      have o1 : Ok (blkL ao39) (blkL ao88 ++ (blkL ao45 ++ (blkL ao39 ++ ([g16] ++ ([g9] ++ ([g4] ++ (M))))))) w87.heap.size := (fun _ h => .inl (mr (mr (ml h))))
      have o2 : Ok (blkL ao94 ++ (blkL ao88 ++ (blkL ao45 ++ ([g16] ++ ([g9] ++ ([g4] ++ (M))))))) (blkL ao88 ++ (blkL ao45 ++ (blkL ao39 ++ ([g16] ++ ([g9] ++ ([g4] ++ (M))))))) w87.heap.size := (Ok.app (Ok.to hk94 (fun _ h => mr (mr (ml h)))) (Ok.app (fun _ h => .inl (ml h)) (Ok.app (fun _ h => .inl (mr (ml h))) (Ok.app (fun _ h => .inl (mr (mr (mr (ml h))))) (Ok.app (fun _ h => .inl (mr (mr (mr (mr (ml h)))))) (Ok.app (fun _ h => .inl (mr (mr (mr (mr (mr (ml h))))))) (fun _ h => .inl (mr (mr (mr (mr (mr (mr (h))))))))))))))
      have f1 := f1.chg hc94 o1 o2
      have f88 := f88.chg hc94 o1 o2 p_iD000088_i39 (fun _ h => mr (ml h))
      have f89 := f89.chg hc94 o1 o2
      have hBg4 := hBg4.chg hc94 ((fun x (hx : x ∈ [g4]) (hy : x ∈ blkL ao39) => p_i39_i6 x hy hx) g4 (by simp))
      have hBg9 := hBg9.chg hc94 ((fun x (hx : x ∈ [g9]) (hy : x ∈ blkL ao39) => p_i39_i10 x hy hx) g9 (by simp))
      have hBg16 := hBg16.chg hc94 ((fun x (hx : x ∈ [g16]) (hy : x ∈ blkL ao39) => p_i39_i18 x hy hx) g16 (by simp))
      have nw : Ok (blkL ao94) (blkL ao88 ++ (blkL ao45 ++ (blkL ao39 ++ ([g16] ++ ([g9] ++ ([g4] ++ (M))))))) w87.heap.size := (Ok.to hk94 (fun _ h => mr (mr (ml h))))
      have p_iD000094_iD000088 : ∀ x ∈ blkL ao94, x ∉ (blkL ao88) := fun x hx hy => (hk94 x hx).elim (fun h => (fun x hx hy => p_iD000088_i39 x hy hx) x h hy) (fun h => absurd (hM x (ml hy)) (Nat.not_lt.2 h))
      have p_iD000094_i45 : ∀ x ∈ blkL ao94, x ∉ (blkL ao45) := fun x hx hy => (hk94 x hx).elim (fun h => (fun x hx hy => p_i45_i39 x hy hx) x h hy) (fun h => absurd (hM x (mr (ml hy))) (Nat.not_lt.2 h))
      have p_iD000094_i18 : ∀ x ∈ blkL ao94, x ∉ ([g16]) := fun x hx hy => (hk94 x hx).elim (fun h => p_i39_i18 x h hy) (fun h => absurd (hM x (mr (mr (mr (ml hy))))) (Nat.not_lt.2 h))
      have p_iD000094_i10 : ∀ x ∈ blkL ao94, x ∉ ([g9]) := fun x hx hy => (hk94 x hx).elim (fun h => p_i39_i10 x h hy) (fun h => absurd (hM x (mr (mr (mr (mr (ml hy)))))) (Nat.not_lt.2 h))
      have p_iD000094_i6 : ∀ x ∈ blkL ao94, x ∉ ([g4]) := fun x hx hy => (hk94 x hx).elim (fun h => p_i39_i6 x h hy) (fun h => absurd (hM x (mr (mr (mr (mr (mr (ml hy))))))) (Nat.not_lt.2 h))
      have p_iD000094_M : ∀ x ∈ blkL ao94, x ∉ M := fun x hx hy => (hk94 x hx).elim (fun h => p_i39_M x h hy) (fun h => absurd (hM x (mr (mr (mr (mr (mr (mr (hy)))))))) (Nat.not_lt.2 h))
      have e_iD000094 : ∀ x ∈ blkL ao94, w.heap.size ≤ x := fun x hx => (hk94 x hx).elim (e_i39 x) (Nat.le_trans hC.size)
      have hM : MS (blkL ao94 ++ (blkL ao88 ++ (blkL ao45 ++ ([g16] ++ ([g9] ++ ([g4] ++ (M))))))) w93 := (MS.app hl94 (MS.app (fun x h => hM.chg hc94 x (ml h)) (MS.app (fun x h => hM.chg hc94 x (mr (ml h))) (MS.app (fun x h => hM.chg hc94 x (mr (mr (mr (ml h))))) (MS.app (fun x h => hM.chg hc94 x (mr (mr (mr (mr (ml h)))))) (MS.app (fun x h => hM.chg hc94 x (mr (mr (mr (mr (mr (ml h))))))) (fun x h => hM.chg hc94 x (mr (mr (mr (mr (mr (mr (h))))))))))))))
      have hC := hC.trans hc94 (fun x h => .inr (e_i39 x h))
      have d_iD000094 : Ok (blkL ao94) ([g9] ++ blkL ao39 ++ [g16]) w44.heap.size := fun x hx => (hk94 x hx).elim (fun h => .inl ((List.mem_append_left _ (List.mem_append_right _ h)))) (fun h => .inr (Nat.le_trans hS.size h))
      have hS := hS.trans hc94 (fun x h => .inl ((List.mem_append_left _ (List.mem_append_right _ h))))
      have f94 := hO94.chg (M' := blkL ao94 ++ (blkL ao88 ++ (blkL ao45 ++ ([g16] ++ ([g9] ++ ([g4] ++ (M))))))) (Chg.refl [] _) (Ok.nil _ _) (Ok.app (fun _ h => .inl (ml h)) (Ok.to (Ok.app (fun _ h => .inl (ml h)) (Ok.app (fun _ h => .inl (mr (ml h))) (Ok.app (fun _ h => .inl (mr (mr (mr (ml h))))) (Ok.app (fun _ h => .inl (mr (mr (mr (mr (ml h)))))) (Ok.app (fun _ h => .inl (mr (mr (mr (mr (mr (ml h))))))) (fun _ h => .inl (mr (mr (mr (mr (mr (mr (h))))))))))))) (fun _ h => mr h))) (fun _ _ h => nomatch h) (fun _ h => ml h)
      refine ae hK91 hS ?_; clear hK91 K91
      refine tkp 5 0 (.pointer (some ⟨g16, 20, none⟩)) ha (by rfl) (by kernel_rfl) (by kernel_rfl) (by kernel_rfl) (by rfl) (by rfl) (by rfl) (by exact fun _ _ _ h => h) (by kernel_rfl) hS fun a ha => ?_
      refine ac 6 (by kernel_rfl) (by rfl) fun K95 hK95 => ?_
      refine st ha rfl rfl rfl (by kernel_rfl) rfl rfl hBg16 (Nat.le_of_ble_eq_true (by kernel_rfl)) fun a w96 ha hb2 hc97 _ => ?_
      have o1 : Ok [g16] (blkL ao94 ++ (blkL ao88 ++ (blkL ao45 ++ ([g16] ++ ([g9] ++ ([g4] ++ (M))))))) w93.heap.size := (fun _ h => .inl (mr (mr (mr (ml h)))))
      have o2 : Ok (blkL ao94 ++ (blkL ao88 ++ (blkL ao45 ++ ([g16] ++ ([g9] ++ ([g4] ++ (M))))))) (blkL ao94 ++ (blkL ao88 ++ (blkL ao45 ++ ([g16] ++ ([g9] ++ ([g4] ++ (M))))))) w93.heap.size := (Ok.app (fun _ h => .inl (ml h)) (Ok.app (fun _ h => .inl (mr (ml h))) (Ok.app (fun _ h => .inl (mr (mr (ml h)))) (Ok.app (fun _ h => .inl (mr (mr (mr (ml h))))) (Ok.app (fun _ h => .inl (mr (mr (mr (mr (ml h)))))) (Ok.app (fun _ h => .inl (mr (mr (mr (mr (mr (ml h))))))) (fun _ h => .inl (mr (mr (mr (mr (mr (mr (h))))))))))))))
      have f1 := f1.chg hc97 o1 o2
      have f88 := f88.chg hc97 o1 o2 p_iD000088_i18 (fun _ h => mr (ml h))
      have f94 := f94.chg hc97 o1 o2 p_iD000094_i18 (fun _ h => ml h)
      have f89 := f89.chg hc97 o1 o2
      have hBg4 := hBg4.chg hc97 ((fun x (hx : x ∈ [g4]) (hy : x ∈ [g16]) => p_i18_i6 x hy hx) g4 (by simp))
      have hBg9 := hBg9.chg hc97 ((fun x (hx : x ∈ [g9]) (hy : x ∈ [g16]) => p_i18_i10 x hy hx) g9 (by simp))
      have hM : MS (blkL ao94 ++ (blkL ao88 ++ (blkL ao45 ++ ([g16] ++ ([g9] ++ ([g4] ++ (M))))))) w96 := (MS.app (fun x h => hM.chg hc97 x (ml h)) (MS.app (fun x h => hM.chg hc97 x (mr (ml h))) (MS.app (fun x h => hM.chg hc97 x (mr (mr (ml h)))) (MS.app (fun x h => hM.chg hc97 x (mr (mr (mr (ml h))))) (MS.app (fun x h => hM.chg hc97 x (mr (mr (mr (mr (ml h)))))) (MS.app (fun x h => hM.chg hc97 x (mr (mr (mr (mr (mr (ml h))))))) (fun x h => hM.chg hc97 x (mr (mr (mr (mr (mr (mr (h))))))))))))))
      have hC := hC.trans hc97 (fun x h => .inr (e_i18 x h))
      have hS := hS.trans hc97 (fun x h => .inl ((List.mem_append_right _ h)))
      have hBg16 : Box w96 g16 (cS_api_Tunnel (⟨t13.1 == (1 : Int), t22.1, t30.1, (⟨(0 : Int), (List.replicate 16 (0 : Int))⟩ : S_api_Addr), (t38.1 ++ t87.1)⟩ : S_api_Tunnel) ao94 cap94) := hb2
      refine ae hK95 hS ?_; clear hK95 K95
      refine dn (by kernel_rfl) ?_
      obtain rfl := Option.some.inj H
      have o1 : Ok [] (blkL ao94 ++ (blkL ao88 ++ (blkL ao45 ++ ([g16] ++ ([g9] ++ ([g4] ++ (M))))))) w96.heap.size := Ok.nil _ _
      have o2 : Ok (blkL ao94 ++ ([g16] ++ ([g9] ++ ([g4] ++ (M))))) (blkL ao94 ++ (blkL ao88 ++ (blkL ao45 ++ ([g16] ++ ([g9] ++ ([g4] ++ (M))))))) w96.heap.size := (Ok.app (fun _ h => .inl (ml h)) (Ok.app (fun _ h => .inl (mr (mr (mr (ml h))))) (Ok.app (fun _ h => .inl (mr (mr (mr (mr (ml h)))))) (Ok.app (fun _ h => .inl (mr (mr (mr (mr (mr (ml h))))))) (fun _ h => .inl (mr (mr (mr (mr (mr (mr (h))))))))))))
      have f1 := f1.chg (Chg.refl [] _) o1 o2
      have f89 := f89.chg (Chg.refl [] _) o1 o2
      have f94 := f94.chg (Chg.refl [] _) o1 o2 (fun _ _ h => nomatch h) (fun _ h => ml h)
      have hBg4 := hBg4.chg (Chg.refl [] _) (fun h => nomatch h)
      have hBg9 := hBg9.chg (Chg.refl [] _) (fun h => nomatch h)
      have hBg16 := hBg16.chg (Chg.refl [] _) (fun h => nomatch h)
      have hM : MS (blkL ao94 ++ ([g16] ++ ([g9] ++ ([g4] ++ (M))))) w96 := (MS.app (fun x h => hM.chg (Chg.refl [] _) x (ml h)) (MS.app (fun x h => hM.chg (Chg.refl [] _) x (mr (mr (mr (ml h))))) (MS.app (fun x h => hM.chg (Chg.refl [] _) x (mr (mr (mr (mr (ml h)))))) (MS.app (fun x h => hM.chg (Chg.refl [] _) x (mr (mr (mr (mr (mr (ml h))))))) (fun x h => hM.chg (Chg.refl [] _) x (mr (mr (mr (mr (mr (mr (h))))))))))))
      have hC := hC.trans (Chg.refl [] _) (Ok.nil _ _)
      exact J50 _ _ ao89 cap89 ao94 cap94 (ha.sel (by kernel_rfl)) f1 f89 f94 hBg4 hBg9 hBg16 e_iD000094 p_iD000094_i18 p_iD000094_i10 p_iD000094_i6 p_iD000094_M hC hM
  · have H := ite_f hc36 H
    refine wp_seq_k fun K98 hK98 => ?_
    obtain ⟨s99, H99, H⟩ := bind_some H
    have J99 : ∀ (a : Act) (w99 : World), Has a Tryd.f15.ntmps [(0, .slice ao1 a0.length cap1), (2, .pointer (some ⟨g4, 0, none⟩)), (4, .pointer (some ⟨g9, 0, none⟩)), (5, .pointer (some ⟨g16, 0, none⟩)), (26, .int .i64 t22.1), (50, .bool s99)] → (RSl (rInt .u8) 5 w99 ([g16] ++ ([g9] ++ ([g4] ++ (M)))) ao1 cap1 a0) → (RSl (rInt .u8) 5 w99 ([g16] ++ ([g9] ++ ([g4] ++ (M)))) ao29 cap29 t27.2.rest.left) → (Box w99 g4 (cS_api_Tunnel (⟨false, (0 : Int), (0 : Int), (⟨(0 : Int), (List.replicate 16 (0 : Int))⟩ : S_api_Addr), ([] : List Int)⟩ : S_api_Tunnel) none 0)) → (Box w99 g9 (cS_cursor_Reader t27.2 ao29 cap29)) → (Box w99 g16 (cS_api_Tunnel (⟨t13.1 == (1 : Int), t22.1, t30.1, (⟨(0 : Int), (List.replicate 16 (0 : Int))⟩ : S_api_Addr), ([] : List Int)⟩ : S_api_Tunnel) none 0)) → (Chg [] w w99) → (MS ([g16] ++ ([g9] ++ ([g4] ++ (M)))) w99) → K98 a w99 := by
      intro a w99 ha f1 f29 hBg4 hBg9 hBg16 hC hM
      refine hK98 _ _ ?_; try clear hK98 K98
      refine cnd ha rfl (fun hc100 => ?_) (fun hc100 => ?_)
      · have H := ite_t hc100 H
        refine wp_seq_k fun K101 hK101 => ?_
        refine wp_region_lit ?_
        refine seg ha 1 [(0, .slice ao1 a0.length cap1), (2, .pointer (some ⟨g4, 0, none⟩)), (4, .pointer (some ⟨g9, 0, none⟩)), (5, .pointer (some ⟨g16, 0, none⟩)), (53, .pointer (some ⟨g9, 0, none⟩))] (by kernel_rfl) fun a ha => ?_
        obtain ⟨t102, H102, H⟩ := bind_some H
        refine cl ha (by rfl) (by kernel_rfl) (by rfl) (by rfl) (by rfl) (cursor_Reader_Take.walk w99 _ hM g9 t27.2 ao29 cap29 f29 hBg9 (mr (ml (List.mem_singleton.2 rfl))) (3 : Int) _ H102) ?_
        rintro _ w102 ⟨ao103, cap103, ao104, cap104, rfl, f103, f104, qhBg9, ne_i103, hc102, hMn⟩ a ha
        have o1 : Ok [g9] ([g16] ++ ([g9] ++ ([g4] ++ (M)))) w99.heap.size := (fun _ h => .inl (mr (ml h)))
        have o2 : Ok (blkL ao103 ++ ([g16] ++ ([g9] ++ ([g4] ++ (M))))) ([g16] ++ ([g9] ++ ([g4] ++ (M)))) w99.heap.size := (Ok.app (fun x h => .inr (ne_i103 x h)) (Ok.app (fun _ h => .inl (ml h)) (Ok.app (fun _ h => .inl (mr (ml h))) (Ok.app (fun _ h => .inl (mr (mr (ml h)))) (fun _ h => .inl (mr (mr (mr (h)))))))))
        have f1 := f1.chg hc102 o1 o2
        have f29 := f29.chg hc102 o1 o2
        have hBg4 := hBg4.chg hc102 ((fun x (hx : x ∈ [g4]) (hy : x ∈ [g9]) => p_i10_i6 x hy hx) g4 (by simp))
        have hBg16 := hBg16.chg hc102 (p_i18_i10 g16 (by simp))
        have nw : Ok (blkL ao103) ([g16] ++ ([g9] ++ ([g4] ++ (M)))) w99.heap.size := (fun x h => .inr (ne_i103 x h))
        have p_i103_i18 : ∀ x ∈ blkL ao103, x ∉ ([g16]) := fun x hx hy => absurd (hM x (ml hy)) (Nat.not_lt.2 (ne_i103 x hx))
        have p_i103_i10 : ∀ x ∈ blkL ao103, x ∉ ([g9]) := fun x hx hy => absurd (hM x (mr (ml hy))) (Nat.not_lt.2 (ne_i103 x hx))
        have p_i103_i6 : ∀ x ∈ blkL ao103, x ∉ ([g4]) := fun x hx hy => absurd (hM x (mr (mr (ml hy)))) (Nat.not_lt.2 (ne_i103 x hx))
        have p_i103_M : ∀ x ∈ blkL ao103, x ∉ M := fun x hx hy => absurd (hM x (mr (mr (mr (hy))))) (Nat.not_lt.2 (ne_i103 x hx))
        have e_i103 : ∀ x ∈ blkL ao103, w.heap.size ≤ x := fun x hx => Nat.le_trans hC.size (ne_i103 x hx)
        have hM : MS (blkL ao103 ++ ([g16] ++ ([g9] ++ ([g4] ++ (M))))) w102 := (MS.app (fun x h => hMn x (ml h)) (MS.app (fun x h => hM.chg hc102 x (ml h)) (MS.app (fun x h => hM.chg hc102 x (mr (ml h))) (MS.app (fun x h => hM.chg hc102 x (mr (mr (ml h)))) (fun x h => hM.chg hc102 x (mr (mr (mr (h)))))))))
        have hC := hC.trans hc102 (fun x h => .inr (e_i10 x h))
        have hBg9 := qhBg9
        refine hK101 _ _ ?_; try clear hK101 K101
        refine wp_seq_k fun K105 hK105 => ?_
        refine wp_region_lit ?_
        refine seg ha 2 [(0, .slice ao1 a0.length cap1), (2, .pointer (some ⟨g4, 0, none⟩)), (4, .pointer (some ⟨g9, 0, none⟩)), (5, .pointer (some ⟨g16, 0, none⟩)), (55, .pointer (some ⟨g9, 0, none⟩)), (56, .pointer (some ⟨g9, 0, none⟩))] (by kernel_rfl) fun a ha => ?_
        obtain ⟨t106, H106, H⟩ := bind_some H
        refine cl ha (by rfl) (by kernel_rfl) (by rfl) (by rfl) (by rfl) (cursor_Reader_Num.walk w102 _ hM g9 t102.2 ao104 cap104 f104 hBg9 (mr (mr (ml (List.mem_singleton.2 rfl)))) (1 : Int) k _ H106) ?_
        rintro _ w106 ⟨ao107, cap107, rfl, f107, qhBg9, hc106, hMn⟩ a ha
        have o1 : Ok [g9] (blkL ao103 ++ ([g16] ++ ([g9] ++ ([g4] ++ (M))))) w102.heap.size := (fun _ h => .inl (mr (mr (ml h))))
        have o2 : Ok (blkL ao103 ++ ([g16] ++ ([g9] ++ ([g4] ++ (M))))) (blkL ao103 ++ ([g16] ++ ([g9] ++ ([g4] ++ (M))))) w102.heap.size := (Ok.app (fun _ h => .inl (ml h)) (Ok.app (fun _ h => .inl (mr (ml h))) (Ok.app (fun _ h => .inl (mr (mr (ml h)))) (Ok.app (fun _ h => .inl (mr (mr (mr (ml h))))) (fun _ h => .inl (mr (mr (mr (mr (h))))))))))
        have f1 := f1.chg hc106 o1 o2
        have f104 := f104.chg hc106 o1 o2
        have hBg4 := hBg4.chg hc106 ((fun x (hx : x ∈ [g4]) (hy : x ∈ [g9]) => p_i10_i6 x hy hx) g4 (by simp))
        have hBg16 := hBg16.chg hc106 (p_i18_i10 g16 (by simp))
        have hM : MS (blkL ao103 ++ ([g16] ++ ([g9] ++ ([g4] ++ (M))))) w106 := (MS.app (fun x h => hM.chg hc106 x (ml h)) (MS.app (fun x h => hM.chg hc106 x (mr (ml h))) (MS.app (fun x h => hM.chg hc106 x (mr (mr (ml h)))) (MS.app (fun x h => hM.chg hc106 x (mr (mr (mr (ml h))))) (fun x h => hM.chg hc106 x (mr (mr (mr (mr (h))))))))))
        have hC := hC.trans hc106 (fun x h => .inr (e_i10 x h))
        have hBg9 := qhBg9
        obtain ⟨t108, H108, H⟩ := bind_some H
        refine cl ha (by rfl) (by kernel_rfl) (by rfl) (by rfl) (by rfl) (pmsi_root.walk w106 _ hM g9 t106.2 ao107 cap107 f107 hBg9 (mr (mr (ml (List.mem_singleton.2 rfl)))) t106.1 _ H108) ?_
        rintro _ w108 ⟨ao109, cap109, rfl, f109, qhBg9, hc108, hMn⟩ a ha
        have o1 : Ok [g9] (blkL ao103 ++ ([g16] ++ ([g9] ++ ([g4] ++ (M))))) w106.heap.size := (fun _ h => .inl (mr (mr (ml h))))
        have o2 : Ok (blkL ao103 ++ ([g16] ++ ([g9] ++ ([g4] ++ (M))))) (blkL ao103 ++ ([g16] ++ ([g9] ++ ([g4] ++ (M))))) w106.heap.size := (Ok.app (fun _ h => .inl (ml h)) (Ok.app (fun _ h => .inl (mr (ml h))) (Ok.app (fun _ h => .inl (mr (mr (ml h)))) (Ok.app (fun _ h => .inl (mr (mr (mr (ml h))))) (fun _ h => .inl (mr (mr (mr (mr (h))))))))))
        have f1 := f1.chg hc108 o1 o2
        have f107 := f107.chg hc108 o1 o2
        have hBg4 := hBg4.chg hc108 ((fun x (hx : x ∈ [g4]) (hy : x ∈ [g9]) => p_i10_i6 x hy hx) g4 (by simp))
        have hBg16 := hBg16.chg hc108 (p_i18_i10 g16 (by simp))
        have hM : MS (blkL ao103 ++ ([g16] ++ ([g9] ++ ([g4] ++ (M))))) w108 := (MS.app (fun x h => hM.chg hc108 x (ml h)) (MS.app (fun x h => hM.chg hc108 x (mr (ml h))) (MS.app (fun x h => hM.chg hc108 x (mr (mr (ml h)))) (MS.app (fun x h => hM.chg hc108 x (mr (mr (mr (ml h))))) (fun x h => hM.chg hc108 x (mr (mr (mr (mr (h))))))))))
        have hC := hC.trans hc108 (fun x h => .inr (e_i10 x h))
        have hBg9 := qhBg9
        refine seg ha 1 [(0, .slice ao1 a0.length cap1), (2, .pointer (some ⟨g4, 0, none⟩)), (4, .pointer (some ⟨g9, 0, none⟩)), (5, .pointer (some ⟨g16, 0, none⟩)), (58, .agg (cS_api_Addr t108.1).toArray), (59, .pointer (some ⟨g16, 3, none⟩))] (by kernel_rfl) fun a ha => ?_
        refine stA (l := (cS_api_Addr t108.1)) ha rfl rfl rfl (by kernel_rfl) rfl rfl hBg16 rfl fun a w110 ha hb2 hc111 _ => ?_
        have o1 : Ok [g16] (blkL ao103 ++ ([g16] ++ ([g9] ++ ([g4] ++ (M))))) w108.heap.size := (fun _ h => .inl (mr (ml h)))
        have o2 : Ok (blkL ao103 ++ ([g16] ++ ([g9] ++ ([g4] ++ (M))))) (blkL ao103 ++ ([g16] ++ ([g9] ++ ([g4] ++ (M))))) w108.heap.size := (Ok.app (fun _ h => .inl (ml h)) (Ok.app (fun _ h => .inl (mr (ml h))) (Ok.app (fun _ h => .inl (mr (mr (ml h)))) (Ok.app (fun _ h => .inl (mr (mr (mr (ml h))))) (fun _ h => .inl (mr (mr (mr (mr (h))))))))))
        have f1 := f1.chg hc111 o1 o2
        have f109 := f109.chg hc111 o1 o2
        have hBg4 := hBg4.chg hc111 ((fun x (hx : x ∈ [g4]) (hy : x ∈ [g16]) => p_i18_i6 x hy hx) g4 (by simp))
        have hBg9 := hBg9.chg hc111 ((fun x (hx : x ∈ [g9]) (hy : x ∈ [g16]) => p_i18_i10 x hy hx) g9 (by simp))
        have hM : MS (blkL ao103 ++ ([g16] ++ ([g9] ++ ([g4] ++ (M))))) w110 := (MS.app (fun x h => hM.chg hc111 x (ml h)) (MS.app (fun x h => hM.chg hc111 x (mr (ml h))) (MS.app (fun x h => hM.chg hc111 x (mr (mr (ml h)))) (MS.app (fun x h => hM.chg hc111 x (mr (mr (mr (ml h))))) (fun x h => hM.chg hc111 x (mr (mr (mr (mr (h))))))))))
        have hC := hC.trans hc111 (fun x h => .inr (e_i18 x h))
        have hBg16 : Box w110 g16 (cS_api_Tunnel (⟨t13.1 == (1 : Int), t22.1, t30.1, t108.1, ([] : List Int)⟩ : S_api_Tunnel) none 0) := hb2
        refine hK105 _ _ ?_; try clear hK105 K105
        refine wp_region_lit ?_
        refine seg ha 2 [(0, .slice ao1 a0.length cap1), (2, .pointer (some ⟨g4, 0, none⟩)), (4, .pointer (some ⟨g9, 0, none⟩)), (5, .pointer (some ⟨g16, 0, none⟩)), (60, .pointer (some ⟨g9, 0, none⟩)), (61, .pointer (some ⟨g9, 0, none⟩))] (by kernel_rfl) fun a ha => ?_
        obtain ⟨t112, H112, H⟩ := bind_some H
        refine cl ha (by rfl) (by kernel_rfl) (by rfl) (by rfl) (by rfl) (cursor_Reader_Num.walk w110 _ hM g9 t108.2 ao109 cap109 f109 hBg9 (mr (mr (ml (List.mem_singleton.2 rfl)))) (2 : Int) k _ H112) ?_
        rintro _ w112 ⟨ao113, cap113, rfl, f113, qhBg9, hc112, hMn⟩ a ha
        have o1 : Ok [g9] (blkL ao103 ++ ([g16] ++ ([g9] ++ ([g4] ++ (M))))) w110.heap.size := (fun _ h => .inl (mr (mr (ml h))))
        have o2 : Ok (blkL ao103 ++ ([g16] ++ ([g9] ++ ([g4] ++ (M))))) (blkL ao103 ++ ([g16] ++ ([g9] ++ ([g4] ++ (M))))) w110.heap.size := (Ok.app (fun _ h => .inl (ml h)) (Ok.app (fun _ h => .inl (mr (ml h))) (Ok.app (fun _ h => .inl (mr (mr (ml h)))) (Ok.app (fun _ h => .inl (mr (mr (mr (ml h))))) (fun _ h => .inl (mr (mr (mr (mr (h))))))))))
        have f1 := f1.chg hc112 o1 o2
        have f109 := f109.chg hc112 o1 o2
        have hBg4 := hBg4.chg hc112 ((fun x (hx : x ∈ [g4]) (hy : x ∈ [g9]) => p_i10_i6 x hy hx) g4 (by simp))
        have hBg16 := hBg16.chg hc112 (p_i18_i10 g16 (by simp))
        have hM : MS (blkL ao103 ++ ([g16] ++ ([g9] ++ ([g4] ++ (M))))) w112 := (MS.app (fun x h => hM.chg hc112 x (ml h)) (MS.app (fun x h => hM.chg hc112 x (mr (ml h))) (MS.app (fun x h => hM.chg hc112 x (mr (mr (ml h)))) (MS.app (fun x h => hM.chg hc112 x (mr (mr (mr (ml h))))) (fun x h => hM.chg hc112 x (mr (mr (mr (mr (h))))))))))
        have hC := hC.trans hc112 (fun x h => .inr (e_i10 x h))
        have hBg9 := qhBg9
        obtain ⟨t114, H114, H⟩ := bind_some H
        refine cl ha (by rfl) (by kernel_rfl) (by rfl) (by rfl) (by rfl) (cursor_Reader_Take.walk w112 _ hM g9 t112.2 ao113 cap113 f113 hBg9 (mr (mr (ml (List.mem_singleton.2 rfl)))) t112.1 _ H114) ?_
        rintro _ w114 ⟨ao115, cap115, ao116, cap116, rfl, f115, f116, qhBg9, ne_i115, hc114, hMn⟩ a ha
        have o1 : Ok [g9] (blkL ao103 ++ ([g16] ++ ([g9] ++ ([g4] ++ (M))))) w112.heap.size := (fun _ h => .inl (mr (mr (ml h))))
        have o2 : Ok (blkL ao115 ++ (blkL ao103 ++ ([g16] ++ ([g9] ++ ([g4] ++ (M)))))) (blkL ao103 ++ ([g16] ++ ([g9] ++ ([g4] ++ (M))))) w112.heap.size := (Ok.app (fun x h => .inr (ne_i115 x h)) (Ok.app (fun _ h => .inl (ml h)) (Ok.app (fun _ h => .inl (mr (ml h))) (Ok.app (fun _ h => .inl (mr (mr (ml h)))) (Ok.app (fun _ h => .inl (mr (mr (mr (ml h))))) (fun _ h => .inl (mr (mr (mr (mr (h)))))))))))
        have f1 := f1.chg hc114 o1 o2
        have f113 := f113.chg hc114 o1 o2
        have hBg4 := hBg4.chg hc114 ((fun x (hx : x ∈ [g4]) (hy : x ∈ [g9]) => p_i10_i6 x hy hx) g4 (by simp))
        have hBg16 := hBg16.chg hc114 (p_i18_i10 g16 (by simp))
        have nw : Ok (blkL ao115) (blkL ao103 ++ ([g16] ++ ([g9] ++ ([g4] ++ (M))))) w112.heap.size := (fun x h => .inr (ne_i115 x h))
        have p_i115_i103 : ∀ x ∈ blkL ao115, x ∉ (blkL ao103) := fun x hx hy => absurd (hM x (ml hy)) (Nat.not_lt.2 (ne_i115 x hx))
        have p_i115_i18 : ∀ x ∈ blkL ao115, x ∉ ([g16]) := fun x hx hy => absurd (hM x (mr (ml hy))) (Nat.not_lt.2 (ne_i115 x hx))
        have p_i115_i10 : ∀ x ∈ blkL ao115, x ∉ ([g9]) := fun x hx hy => absurd (hM x (mr (mr (ml hy)))) (Nat.not_lt.2 (ne_i115 x hx))
        have p_i115_i6 : ∀ x ∈ blkL ao115, x ∉ ([g4]) := fun x hx hy => absurd (hM x (mr (mr (mr (ml hy))))) (Nat.not_lt.2 (ne_i115 x hx))
        have p_i115_M : ∀ x ∈ blkL ao115, x ∉ M := fun x hx hy => absurd (hM x (mr (mr (mr (mr (hy)))))) (Nat.not_lt.2 (ne_i115 x hx))
        have e_i115 : ∀ x ∈ blkL ao115, w.heap.size ≤ x := fun x hx => Nat.le_trans hC.size (ne_i115 x hx)
        have hM : MS (blkL ao115 ++ (blkL ao103 ++ ([g16] ++ ([g9] ++ ([g4] ++ (M)))))) w114 := (MS.app (fun x h => hMn x (ml h)) (MS.app (fun x h => hM.chg hc114 x (ml h)) (MS.app (fun x h => hM.chg hc114 x (mr (ml h))) (MS.app (fun x h => hM.chg hc114 x (mr (mr (ml h)))) (MS.app (fun x h => hM.chg hc114 x (mr (mr (mr (ml h))))) (fun x h => hM.chg hc114 x (mr (mr (mr (mr (h)))))))))))
        have hC := hC.trans hc114 (fun x h => .inr (e_i10 x h))
        have hBg9 := qhBg9
        refine seg ha 1 [(0, .slice ao1 a0.length cap1), (2, .pointer (some ⟨g4, 0, none⟩)), (4, .pointer (some ⟨g9, 0, none⟩)), (5, .pointer (some ⟨g16, 0, none⟩)), (63, .slice ao115 t114.1.length cap115), (64, .pointer (some ⟨g16, 20, none⟩))] (by kernel_rfl) fun a ha => ?_
        refine st ha rfl rfl rfl (by kernel_rfl) rfl rfl hBg16 (Nat.le_of_ble_eq_true (by kernel_rfl)) fun a w117 ha hb2 hc118 _ => ?_
        have o1 : Ok [g16] (blkL ao115 ++ (blkL ao103 ++ ([g16] ++ ([g9] ++ ([g4] ++ (M)))))) w114.heap.size := (fun _ h => .inl (mr (mr (ml h))))
        have o2 : Ok (blkL ao115 ++ (blkL ao103 ++ ([g16] ++ ([g9] ++ ([g4] ++ (M)))))) (blkL ao115 ++ (blkL ao103 ++ ([g16] ++ ([g9] ++ ([g4] ++ (M)))))) w114.heap.size := (Ok.app (fun _ h => .inl (ml h)) (Ok.app (fun _ h => .inl (mr (ml h))) (Ok.app (fun _ h => .inl (mr (mr (ml h)))) (Ok.app (fun _ h => .inl (mr (mr (mr (ml h))))) (Ok.app (fun _ h => .inl (mr (mr (mr (mr (ml h)))))) (fun _ h => .inl (mr (mr (mr (mr (mr (h))))))))))))
        have f1 := f1.chg hc118 o1 o2
        have f115 := f115.chg hc118 o1 o2 p_i115_i18 (fun _ h => ml h)
        have f116 := f116.chg hc118 o1 o2
        have hBg4 := hBg4.chg hc118 ((fun x (hx : x ∈ [g4]) (hy : x ∈ [g16]) => p_i18_i6 x hy hx) g4 (by simp))
        have hBg9 := hBg9.chg hc118 ((fun x (hx : x ∈ [g9]) (hy : x ∈ [g16]) => p_i18_i10 x hy hx) g9 (by simp))
        have hM : MS (blkL ao115 ++ (blkL ao103 ++ ([g16] ++ ([g9] ++ ([g4] ++ (M)))))) w117 := (MS.app (fun x h => hM.chg hc118 x (ml h)) (MS.app (fun x h => hM.chg hc118 x (mr (ml h))) (MS.app (fun x h => hM.chg hc118 x (mr (mr (ml h)))) (MS.app (fun x h => hM.chg hc118 x (mr (mr (mr (ml h))))) (MS.app (fun x h => hM.chg hc118 x (mr (mr (mr (mr (ml h)))))) (fun x h => hM.chg hc118 x (mr (mr (mr (mr (mr (h))))))))))))
        have hC := hC.trans hc118 (fun x h => .inr (e_i18 x h))
        have hBg16 : Box w117 g16 (cS_api_Tunnel (⟨t13.1 == (1 : Int), t22.1, t30.1, t108.1, t114.1⟩ : S_api_Tunnel) ao115 cap115) := hb2
        refine hK33 _ _ ?_; try clear hK33 K33
        refine wp_seq_k fun K119 hK119 => ?_
        refine wp_seq_k fun K120 hK120 => ?_
        refine wp_region_lit ?_
        refine ldA (cs := (cS_api_Tunnel (⟨t13.1 == (1 : Int), t22.1, t30.1, t108.1, t114.1⟩ : S_api_Tunnel) ao115 cap115)) ha rfl (by kernel_rfl) rfl rfl rfl (cells_sub (Box.cells hBg16) (all := (cS_api_Tunnel (⟨t13.1 == (1 : Int), t22.1, t30.1, t108.1, t114.1⟩ : S_api_Tunnel) ao115 cap115)) [] [] (by kernel_rfl)) fun a ha => ?_
        have fz := f115.toRSl (M' := blkL ao103 ++ ([g16] ++ ([g9] ++ ([g4] ++ (M))))) (Ok.app (fun _ h => .inl (mr (ml h))) (Ok.app (fun _ h => .inl (mr (mr (ml h)))) (Ok.app (fun _ h => .inl (mr (mr (mr (ml h))))) (Ok.app (fun _ h => .inl (mr (mr (mr (mr (ml h)))))) (fun _ h => .inl (mr (mr (mr (mr (mr (h))))))))))) (fun x hx hm => (List.mem_append.1 hm).elim (fun h => p_i115_i103 x hx h) (fun h => (List.mem_append.1 h).elim (fun h => p_i115_i18 x hx h) (fun h => (List.mem_append.1 h).elim (fun h => p_i115_i10 x hx h) (fun h => (List.mem_append.1 h).elim (fun h => p_i115_i6 x hx h) (fun h => p_i115_M x hx h)))))
        have o1 : Ok [] (blkL ao115 ++ (blkL ao103 ++ ([g16] ++ ([g9] ++ ([g4] ++ (M)))))) w117.heap.size := Ok.nil _ _
        have o2 : Ok (blkL ao103 ++ ([g16] ++ ([g9] ++ ([g4] ++ (M))))) (blkL ao115 ++ (blkL ao103 ++ ([g16] ++ ([g9] ++ ([g4] ++ (M)))))) w117.heap.size := (Ok.app (fun _ h => .inl (mr (ml h))) (Ok.app (fun _ h => .inl (mr (mr (ml h)))) (Ok.app (fun _ h => .inl (mr (mr (mr (ml h))))) (Ok.app (fun _ h => .inl (mr (mr (mr (mr (ml h)))))) (fun _ h => .inl (mr (mr (mr (mr (mr (h)))))))))))
        have f1 := f1.chg (Chg.refl [] _) o1 o2
        have f116 := f116.chg (Chg.refl [] _) o1 o2
        have hBg4 := hBg4.chg (Chg.refl [] _) (fun h => nomatch h)
        have hBg9 := hBg9.chg (Chg.refl [] _) (fun h => nomatch h)
        have hBg16 := hBg16.chg (Chg.refl [] _) (fun h => nomatch h)
        have hM : MS (blkL ao103 ++ ([g16] ++ ([g9] ++ ([g4] ++ (M))))) w117 := (MS.app (fun x h => hM.chg (Chg.refl [] _) x (mr (ml h))) (MS.app (fun x h => hM.chg (Chg.refl [] _) x (mr (mr (ml h)))) (MS.app (fun x h => hM.chg (Chg.refl [] _) x (mr (mr (mr (ml h))))) (MS.app (fun x h => hM.chg (Chg.refl [] _) x (mr (mr (mr (mr (ml h)))))) (fun x h => hM.chg (Chg.refl [] _) x (mr (mr (mr (mr (mr (h)))))))))))
        have hC := hC.trans (Chg.refl [] _) (Ok.nil _ _)
        have f115 := fz
        obtain ⟨t121, H121, H⟩ := bind_some H
        refine cl ha (by rfl) (by kernel_rfl) (by rfl) (by rfl) (by rfl) (pmsi_Bytes.walk w117 _ hM (⟨t13.1 == (1 : Int), t22.1, t30.1, t108.1, t114.1⟩ : S_api_Tunnel) ao115 cap115 f115 k _ H121) ?_
        rintro _ w121 ⟨ao122, cap122, rfl, f122, ne_i122, hc121, hMn⟩ a ha
        have o1 : Ok [] (blkL ao103 ++ ([g16] ++ ([g9] ++ ([g4] ++ (M))))) w117.heap.size := Ok.nil _ _
        have o2 : Ok (blkL ao122 ++ (blkL ao103 ++ ([g16] ++ ([g9] ++ ([g4] ++ (M)))))) (blkL ao103 ++ ([g16] ++ ([g9] ++ ([g4] ++ (M))))) w117.heap.size := (Ok.app (fun x h => .inr (ne_i122 x h)) (Ok.app (fun _ h => .inl (ml h)) (Ok.app (fun _ h => .inl (mr (ml h))) (Ok.app (fun _ h => .inl (mr (mr (ml h)))) (Ok.app (fun _ h => .inl (mr (mr (mr (ml h))))) (fun _ h => .inl (mr (mr (mr (mr (h)))))))))))
        have f1 := f1.chg hc121 o1 o2
        have f115 := f115.chg hc121 o1 o2
        have f116 := f116.chg hc121 o1 o2
        have hBg4 := hBg4.chg hc121 (fun h => nomatch h)
        have hBg9 := hBg9.chg hc121 (fun h => nomatch h)
        have hBg16 := hBg16.chg hc121 (fun h => nomatch h)
        have nw : Ok (blkL ao122) (blkL ao103 ++ ([g16] ++ ([g9] ++ ([g4] ++ (M))))) w117.heap.size := (fun x h => .inr (ne_i122 x h))
        have p_i122_i103 : ∀ x ∈ blkL ao122, x ∉ (blkL ao103) := fun x hx hy => absurd (hM x (ml hy)) (Nat.not_lt.2 (ne_i122 x hx))
        have p_i122_i18 : ∀ x ∈ blkL ao122, x ∉ ([g16]) := fun x hx hy => absurd (hM x (mr (ml hy))) (Nat.not_lt.2 (ne_i122 x hx))
        have p_i122_i10 : ∀ x ∈ blkL ao122, x ∉ ([g9]) := fun x hx hy => absurd (hM x (mr (mr (ml hy)))) (Nat.not_lt.2 (ne_i122 x hx))
        have p_i122_i6 : ∀ x ∈ blkL ao122, x ∉ ([g4]) := fun x hx hy => absurd (hM x (mr (mr (mr (ml hy))))) (Nat.not_lt.2 (ne_i122 x hx))
        have p_i122_M : ∀ x ∈ blkL ao122, x ∉ M := fun x hx hy => absurd (hM x (mr (mr (mr (mr (hy)))))) (Nat.not_lt.2 (ne_i122 x hx))
        have e_i122 : ∀ x ∈ blkL ao122, w.heap.size ≤ x := fun x hx => Nat.le_trans hC.size (ne_i122 x hx)
        have hM : MS (blkL ao122 ++ (blkL ao103 ++ ([g16] ++ ([g9] ++ ([g4] ++ (M)))))) w121 := (MS.app (fun x h => hMn x (ml h)) (MS.app (fun x h => hM.chg hc121 x (ml h)) (MS.app (fun x h => hM.chg hc121 x (mr (ml h))) (MS.app (fun x h => hM.chg hc121 x (mr (mr (ml h)))) (MS.app (fun x h => hM.chg hc121 x (mr (mr (mr (ml h))))) (fun x h => hM.chg hc121 x (mr (mr (mr (mr (h)))))))))))
        have hC := hC.trans hc121 (Ok.nil _ _)
        refine seg ha 5 [(0, .slice ao1 a0.length cap1), (2, .pointer (some ⟨g4, 0, none⟩)), (4, .pointer (some ⟨g9, 0, none⟩)), (5, .pointer (some ⟨g16, 0, none⟩)), (6, .slice ao122 t121.1.length cap122), (7, .int .i64 t121.2)] (by kernel_rfl) fun a ha => ?_
        refine hK120 _ _ ?_; try clear hK120 K120
        refine wp_seq_k fun K123 hK123 => ?_
        refine wp_region_lit ?_
        obtain ⟨s124, H124, H⟩ := bind_some H
        have J124 : ∀ (a : Act) (w124 : World), Has a Tryd.f15.ntmps [(2, .pointer (some ⟨g4, 0, none⟩)), (5, .pointer (some ⟨g16, 0, none⟩)), (102, .bool s124)] → (RSl (rInt .u8) 5 w124 ([g16] ++ ([g9] ++ ([g4] ++ (M)))) ao116 cap116 t114.2.rest.left) → (RSl (rInt .u8) 5 w124 ([g16] ++ ([g9] ++ ([g4] ++ (M)))) ao115 cap115 t114.1) → (Box w124 g4 (cS_api_Tunnel (⟨false, (0 : Int), (0 : Int), (⟨(0 : Int), (List.replicate 16 (0 : Int))⟩ : S_api_Addr), ([] : List Int)⟩ : S_api_Tunnel) none 0)) → (Box w124 g9 (cS_cursor_Reader t114.2 ao116 cap116)) → (Box w124 g16 (cS_api_Tunnel (⟨t13.1 == (1 : Int), t22.1, t30.1, t108.1, t114.1⟩ : S_api_Tunnel) ao115 cap115)) → (Chg [] w w124) → (MS ([g16] ++ ([g9] ++ ([g4] ++ (M)))) w124) → K123 a w124 := by
          intro a w124 ha f116 f115 hBg4 hBg9 hBg16 hC hM
          refine hK123 _ _ ?_; try clear hK123 K123
          refine cnd ha rfl (fun hc125 => ?_) (fun hc125 => ?_)
          · have H := ite_t hc125 H
            refine wp_seq_k fun K126 hK126 => ?_
            refine wp_region_lit ?_
            refine opk (v := .agg (cS_api_Tunnel (⟨false, (0 : Int), (0 : Int), (⟨(0 : Int), (List.replicate 16 (0 : Int))⟩ : S_api_Addr), ([] : List Int)⟩ : S_api_Tunnel) none 0).toArray) ha rfl rfl rfl rfl rfl (fun w => by kernel_rfl) fun a ha => ?_
            refine stA (l := (cS_api_Tunnel (⟨false, (0 : Int), (0 : Int), (⟨(0 : Int), (List.replicate 16 (0 : Int))⟩ : S_api_Addr), ([] : List Int)⟩ : S_api_Tunnel) none 0)) ha rfl rfl rfl (by kernel_rfl) rfl rfl hBg4 rfl fun a w127 ha hb2 hc128 _ => ?_
            have o1 : Ok [g4] ([g16] ++ ([g9] ++ ([g4] ++ (M)))) w124.heap.size := (fun _ h => .inl (mr (mr (ml h))))
            have o2 : Ok ([g16] ++ ([g9] ++ ([g4] ++ (M)))) ([g16] ++ ([g9] ++ ([g4] ++ (M)))) w124.heap.size := (Ok.app (fun _ h => .inl (ml h)) (Ok.app (fun _ h => .inl (mr (ml h))) (Ok.app (fun _ h => .inl (mr (mr (ml h)))) (fun _ h => .inl (mr (mr (mr (h))))))))
            have f116 := f116.chg hc128 o1 o2
            have f115 := f115.chg hc128 o1 o2
            have hBg9 := hBg9.chg hc128 (p_i10_i6 g9 (by simp))
            have hBg16 := hBg16.chg hc128 (p_i18_i6 g16 (by simp))
            have hM : MS ([g16] ++ ([g9] ++ ([g4] ++ (M)))) w127 := (MS.app (fun x h => hM.chg hc128 x (ml h)) (MS.app (fun x h => hM.chg hc128 x (mr (ml h))) (MS.app (fun x h => hM.chg hc128 x (mr (mr (ml h)))) (fun x h => hM.chg hc128 x (mr (mr (mr (h))))))))
            have hC := hC.trans hc128 (fun x h => .inr (e_i6 x h))
            have hBg4 : Box w127 g4 (cS_api_Tunnel (⟨false, (0 : Int), (0 : Int), (⟨(0 : Int), (List.replicate 16 (0 : Int))⟩ : S_api_Addr), ([] : List Int)⟩ : S_api_Tunnel) none 0) := hb2
            refine seg ha 1 [(2, .pointer (some ⟨g4, 0, none⟩)), (3, .int .i64 (4 : Int))] (by kernel_rfl) fun a ha => ?_
            refine hK126 _ _ ?_; try clear hK126 K126
            refine wp_ret ?_
            try simp only [Exit.then, Exit.inBlock]
            have o1 : Ok [] ([g16] ++ ([g9] ++ ([g4] ++ (M)))) w127.heap.size := Ok.nil _ _
            have o2 : Ok (M) ([g16] ++ ([g9] ++ ([g4] ++ (M)))) w127.heap.size := (fun _ h => .inl (mr (mr (mr (h)))))
            have f116 := f116.chg (Chg.refl [] _) o1 o2
            have f115 := f115.chg (Chg.refl [] _) o1 o2
            have hBg4 := hBg4.chg (Chg.refl [] _) (fun h => nomatch h)
            have hBg9 := hBg9.chg (Chg.refl [] _) (fun h => nomatch h)
            have hBg16 := hBg16.chg (Chg.refl [] _) (fun h => nomatch h)
            have hM : MS (M) w127 := (fun x h => hM.chg (Chg.refl [] _) x (mr (mr (mr (h)))))
            have hC := hC.trans (Chg.refl [] _) (Ok.nil _ _)
            obtain rfl := Option.some.inj H
            refine rtr ha (res2 rfl (roA ha rfl hBg4 (by kernel_rfl)) (roT ha rfl)) ?_
            exact ⟨none, 0, rfl, (RSl.nil (Nat.zero_le _)), hC, hM⟩
          · have H := ite_f hc125 H
            refine wp_skip ?_
            refine hK119 _ _ ?_; try clear hK119 K119
            refine wp_seq_k fun K129 hK129 => ?_
            refine wp_region_lit ?_
            refine ldA (cs := (cS_api_Tunnel (⟨t13.1 == (1 : Int), t22.1, t30.1, t108.1, t114.1⟩ : S_api_Tunnel) ao115 cap115)) ha rfl (by kernel_rfl) rfl rfl rfl (cells_sub (Box.cells hBg16) (all := (cS_api_Tunnel (⟨t13.1 == (1 : Int), t22.1, t30.1, t108.1, t114.1⟩ : S_api_Tunnel) ao115 cap115)) [] [] (by kernel_rfl)) fun a ha => ?_
            refine stA (l := (cS_api_Tunnel (⟨t13.1 == (1 : Int), t22.1, t30.1, t108.1, t114.1⟩ : S_api_Tunnel) ao115 cap115)) ha rfl rfl rfl (by kernel_rfl) rfl rfl hBg4 rfl fun a w130 ha hb2 hc131 _ => ?_
            have o1 : Ok [g4] ([g16] ++ ([g9] ++ ([g4] ++ (M)))) w124.heap.size := (fun _ h => .inl (mr (mr (ml h))))
            have o2 : Ok ([g16] ++ ([g9] ++ ([g4] ++ (M)))) ([g16] ++ ([g9] ++ ([g4] ++ (M)))) w124.heap.size := (Ok.app (fun _ h => .inl (ml h)) (Ok.app (fun _ h => .inl (mr (ml h))) (Ok.app (fun _ h => .inl (mr (mr (ml h)))) (fun _ h => .inl (mr (mr (mr (h))))))))
            have f115 := f115.chg hc131 o1 o2
            have f116 := f116.chg hc131 o1 o2
            have hBg9 := hBg9.chg hc131 (p_i10_i6 g9 (by simp))
            have hBg16 := hBg16.chg hc131 (p_i18_i6 g16 (by simp))
            have hM : MS ([g16] ++ ([g9] ++ ([g4] ++ (M)))) w130 := (MS.app (fun x h => hM.chg hc131 x (ml h)) (MS.app (fun x h => hM.chg hc131 x (mr (ml h))) (MS.app (fun x h => hM.chg hc131 x (mr (mr (ml h)))) (fun x h => hM.chg hc131 x (mr (mr (mr (h))))))))
            have hC := hC.trans hc131 (fun x h => .inr (e_i6 x h))
            have hBg4 : Box w130 g4 (cS_api_Tunnel (⟨t13.1 == (1 : Int), t22.1, t30.1, t108.1, t114.1⟩ : S_api_Tunnel) ao115 cap115) := hb2
            refine seg ha 1 [(2, .pointer (some ⟨g4, 0, none⟩)), (3, .int .i64 (0 : Int))] (by kernel_rfl) fun a ha => ?_
            refine hK129 _ _ ?_; try clear hK129 K129
            refine wp_ret ?_
            try simp only [Exit.then, Exit.inBlock]
            have o1 : Ok [] ([g16] ++ ([g9] ++ ([g4] ++ (M)))) w130.heap.size := Ok.nil _ _
            have o2 : Ok (M) ([g16] ++ ([g9] ++ ([g4] ++ (M)))) w130.heap.size := (fun _ h => .inl (mr (mr (mr (h)))))
            have f115 := f115.chg (Chg.refl [] _) o1 o2
            have f116 := f116.chg (Chg.refl [] _) o1 o2
            have hBg4 := hBg4.chg (Chg.refl [] _) (fun h => nomatch h)
            have hBg9 := hBg9.chg (Chg.refl [] _) (fun h => nomatch h)
            have hBg16 := hBg16.chg (Chg.refl [] _) (fun h => nomatch h)
            have hM : MS (M) w130 := (fun x h => hM.chg (Chg.refl [] _) x (mr (mr (mr (h)))))
            have hC := hC.trans (Chg.refl [] _) (Ok.nil _ _)
            obtain rfl := Option.some.inj H
            refine rtr ha (res2 rfl (roA ha rfl hBg4 (by kernel_rfl)) (roT ha rfl)) ?_
            exact ⟨ao115, cap115, rfl, f115, hC, hM⟩
        have H := H124
        refine seg ha 3 [(0, .slice ao1 a0.length cap1), (2, .pointer (some ⟨g4, 0, none⟩)), (5, .pointer (some ⟨g16, 0, none⟩)), (6, .slice ao122 t121.1.length cap122), (7, .int .i64 t121.2), (91, .pointer (some ⟨g9, 0, none⟩))] (by kernel_rfl) fun a ha => ?_
        obtain ⟨t132, H132, H⟩ := bind_some H
        refine cl ha (by rfl) (by kernel_rfl) (by rfl) (by rfl) (by rfl) (cursor_rest_Bad.walk w121 _ hM g9 t114.2.rest ao116 cap116 f116 hBg9 (mr (mr (mr (ml (List.mem_singleton.2 rfl))))) _ H132) ?_
        rintro _ w132 ⟨rfl, hc132, hMn⟩ a ha
        have o1 : Ok [] (blkL ao122 ++ (blkL ao103 ++ ([g16] ++ ([g9] ++ ([g4] ++ (M)))))) w121.heap.size := Ok.nil _ _
        have o2 : Ok (blkL ao122 ++ (blkL ao103 ++ ([g16] ++ ([g9] ++ ([g4] ++ (M)))))) (blkL ao122 ++ (blkL ao103 ++ ([g16] ++ ([g9] ++ ([g4] ++ (M)))))) w121.heap.size := (Ok.app (fun _ h => .inl (ml h)) (Ok.app (fun _ h => .inl (mr (ml h))) (Ok.app (fun _ h => .inl (mr (mr (ml h)))) (Ok.app (fun _ h => .inl (mr (mr (mr (ml h))))) (Ok.app (fun _ h => .inl (mr (mr (mr (mr (ml h)))))) (fun _ h => .inl (mr (mr (mr (mr (mr (h))))))))))))
        have f1 := f1.chg hc132 o1 o2
        have f122 := f122.chg hc132 o1 o2 (fun _ _ h => nomatch h) (fun _ h => ml h)
        have f116 := f116.chg hc132 o1 o2
        have f115 := f115.chg hc132 o1 o2
        have hBg4 := hBg4.chg hc132 (fun h => nomatch h)
        have hBg9 := hBg9.chg hc132 (fun h => nomatch h)
        have hBg16 := hBg16.chg hc132 (fun h => nomatch h)
        have hM : MS (blkL ao122 ++ (blkL ao103 ++ ([g16] ++ ([g9] ++ ([g4] ++ (M)))))) w132 := (MS.app (fun x h => hM.chg hc132 x (ml h)) (MS.app (fun x h => hM.chg hc132 x (mr (ml h))) (MS.app (fun x h => hM.chg hc132 x (mr (mr (ml h)))) (MS.app (fun x h => hM.chg hc132 x (mr (mr (mr (ml h))))) (MS.app (fun x h => hM.chg hc132 x (mr (mr (mr (mr (ml h)))))) (fun x h => hM.chg hc132 x (mr (mr (mr (mr (mr (h))))))))))))
        have hC := hC.trans hc132 (Ok.nil _ _)
        refine seg ha 1 [(93, .bool t132), (0, .slice ao1 a0.length cap1), (2, .pointer (some ⟨g4, 0, none⟩)), (5, .pointer (some ⟨g16, 0, none⟩)), (6, .slice ao122 t121.1.length cap122), (7, .int .i64 t121.2)] (by kernel_rfl) fun a ha => ?_
        rcases Bool.eq_false_or_eq_true (t132) with hb133 | hb133
        · have ha := ha.lit hb133
          have H := ite_t hb133 H
          refine sgh ha 9 [1, 1, 3, 0, 1, 1, 1, 1, 3] [(2, .pointer (some ⟨g4, 0, none⟩)), (5, .pointer (some ⟨g16, 0, none⟩)), (102, .bool true)] (by kernel_rfl) fun a ha => ?_
          obtain rfl := Option.some.inj H
          have o1 : Ok [] (blkL ao122 ++ (blkL ao103 ++ ([g16] ++ ([g9] ++ ([g4] ++ (M)))))) w132.heap.size := Ok.nil _ _
          have o2 : Ok ([g16] ++ ([g9] ++ ([g4] ++ (M)))) (blkL ao122 ++ (blkL ao103 ++ ([g16] ++ ([g9] ++ ([g4] ++ (M)))))) w132.heap.size := (Ok.app (fun _ h => .inl (mr (mr (ml h)))) (Ok.app (fun _ h => .inl (mr (mr (mr (ml h))))) (Ok.app (fun _ h => .inl (mr (mr (mr (mr (ml h)))))) (fun _ h => .inl (mr (mr (mr (mr (mr (h))))))))))
          have f116 := f116.chg (Chg.refl [] _) o1 o2
          have f115 := f115.chg (Chg.refl [] _) o1 o2
          have hBg4 := hBg4.chg (Chg.refl [] _) (fun h => nomatch h)
          have hBg9 := hBg9.chg (Chg.refl [] _) (fun h => nomatch h)
          have hBg16 := hBg16.chg (Chg.refl [] _) (fun h => nomatch h)
          have hM : MS ([g16] ++ ([g9] ++ ([g4] ++ (M)))) w132 := (MS.app (fun x h => hM.chg (Chg.refl [] _) x (mr (mr (ml h)))) (MS.app (fun x h => hM.chg (Chg.refl [] _) x (mr (mr (mr (ml h))))) (MS.app (fun x h => hM.chg (Chg.refl [] _) x (mr (mr (mr (mr (ml h)))))) (fun x h => hM.chg (Chg.refl [] _) x (mr (mr (mr (mr (mr (h))))))))))
          have hC := hC.trans (Chg.refl [] _) (Ok.nil _ _)
          exact J124 _ _ (ha.sel (by kernel_rfl)) f116 f115 hBg4 hBg9 hBg16 hC hM
        · have ha := ha.lit hb133
          have H := ite_f hb133 H
          refine sgh ha 4 [2, 2, 4, 0] [(97, .bool (t121.2 != (0 : Int))), (0, .slice ao1 a0.length cap1), (2, .pointer (some ⟨g4, 0, none⟩)), (5, .pointer (some ⟨g16, 0, none⟩)), (6, .slice ao122 t121.1.length cap122)] (by kernel_rfl) fun a ha => ?_
          rcases Bool.eq_false_or_eq_true (t121.2 != (0 : Int)) with hb134 | hb134
          · have ha := ha.lit hb134
            have H := ite_t hb134 H
            refine sgh ha 5 [1, 1, 1, 1, 3] [(2, .pointer (some ⟨g4, 0, none⟩)), (5, .pointer (some ⟨g16, 0, none⟩)), (102, .bool true)] (by kernel_rfl) fun a ha => ?_
            obtain rfl := Option.some.inj H
            have o1 : Ok [] (blkL ao122 ++ (blkL ao103 ++ ([g16] ++ ([g9] ++ ([g4] ++ (M)))))) w132.heap.size := Ok.nil _ _
            have o2 : Ok ([g16] ++ ([g9] ++ ([g4] ++ (M)))) (blkL ao122 ++ (blkL ao103 ++ ([g16] ++ ([g9] ++ ([g4] ++ (M)))))) w132.heap.size := (Ok.app (fun _ h => .inl (mr (mr (ml h)))) (Ok.app (fun _ h => .inl (mr (mr (mr (ml h))))) (Ok.app (fun _ h => .inl (mr (mr (mr (mr (ml h)))))) (fun _ h => .inl (mr (mr (mr (mr (mr (h))))))))))
            have f116 := f116.chg (Chg.refl [] _) o1 o2
            have f115 := f115.chg (Chg.refl [] _) o1 o2
            have hBg4 := hBg4.chg (Chg.refl [] _) (fun h => nomatch h)
            have hBg9 := hBg9.chg (Chg.refl [] _) (fun h => nomatch h)
            have hBg16 := hBg16.chg (Chg.refl [] _) (fun h => nomatch h)
            have hM : MS ([g16] ++ ([g9] ++ ([g4] ++ (M)))) w132 := (MS.app (fun x h => hM.chg (Chg.refl [] _) x (mr (mr (ml h)))) (MS.app (fun x h => hM.chg (Chg.refl [] _) x (mr (mr (mr (ml h))))) (MS.app (fun x h => hM.chg (Chg.refl [] _) x (mr (mr (mr (mr (ml h)))))) (fun x h => hM.chg (Chg.refl [] _) x (mr (mr (mr (mr (mr (h))))))))))
            have hC := hC.trans (Chg.refl [] _) (Ok.nil _ _)
            exact J124 _ _ (ha.sel (by kernel_rfl)) f116 f115 hBg4 hBg9 hBg16 hC hM
          · have ha := ha.lit hb134
            have H := ite_f hb134 H
            refine sgh ha 2 [2, 2] [(2, .pointer (some ⟨g4, 0, none⟩)), (5, .pointer (some ⟨g16, 0, none⟩)), (97, .bool false), (98, .slice ao122 t121.1.length cap122), (99, .slice ao1 a0.length cap1)] (by kernel_rfl) fun a ha => ?_
            have fz := f122.toRSl (M' := blkL ao103 ++ ([g16] ++ ([g9] ++ ([g4] ++ (M))))) (Ok.app (fun _ h => .inl (mr (ml h))) (Ok.app (fun _ h => .inl (mr (mr (ml h)))) (Ok.app (fun _ h => .inl (mr (mr (mr (ml h))))) (Ok.app (fun _ h => .inl (mr (mr (mr (mr (ml h)))))) (fun _ h => .inl (mr (mr (mr (mr (mr (h))))))))))) (fun x hx hm => (List.mem_append.1 hm).elim (fun h => p_i122_i103 x hx h) (fun h => (List.mem_append.1 h).elim (fun h => p_i122_i18 x hx h) (fun h => (List.mem_append.1 h).elim (fun h => p_i122_i10 x hx h) (fun h => (List.mem_append.1 h).elim (fun h => p_i122_i6 x hx h) (fun h => p_i122_M x hx h)))))
            have o1 : Ok [] (blkL ao122 ++ (blkL ao103 ++ ([g16] ++ ([g9] ++ ([g4] ++ (M)))))) w132.heap.size := Ok.nil _ _
            have o2 : Ok (blkL ao103 ++ ([g16] ++ ([g9] ++ ([g4] ++ (M))))) (blkL ao122 ++ (blkL ao103 ++ ([g16] ++ ([g9] ++ ([g4] ++ (M)))))) w132.heap.size := (Ok.app (fun _ h => .inl (mr (ml h))) (Ok.app (fun _ h => .inl (mr (mr (ml h)))) (Ok.app (fun _ h => .inl (mr (mr (mr (ml h))))) (Ok.app (fun _ h => .inl (mr (mr (mr (mr (ml h)))))) (fun _ h => .inl (mr (mr (mr (mr (mr (h)))))))))))
            have f1 := f1.chg (Chg.refl [] _) o1 o2
            have f116 := f116.chg (Chg.refl [] _) o1 o2
            have f115 := f115.chg (Chg.refl [] _) o1 o2
            have hBg4 := hBg4.chg (Chg.refl [] _) (fun h => nomatch h)
            have hBg9 := hBg9.chg (Chg.refl [] _) (fun h => nomatch h)
            have hBg16 := hBg16.chg (Chg.refl [] _) (fun h => nomatch h)
            have hM : MS (blkL ao103 ++ ([g16] ++ ([g9] ++ ([g4] ++ (M))))) w132 := (MS.app (fun x h => hM.chg (Chg.refl [] _) x (mr (ml h))) (MS.app (fun x h => hM.chg (Chg.refl [] _) x (mr (mr (ml h)))) (MS.app (fun x h => hM.chg (Chg.refl [] _) x (mr (mr (mr (ml h))))) (MS.app (fun x h => hM.chg (Chg.refl [] _) x (mr (mr (mr (mr (ml h)))))) (fun x h => hM.chg (Chg.refl [] _) x (mr (mr (mr (mr (mr (h)))))))))))
            have hC := hC.trans (Chg.refl [] _) (Ok.nil _ _)
            have f122 := fz
            obtain ⟨t135, H135, H⟩ := bind_some H
            refine cl ha (by rfl) (by kernel_rfl) (by rfl) (by rfl) (by rfl) (bytes_Equal.walk w132 _ hM t121.1 ao122 cap122 f122 a0 ao1 cap1 f1 _ H135) ?_
            rintro _ w135 ⟨rfl, hc135, hMn⟩ a ha
            have o1 : Ok [] (blkL ao103 ++ ([g16] ++ ([g9] ++ ([g4] ++ (M))))) w132.heap.size := Ok.nil _ _
            have o2 : Ok (blkL ao103 ++ ([g16] ++ ([g9] ++ ([g4] ++ (M))))) (blkL ao103 ++ ([g16] ++ ([g9] ++ ([g4] ++ (M))))) w132.heap.size := (Ok.app (fun _ h => .inl (ml h)) (Ok.app (fun _ h => .inl (mr (ml h))) (Ok.app (fun _ h => .inl (mr (mr (ml h)))) (Ok.app (fun _ h => .inl (mr (mr (mr (ml h))))) (fun _ h => .inl (mr (mr (mr (mr (h))))))))))
            have f122 := f122.chg hc135 o1 o2
            have f1 := f1.chg hc135 o1 o2
            have f116 := f116.chg hc135 o1 o2
            have f115 := f115.chg hc135 o1 o2
            have hBg4 := hBg4.chg hc135 (fun h => nomatch h)
            have hBg9 := hBg9.chg hc135 (fun h => nomatch h)
            have hBg16 := hBg16.chg hc135 (fun h => nomatch h)
            have hM : MS (blkL ao103 ++ ([g16] ++ ([g9] ++ ([g4] ++ (M))))) w135 := (MS.app (fun x h => hM.chg hc135 x (ml h)) (MS.app (fun x h => hM.chg hc135 x (mr (ml h))) (MS.app (fun x h => hM.chg hc135 x (mr (mr (ml h)))) (MS.app (fun x h => hM.chg hc135 x (mr (mr (mr (ml h))))) (fun x h => hM.chg hc135 x (mr (mr (mr (mr (h))))))))))
            have hC := hC.trans hc135 (Ok.nil _ _)
            refine sgh ha 2 [2, 4] [(2, .pointer (some ⟨g4, 0, none⟩)), (5, .pointer (some ⟨g16, 0, none⟩)), (102, .bool (!t135))] (by kernel_rfl) fun a ha => ?_
            obtain rfl := Option.some.inj H
            have o1 : Ok [] (blkL ao103 ++ ([g16] ++ ([g9] ++ ([g4] ++ (M))))) w135.heap.size := Ok.nil _ _
            have o2 : Ok ([g16] ++ ([g9] ++ ([g4] ++ (M)))) (blkL ao103 ++ ([g16] ++ ([g9] ++ ([g4] ++ (M))))) w135.heap.size := (Ok.app (fun _ h => .inl (mr (ml h))) (Ok.app (fun _ h => .inl (mr (mr (ml h)))) (Ok.app (fun _ h => .inl (mr (mr (mr (ml h))))) (fun _ h => .inl (mr (mr (mr (mr (h)))))))))
            have f116 := f116.chg (Chg.refl [] _) o1 o2
            have f115 := f115.chg (Chg.refl [] _) o1 o2
            have hBg4 := hBg4.chg (Chg.refl [] _) (fun h => nomatch h)
            have hBg9 := hBg9.chg (Chg.refl [] _) (fun h => nomatch h)
            have hBg16 := hBg16.chg (Chg.refl [] _) (fun h => nomatch h)
            have hM : MS ([g16] ++ ([g9] ++ ([g4] ++ (M)))) w135 := (MS.app (fun x h => hM.chg (Chg.refl [] _) x (mr (ml h))) (MS.app (fun x h => hM.chg (Chg.refl [] _) x (mr (mr (ml h)))) (MS.app (fun x h => hM.chg (Chg.refl [] _) x (mr (mr (mr (ml h))))) (fun x h => hM.chg (Chg.refl [] _) x (mr (mr (mr (mr (h)))))))))
            have hC := hC.trans (Chg.refl [] _) (Ok.nil _ _)
            exact J124 _ _ (ha.sel (by kernel_rfl)) f116 f115 hBg4 hBg9 hBg16 hC hM
      · have H := ite_f hc100 H
        refine wp_seq_k fun K136 hK136 => ?_
        obtain ⟨s137, H137, H⟩ := bind_some H
        have J137 : ∀ (a : Act) (w137 : World), Has a Tryd.f15.ntmps [(0, .slice ao1 a0.length cap1), (2, .pointer (some ⟨g4, 0, none⟩)), (4, .pointer (some ⟨g9, 0, none⟩)), (5, .pointer (some ⟨g16, 0, none⟩)), (65, .bool s137)] → (RSl (rInt .u8) 5 w137 ([g16] ++ ([g9] ++ ([g4] ++ (M)))) ao1 cap1 a0) → (RSl (rInt .u8) 5 w137 ([g16] ++ ([g9] ++ ([g4] ++ (M)))) ao29 cap29 t27.2.rest.left) → (Box w137 g4 (cS_api_Tunnel (⟨false, (0 : Int), (0 : Int), (⟨(0 : Int), (List.replicate 16 (0 : Int))⟩ : S_api_Addr), ([] : List Int)⟩ : S_api_Tunnel) none 0)) → (Box w137 g9 (cS_cursor_Reader t27.2 ao29 cap29)) → (Box w137 g16 (cS_api_Tunnel (⟨t13.1 == (1 : Int), t22.1, t30.1, (⟨(0 : Int), (List.replicate 16 (0 : Int))⟩ : S_api_Addr), ([] : List Int)⟩ : S_api_Tunnel) none 0)) → (Chg [] w w137) → (MS ([g16] ++ ([g9] ++ ([g4] ++ (M)))) w137) → K136 a w137 := by
          intro a w137 ha f1 f29 hBg4 hBg9 hBg16 hC hM
          refine hK136 _ _ ?_; try clear hK136 K136
          refine cnd ha rfl (fun hc138 => ?_) (fun hc138 => ?_)
          · have H := ite_t hc138 H
            refine wp_seq_k fun K139 hK139 => ?_
            refine wp_region_lit ?_
            refine seg ha 4 [(0, .slice ao1 a0.length cap1), (2, .pointer (some ⟨g4, 0, none⟩)), (4, .pointer (some ⟨g9, 0, none⟩)), (5, .pointer (some ⟨g16, 0, none⟩)), (69, .pointer (some ⟨g9, 0, none⟩)), (72, .pointer (some ⟨g9, 0, none⟩))] (by kernel_rfl) fun a ha => ?_
            obtain ⟨t140, H140, H⟩ := bind_some H
            refine cl ha (by rfl) (by kernel_rfl) (by rfl) (by rfl) (by rfl) (cursor_rest_Left.walk w137 _ hM g9 t27.2.rest ao29 cap29 f29 hBg9 (mr (ml (List.mem_singleton.2 rfl))) _ H140) ?_
            rintro _ w140 ⟨rfl, hc140, hMn⟩ a ha
            have o1 : Ok [] ([g16] ++ ([g9] ++ ([g4] ++ (M)))) w137.heap.size := Ok.nil _ _
            have o2 : Ok ([g16] ++ ([g9] ++ ([g4] ++ (M)))) ([g16] ++ ([g9] ++ ([g4] ++ (M)))) w137.heap.size := (Ok.app (fun _ h => .inl (ml h)) (Ok.app (fun _ h => .inl (mr (ml h))) (Ok.app (fun _ h => .inl (mr (mr (ml h)))) (fun _ h => .inl (mr (mr (mr (h))))))))
            have f1 := f1.chg hc140 o1 o2
            have f29 := f29.chg hc140 o1 o2
            have hBg4 := hBg4.chg hc140 (fun h => nomatch h)
            have hBg9 := hBg9.chg hc140 (fun h => nomatch h)
            have hBg16 := hBg16.chg hc140 (fun h => nomatch h)
            have hM : MS ([g16] ++ ([g9] ++ ([g4] ++ (M)))) w140 := (MS.app (fun x h => hM.chg hc140 x (ml h)) (MS.app (fun x h => hM.chg hc140 x (mr (ml h))) (MS.app (fun x h => hM.chg hc140 x (mr (mr (ml h)))) (fun x h => hM.chg hc140 x (mr (mr (mr (h))))))))
            have hC := hC.trans hc140 (Ok.nil _ _)
            refine seg ha 1 [(0, .slice ao1 a0.length cap1), (2, .pointer (some ⟨g4, 0, none⟩)), (4, .pointer (some ⟨g9, 0, none⟩)), (5, .pointer (some ⟨g16, 0, none⟩)), (69, .pointer (some ⟨g9, 0, none⟩)), (74, .int .i64 (IntKind.i64.wrap (Int.tdiv t140 (2 : Int))))] (by kernel_rfl) fun a ha => ?_
            obtain ⟨t141, H141, H⟩ := bind_some H
            refine cl ha (by rfl) (by kernel_rfl) (by rfl) (by rfl) (by rfl) (pmsi_root.walk w140 _ hM g9 t27.2 ao29 cap29 f29 hBg9 (mr (ml (List.mem_singleton.2 rfl))) (IntKind.i64.wrap (Int.tdiv t140 (2 : Int))) _ H141) ?_
            rintro _ w141 ⟨ao142, cap142, rfl, f142, qhBg9, hc141, hMn⟩ a ha
            have o1 : Ok [g9] ([g16] ++ ([g9] ++ ([g4] ++ (M)))) w140.heap.size := (fun _ h => .inl (mr (ml h)))
            have o2 : Ok ([g16] ++ ([g9] ++ ([g4] ++ (M)))) ([g16] ++ ([g9] ++ ([g4] ++ (M)))) w140.heap.size := (Ok.app (fun _ h => .inl (ml h)) (Ok.app (fun _ h => .inl (mr (ml h))) (Ok.app (fun _ h => .inl (mr (mr (ml h)))) (fun _ h => .inl (mr (mr (mr (h))))))))
            have f1 := f1.chg hc141 o1 o2
            have f29 := f29.chg hc141 o1 o2
            have hBg4 := hBg4.chg hc141 ((fun x (hx : x ∈ [g4]) (hy : x ∈ [g9]) => p_i10_i6 x hy hx) g4 (by simp))
            have hBg16 := hBg16.chg hc141 (p_i18_i10 g16 (by simp))
            have hM : MS ([g16] ++ ([g9] ++ ([g4] ++ (M)))) w141 := (MS.app (fun x h => hM.chg hc141 x (ml h)) (MS.app (fun x h => hM.chg hc141 x (mr (ml h))) (MS.app (fun x h => hM.chg hc141 x (mr (mr (ml h)))) (fun x h => hM.chg hc141 x (mr (mr (mr (h))))))))
            have hC := hC.trans hc141 (fun x h => .inr (e_i10 x h))
            have hBg9 := qhBg9
            refine seg ha 1 [(0, .slice ao1 a0.length cap1), (2, .pointer (some ⟨g4, 0, none⟩)), (4, .pointer (some ⟨g9, 0, none⟩)), (5, .pointer (some ⟨g16, 0, none⟩)), (75, .agg (cS_api_Addr t141.1).toArray), (76, .pointer (some ⟨g16, 3, none⟩))] (by kernel_rfl) fun a ha => ?_
            refine stA (l := (cS_api_Addr t141.1)) ha rfl rfl rfl (by kernel_rfl) rfl rfl hBg16 rfl fun a w143 ha hb2 hc144 _ => ?_
            have o1 : Ok [g16] ([g16] ++ ([g9] ++ ([g4] ++ (M)))) w141.heap.size := (fun _ h => .inl (ml h))
            have o2 : Ok ([g16] ++ ([g9] ++ ([g4] ++ (M)))) ([g16] ++ ([g9] ++ ([g4] ++ (M)))) w141.heap.size := (Ok.app (fun _ h => .inl (ml h)) (Ok.app (fun _ h => .inl (mr (ml h))) (Ok.app (fun _ h => .inl (mr (mr (ml h)))) (fun _ h => .inl (mr (mr (mr (h))))))))
            have f1 := f1.chg hc144 o1 o2
            have f142 := f142.chg hc144 o1 o2
            have hBg4 := hBg4.chg hc144 ((fun x (hx : x ∈ [g4]) (hy : x ∈ [g16]) => p_i18_i6 x hy hx) g4 (by simp))
            have hBg9 := hBg9.chg hc144 ((fun x (hx : x ∈ [g9]) (hy : x ∈ [g16]) => p_i18_i10 x hy hx) g9 (by simp))
            have hM : MS ([g16] ++ ([g9] ++ ([g4] ++ (M)))) w143 := (MS.app (fun x h => hM.chg hc144 x (ml h)) (MS.app (fun x h => hM.chg hc144 x (mr (ml h))) (MS.app (fun x h => hM.chg hc144 x (mr (mr (ml h)))) (fun x h => hM.chg hc144 x (mr (mr (mr (h))))))))
            have hC := hC.trans hc144 (fun x h => .inr (e_i18 x h))
            have hBg16 : Box w143 g16 (cS_api_Tunnel (⟨t13.1 == (1 : Int), t22.1, t30.1, t141.1, ([] : List Int)⟩ : S_api_Tunnel) none 0) := hb2
            refine hK139 _ _ ?_; try clear hK139 K139
            refine wp_region_lit ?_
            refine seg ha 4 [(0, .slice ao1 a0.length cap1), (2, .pointer (some ⟨g4, 0, none⟩)), (4, .pointer (some ⟨g9, 0, none⟩)), (5, .pointer (some ⟨g16, 0, none⟩)), (77, .pointer (some ⟨g9, 0, none⟩)), (80, .pointer (some ⟨g9, 0, none⟩))] (by kernel_rfl) fun a ha => ?_
            obtain ⟨t145, H145, H⟩ := bind_some H
            refine cl ha (by rfl) (by kernel_rfl) (by rfl) (by rfl) (by rfl) (cursor_rest_Left.walk w143 _ hM g9 t141.2.rest ao142 cap142 f142 hBg9 (mr (ml (List.mem_singleton.2 rfl))) _ H145) ?_
            rintro _ w145 ⟨rfl, hc145, hMn⟩ a ha
            have o1 : Ok [] ([g16] ++ ([g9] ++ ([g4] ++ (M)))) w143.heap.size := Ok.nil _ _
            have o2 : Ok ([g16] ++ ([g9] ++ ([g4] ++ (M)))) ([g16] ++ ([g9] ++ ([g4] ++ (M)))) w143.heap.size := (Ok.app (fun _ h => .inl (ml h)) (Ok.app (fun _ h => .inl (mr (ml h))) (Ok.app (fun _ h => .inl (mr (mr (ml h)))) (fun _ h => .inl (mr (mr (mr (h))))))))
            have f1 := f1.chg hc145 o1 o2
            have f142 := f142.chg hc145 o1 o2
            have hBg4 := hBg4.chg hc145 (fun h => nomatch h)
            have hBg9 := hBg9.chg hc145 (fun h => nomatch h)
            have hBg16 := hBg16.chg hc145 (fun h => nomatch h)
            have hM : MS ([g16] ++ ([g9] ++ ([g4] ++ (M)))) w145 := (MS.app (fun x h => hM.chg hc145 x (ml h)) (MS.app (fun x h => hM.chg hc145 x (mr (ml h))) (MS.app (fun x h => hM.chg hc145 x (mr (mr (ml h)))) (fun x h => hM.chg hc145 x (mr (mr (mr (h))))))))
            have hC := hC.trans hc145 (Ok.nil _ _)
            obtain ⟨t146, H146, H⟩ := bind_some H
            refine cl ha (by rfl) (by kernel_rfl) (by rfl) (by rfl) (by rfl) (cursor_Reader_Take.walk w145 _ hM g9 t141.2 ao142 cap142 f142 hBg9 (mr (ml (List.mem_singleton.2 rfl))) t145 _ H146) ?_
            rintro _ w146 ⟨ao147, cap147, ao148, cap148, rfl, f147, f148, qhBg9, ne_i147, hc146, hMn⟩ a ha
            have o1 : Ok [g9] ([g16] ++ ([g9] ++ ([g4] ++ (M)))) w145.heap.size := (fun _ h => .inl (mr (ml h)))
            have o2 : Ok (blkL ao147 ++ ([g16] ++ ([g9] ++ ([g4] ++ (M))))) ([g16] ++ ([g9] ++ ([g4] ++ (M)))) w145.heap.size := (Ok.app (fun x h => .inr (ne_i147 x h)) (Ok.app (fun _ h => .inl (ml h)) (Ok.app (fun _ h => .inl (mr (ml h))) (Ok.app (fun _ h => .inl (mr (mr (ml h)))) (fun _ h => .inl (mr (mr (mr (h)))))))))
            have f1 := f1.chg hc146 o1 o2
            have f142 := f142.chg hc146 o1 o2
            have hBg4 := hBg4.chg hc146 ((fun x (hx : x ∈ [g4]) (hy : x ∈ [g9]) => p_i10_i6 x hy hx) g4 (by simp))
            have hBg16 := hBg16.chg hc146 (p_i18_i10 g16 (by simp))
            have nw : Ok (blkL ao147) ([g16] ++ ([g9] ++ ([g4] ++ (M)))) w145.heap.size := (fun x h => .inr (ne_i147 x h))
            have p_i147_i18 : ∀ x ∈ blkL ao147, x ∉ ([g16]) := fun x hx hy => absurd (hM x (ml hy)) (Nat.not_lt.2 (ne_i147 x hx))
            have p_i147_i10 : ∀ x ∈ blkL ao147, x ∉ ([g9]) := fun x hx hy => absurd (hM x (mr (ml hy))) (Nat.not_lt.2 (ne_i147 x hx))
            have p_i147_i6 : ∀ x ∈ blkL ao147, x ∉ ([g4]) := fun x hx hy => absurd (hM x (mr (mr (ml hy)))) (Nat.not_lt.2 (ne_i147 x hx))
            have p_i147_M : ∀ x ∈ blkL ao147, x ∉ M := fun x hx hy => absurd (hM x (mr (mr (mr (hy))))) (Nat.not_lt.2 (ne_i147 x hx))
            have e_i147 : ∀ x ∈ blkL ao147, w.heap.size ≤ x := fun x hx => Nat.le_trans hC.size (ne_i147 x hx)
            have hM : MS (blkL ao147 ++ ([g16] ++ ([g9] ++ ([g4] ++ (M))))) w146 := (MS.app (fun x h => hMn x (ml h)) (MS.app (fun x h => hM.chg hc146 x (ml h)) (MS.app (fun x h => hM.chg hc146 x (mr (ml h))) (MS.app (fun x h => hM.chg hc146 x (mr (mr (ml h)))) (fun x h => hM.chg hc146 x (mr (mr (mr (h)))))))))
            have hC := hC.trans hc146 (fun x h => .inr (e_i10 x h))
            have hBg9 := qhBg9
            refine seg ha 1 [(0, .slice ao1 a0.length cap1), (2, .pointer (some ⟨g4, 0, none⟩)), (4, .pointer (some ⟨g9, 0, none⟩)), (5, .pointer (some ⟨g16, 0, none⟩)), (82, .slice ao147 t146.1.length cap147), (83, .pointer (some ⟨g16, 20, none⟩))] (by kernel_rfl) fun a ha => ?_
            refine st ha rfl rfl rfl (by kernel_rfl) rfl rfl hBg16 (Nat.le_of_ble_eq_true (by kernel_rfl)) fun a w149 ha hb2 hc150 _ => ?_
            have o1 : Ok [g16] (blkL ao147 ++ ([g16] ++ ([g9] ++ ([g4] ++ (M))))) w146.heap.size := (fun _ h => .inl (mr (ml h)))
            have o2 : Ok (blkL ao147 ++ ([g16] ++ ([g9] ++ ([g4] ++ (M))))) (blkL ao147 ++ ([g16] ++ ([g9] ++ ([g4] ++ (M))))) w146.heap.size := (Ok.app (fun _ h => .inl (ml h)) (Ok.app (fun _ h => .inl (mr (ml h))) (Ok.app (fun _ h => .inl (mr (mr (ml h)))) (Ok.app (fun _ h => .inl (mr (mr (mr (ml h))))) (fun _ h => .inl (mr (mr (mr (mr (h))))))))))
            have f1 := f1.chg hc150 o1 o2
            have f147 := f147.chg hc150 o1 o2 p_i147_i18 (fun _ h => ml h)
            have f148 := f148.chg hc150 o1 o2
            have hBg4 := hBg4.chg hc150 ((fun x (hx : x ∈ [g4]) (hy : x ∈ [g16]) => p_i18_i6 x hy hx) g4 (by simp))
            have hBg9 := hBg9.chg hc150 ((fun x (hx : x ∈ [g9]) (hy : x ∈ [g16]) => p_i18_i10 x hy hx) g9 (by simp))
            have hM : MS (blkL ao147 ++ ([g16] ++ ([g9] ++ ([g4] ++ (M))))) w149 := (MS.app (fun x h => hM.chg hc150 x (ml h)) (MS.app (fun x h => hM.chg hc150 x (mr (ml h))) (MS.app (fun x h => hM.chg hc150 x (mr (mr (ml h)))) (MS.app (fun x h => hM.chg hc150 x (mr (mr (mr (ml h))))) (fun x h => hM.chg hc150 x (mr (mr (mr (mr (h))))))))))
            have hC := hC.trans hc150 (fun x h => .inr (e_i18 x h))
            have hBg16 : Box w149 g16 (cS_api_Tunnel (⟨t13.1 == (1 : Int), t22.1, t30.1, t141.1, t146.1⟩ : S_api_Tunnel) ao147 cap147) := hb2
            refine hK33 _ _ ?_; try clear hK33 K33
            refine wp_seq_k fun K151 hK151 => ?_
            refine wp_seq_k fun K152 hK152 => ?_
            refine wp_region_lit ?_
            refine ldA (cs := (cS_api_Tunnel (⟨t13.1 == (1 : Int), t22.1, t30.1, t141.1, t146.1⟩ : S_api_Tunnel) ao147 cap147)) ha rfl (by kernel_rfl) rfl rfl rfl (cells_sub (Box.cells hBg16) (all := (cS_api_Tunnel (⟨t13.1 == (1 : Int), t22.1, t30.1, t141.1, t146.1⟩ : S_api_Tunnel) ao147 cap147)) [] [] (by kernel_rfl)) fun a ha => ?_
            have fz := f147.toRSl (M' := [g16] ++ ([g9] ++ ([g4] ++ (M)))) (Ok.app (fun _ h => .inl (mr (ml h))) (Ok.app (fun _ h => .inl (mr (mr (ml h)))) (Ok.app (fun _ h => .inl (mr (mr (mr (ml h))))) (fun _ h => .inl (mr (mr (mr (mr (h))))))))) (fun x hx hm => (List.mem_append.1 hm).elim (fun h => p_i147_i18 x hx h) (fun h => (List.mem_append.1 h).elim (fun h => p_i147_i10 x hx h) (fun h => (List.mem_append.1 h).elim (fun h => p_i147_i6 x hx h) (fun h => p_i147_M x hx h))))
            have o1 : Ok [] (blkL ao147 ++ ([g16] ++ ([g9] ++ ([g4] ++ (M))))) w149.heap.size := Ok.nil _ _
            have o2 : Ok ([g16] ++ ([g9] ++ ([g4] ++ (M)))) (blkL ao147 ++ ([g16] ++ ([g9] ++ ([g4] ++ (M))))) w149.heap.size := (Ok.app (fun _ h => .inl (mr (ml h))) (Ok.app (fun _ h => .inl (mr (mr (ml h)))) (Ok.app (fun _ h => .inl (mr (mr (mr (ml h))))) (fun _ h => .inl (mr (mr (mr (mr (h)))))))))
            have f1 := f1.chg (Chg.refl [] _) o1 o2
            have f148 := f148.chg (Chg.refl [] _) o1 o2
            have hBg4 := hBg4.chg (Chg.refl [] _) (fun h => nomatch h)
            have hBg9 := hBg9.chg (Chg.refl [] _) (fun h => nomatch h)
            have hBg16 := hBg16.chg (Chg.refl [] _) (fun h => nomatch h)
            have hM : MS ([g16] ++ ([g9] ++ ([g4] ++ (M)))) w149 := (MS.app (fun x h => hM.chg (Chg.refl [] _) x (mr (ml h))) (MS.app (fun x h => hM.chg (Chg.refl [] _) x (mr (mr (ml h)))) (MS.app (fun x h => hM.chg (Chg.refl [] _) x (mr (mr (mr (ml h))))) (fun x h => hM.chg (Chg.refl [] _) x (mr (mr (mr (mr (h)))))))))
            have hC := hC.trans (Chg.refl [] _) (Ok.nil _ _)
            have f147 := fz
            obtain ⟨t153, H153, H⟩ := bind_some H
            refine cl ha (by rfl) (by kernel_rfl) (by rfl) (by rfl) (by rfl) (pmsi_Bytes.walk w149 _ hM (⟨t13.1 == (1 : Int), t22.1, t30.1, t141.1, t146.1⟩ : S_api_Tunnel) ao147 cap147 f147 k _ H153) ?_
            rintro _ w153 ⟨ao154, cap154, rfl, f154, ne_i154, hc153, hMn⟩ a ha
            have o1 : Ok [] ([g16] ++ ([g9] ++ ([g4] ++ (M)))) w149.heap.size := Ok.nil _ _
            have o2 : Ok (blkL ao154 ++ ([g16] ++ ([g9] ++ ([g4] ++ (M))))) ([g16] ++ ([g9] ++ ([g4] ++ (M)))) w149.heap.size := (Ok.app (fun x h => .inr (ne_i154 x h)) (Ok.app (fun _ h => .inl (ml h)) (Ok.app (fun _ h => .inl (mr (ml h))) (Ok.app (fun _ h => .inl (mr (mr (ml h)))) (fun _ h => .inl (mr (mr (mr (h)))))))))
            have f1 := f1.chg hc153 o1 o2
            have f147 := f147.chg hc153 o1 o2
            have f148 := f148.chg hc153 o1 o2
            have hBg4 := hBg4.chg hc153 (fun h => nomatch h)
            have hBg9 := hBg9.chg hc153 (fun h => nomatch h)
            have hBg16 := hBg16.chg hc153 (fun h => nomatch h)
            have nw : Ok (blkL ao154) ([g16] ++ ([g9] ++ ([g4] ++ (M)))) w149.heap.size := (fun x h => .inr (ne_i154 x h))
            have p_i154_i18 : ∀ x ∈ blkL ao154, x ∉ ([g16]) := fun x hx hy => absurd (hM x (ml hy)) (Nat.not_lt.2 (ne_i154 x hx))
            have p_i154_i10 : ∀ x ∈ blkL ao154, x ∉ ([g9]) := fun x hx hy => absurd (hM x (mr (ml hy))) (Nat.not_lt.2 (ne_i154 x hx))
            have p_i154_i6 : ∀ x ∈ blkL ao154, x ∉ ([g4]) := fun x hx hy => absurd (hM x (mr (mr (ml hy)))) (Nat.not_lt.2 (ne_i154 x hx))
            have p_i154_M : ∀ x ∈ blkL ao154, x ∉ M := fun x hx hy => absurd (hM x (mr (mr (mr (hy))))) (Nat.not_lt.2 (ne_i154 x hx))
            have e_i154 : ∀ x ∈ blkL ao154, w.heap.size ≤ x := fun x hx => Nat.le_trans hC.size (ne_i154 x hx)
            have hM : MS (blkL ao154 ++ ([g16] ++ ([g9] ++ ([g4] ++ (M))))) w153 := (MS.app (fun x h => hMn x (ml h)) (MS.app (fun x h => hM.chg hc153 x (ml h)) (MS.app (fun x h => hM.chg hc153 x (mr (ml h))) (MS.app (fun x h => hM.chg hc153 x (mr (mr (ml h)))) (fun x h => hM.chg hc153 x (mr (mr (mr (h)))))))))
            have hC := hC.trans hc153 (Ok.nil _ _)
            refine seg ha 5 [(0, .slice ao1 a0.length cap1), (2, .pointer (some ⟨g4, 0, none⟩)), (4, .pointer (some ⟨g9, 0, none⟩)), (5, .pointer (some ⟨g16, 0, none⟩)), (6, .slice ao154 t153.1.length cap154), (7, .int .i64 t153.2)] (by kernel_rfl) fun a ha => ?_
            refine hK152 _ _ ?_; try clear hK152 K152
            refine wp_seq_k fun K155 hK155 => ?_
            refine wp_region_lit ?_
            obtain ⟨s156, H156, H⟩ := bind_some H
            have J156 : ∀ (a : Act) (w156 : World), Has a Tryd.f15.ntmps [(2, .pointer (some ⟨g4, 0, none⟩)), (5, .pointer (some ⟨g16, 0, none⟩)), (102, .bool s156)] → (RSl (rInt .u8) 5 w156 ([g16] ++ ([g9] ++ ([g4] ++ (M)))) ao148 cap148 t146.2.rest.left) → (RSl (rInt .u8) 5 w156 ([g16] ++ ([g9] ++ ([g4] ++ (M)))) ao147 cap147 t146.1) → (Box w156 g4 (cS_api_Tunnel (⟨false, (0 : Int), (0 : Int), (⟨(0 : Int), (List.replicate 16 (0 : Int))⟩ : S_api_Addr), ([] : List Int)⟩ : S_api_Tunnel) none 0)) → (Box w156 g9 (cS_cursor_Reader t146.2 ao148 cap148)) → (Box w156 g16 (cS_api_Tunnel (⟨t13.1 == (1 : Int), t22.1, t30.1, t141.1, t146.1⟩ : S_api_Tunnel) ao147 cap147)) → (Chg [] w w156) → (MS ([g16] ++ ([g9] ++ ([g4] ++ (M)))) w156) → K155 a w156 := by
              intro a w156 ha f148 f147 hBg4 hBg9 hBg16 hC hM
              refine hK155 _ _ ?_; try clear hK155 K155
              refine cnd ha rfl (fun hc157 => ?_) (fun hc157 => ?_)
              · have H := ite_t hc157 H
                refine wp_seq_k fun K158 hK158 => ?_
                refine wp_region_lit ?_
                refine opk (v := .agg (cS_api_Tunnel (⟨false, (0 : Int), (0 : Int), (⟨(0 : Int), (List.replicate 16 (0 : Int))⟩ : S_api_Addr), ([] : List Int)⟩ : S_api_Tunnel) none 0).toArray) ha rfl rfl rfl rfl rfl (fun w => by kernel_rfl) fun a ha => ?_
                refine stA (l := (cS_api_Tunnel (⟨false, (0 : Int), (0 : Int), (⟨(0 : Int), (List.replicate 16 (0 : Int))⟩ : S_api_Addr), ([] : List Int)⟩ : S_api_Tunnel) none 0)) ha rfl rfl rfl (by kernel_rfl) rfl rfl hBg4 rfl fun a w159 ha hb2 hc160 _ => ?_
                have o1 : Ok [g4] ([g16] ++ ([g9] ++ ([g4] ++ (M)))) w156.heap.size := (fun _ h => .inl (mr (mr (ml h))))
                have o2 : Ok ([g16] ++ ([g9] ++ ([g4] ++ (M)))) ([g16] ++ ([g9] ++ ([g4] ++ (M)))) w156.heap.size := (Ok.app (fun _ h => .inl (ml h)) (Ok.app (fun _ h => .inl (mr (ml h))) (Ok.app (fun _ h => .inl (mr (mr (ml h)))) (fun _ h => .inl (mr (mr (mr (h))))))))
                have f148 := f148.chg hc160 o1 o2
                have f147 := f147.chg hc160 o1 o2
                have hBg9 := hBg9.chg hc160 (p_i10_i6 g9 (by simp))
                have hBg16 := hBg16.chg hc160 (p_i18_i6 g16 (by simp))
                have hM : MS ([g16] ++ ([g9] ++ ([g4] ++ (M)))) w159 := (MS.app (fun x h => hM.chg hc160 x (ml h)) (MS.app (fun x h => hM.chg hc160 x (mr (ml h))) (MS.app (fun x h => hM.chg hc160 x (mr (mr (ml h)))) (fun x h => hM.chg hc160 x (mr (mr (mr (h))))))))
                have hC := hC.trans hc160 (fun x h => .inr (e_i6 x h))
                have hBg4 : Box w159 g4 (cS_api_Tunnel (⟨false, (0 : Int), (0 : Int), (⟨(0 : Int), (List.replicate 16 (0 : Int))⟩ : S_api_Addr), ([] : List Int)⟩ : S_api_Tunnel) none 0) := hb2
                refine seg ha 1 [(2, .pointer (some ⟨g4, 0, none⟩)), (3, .int .i64 (4 : Int))] (by kernel_rfl) fun a ha => ?_
                refine hK158 _ _ ?_; try clear hK158 K158
                refine wp_ret ?_
                try simp only [Exit.then, Exit.inBlock]
                have o1 : Ok [] ([g16] ++ ([g9] ++ ([g4] ++ (M)))) w159.heap.size := Ok.nil _ _
                have o2 : Ok (M) ([g16] ++ ([g9] ++ ([g4] ++ (M)))) w159.heap.size := (fun _ h => .inl (mr (mr (mr (h)))))
                have f148 := f148.chg (Chg.refl [] _) o1 o2
                have f147 := f147.chg (Chg.refl [] _) o1 o2
                have hBg4 := hBg4.chg (Chg.refl [] _) (fun h => nomatch h)
                have hBg9 := hBg9.chg (Chg.refl [] _) (fun h => nomatch h)
                have hBg16 := hBg16.chg (Chg.refl [] _) (fun h => nomatch h)
                have hM : MS (M) w159 := (fun x h => hM.chg (Chg.refl [] _) x (mr (mr (mr (h)))))
                have hC := hC.trans (Chg.refl [] _) (Ok.nil _ _)
                obtain rfl := Option.some.inj H
                refine rtr ha (res2 rfl (roA ha rfl hBg4 (by kernel_rfl)) (roT ha rfl)) ?_
                exact ⟨none, 0, rfl, (RSl.nil (Nat.zero_le _)), hC, hM⟩
              · have H := ite_f hc157 H
                refine wp_skip ?_
                refine hK151 _ _ ?_; try clear hK151 K151
                refine wp_seq_k fun K161 hK161 => ?_
                refine wp_region_lit ?_
                refine ldA (cs := (cS_api_Tunnel (⟨t13.1 == (1 : Int), t22.1, t30.1, t141.1, t146.1⟩ : S_api_Tunnel) ao147 cap147)) ha rfl (by kernel_rfl) rfl rfl rfl (cells_sub (Box.cells hBg16) (all := (cS_api_Tunnel (⟨t13.1 == (1 : Int), t22.1, t30.1, t141.1, t146.1⟩ : S_api_Tunnel) ao147 cap147)) [] [] (by kernel_rfl)) fun a ha => ?_
                refine stA (l := (cS_api_Tunnel (⟨t13.1 == (1 : Int), t22.1, t30.1, t141.1, t146.1⟩ : S_api_Tunnel) ao147 cap147)) ha rfl rfl rfl (by kernel_rfl) rfl rfl hBg4 rfl fun a w162 ha hb2 hc163 _ => ?_
                have o1 : Ok [g4] ([g16] ++ ([g9] ++ ([g4] ++ (M)))) w156.heap.size := (fun _ h => .inl (mr (mr (ml h))))
                have o2 : Ok ([g16] ++ ([g9] ++ ([g4] ++ (M)))) ([g16] ++ ([g9] ++ ([g4] ++ (M)))) w156.heap.size := (Ok.app (fun _ h => .inl (ml h)) (Ok.app (fun _ h => .inl (mr (ml h))) (Ok.app (fun _ h => .inl (mr (mr (ml h)))) (fun _ h => .inl (mr (mr (mr (h))))))))
                have f147 := f147.chg hc163 o1 o2
                have f148 := f148.chg hc163 o1 o2
                have hBg9 := hBg9.chg hc163 (p_i10_i6 g9 (by simp))
                have hBg16 := hBg16.chg hc163 (p_i18_i6 g16 (by simp))
                have hM : MS ([g16] ++ ([g9] ++ ([g4] ++ (M)))) w162 := (MS.app (fun x h => hM.chg hc163 x (ml h)) (MS.app (fun x h => hM.chg hc163 x (mr (ml h))) (MS.app (fun x h => hM.chg hc163 x (mr (mr (ml h)))) (fun x h => hM.chg hc163 x (mr (mr (mr (h))))))))
                have hC := hC.trans hc163 (fun x h => .inr (e_i6 x h))
                have hBg4 : Box w162 g4 (cS_api_Tunnel (⟨t13.1 == (1 : Int), t22.1, t30.1, t141.1, t146.1⟩ : S_api_Tunnel) ao147 cap147) := hb2
                refine seg ha 1 [(2, .pointer (some ⟨g4, 0, none⟩)), (3, .int .i64 (0 : Int))] (by kernel_rfl) fun a ha => ?_
                refine hK161 _ _ ?_; try clear hK161 K161
                refine wp_ret ?_
                try simp only [Exit.then, Exit.inBlock]
                have o1 : Ok [] ([g16] ++ ([g9] ++ ([g4] ++ (M)))) w162.heap.size := Ok.nil _ _
                have o2 : Ok (M) ([g16] ++ ([g9] ++ ([g4] ++ (M)))) w162.heap.size := (fun _ h => .inl (mr (mr (mr (h)))))
                have f147 := f147.chg (Chg.refl [] _) o1 o2
                have f148 := f148.chg (Chg.refl [] _) o1 o2
                have hBg4 := hBg4.chg (Chg.refl [] _) (fun h => nomatch h)
                have hBg9 := hBg9.chg (Chg.refl [] _) (fun h => nomatch h)
                have hBg16 := hBg16.chg (Chg.refl [] _) (fun h => nomatch h)
                have hM : MS (M) w162 := (fun x h => hM.chg (Chg.refl [] _) x (mr (mr (mr (h)))))
                have hC := hC.trans (Chg.refl [] _) (Ok.nil _ _)
                obtain rfl := Option.some.inj H
                refine rtr ha (res2 rfl (roA ha rfl hBg4 (by kernel_rfl)) (roT ha rfl)) ?_
                exact ⟨ao147, cap147, rfl, f147, hC, hM⟩
            have H := H156
            refine seg ha 3 [(0, .slice ao1 a0.length cap1), (2, .pointer (some ⟨g4, 0, none⟩)), (5, .pointer (some ⟨g16, 0, none⟩)), (6, .slice ao154 t153.1.length cap154), (7, .int .i64 t153.2), (91, .pointer (some ⟨g9, 0, none⟩))] (by kernel_rfl) fun a ha => ?_
            obtain ⟨t164, H164, H⟩ := bind_some H
            refine cl ha (by rfl) (by kernel_rfl) (by rfl) (by rfl) (by rfl) (cursor_rest_Bad.walk w153 _ hM g9 t146.2.rest ao148 cap148 f148 hBg9 (mr (mr (ml (List.mem_singleton.2 rfl)))) _ H164) ?_
            rintro _ w164 ⟨rfl, hc164, hMn⟩ a ha
            have o1 : Ok [] (blkL ao154 ++ ([g16] ++ ([g9] ++ ([g4] ++ (M))))) w153.heap.size := Ok.nil _ _
            have o2 : Ok (blkL ao154 ++ ([g16] ++ ([g9] ++ ([g4] ++ (M))))) (blkL ao154 ++ ([g16] ++ ([g9] ++ ([g4] ++ (M))))) w153.heap.size := (Ok.app (fun _ h => .inl (ml h)) (Ok.app (fun _ h => .inl (mr (ml h))) (Ok.app (fun _ h => .inl (mr (mr (ml h)))) (Ok.app (fun _ h => .inl (mr (mr (mr (ml h))))) (fun _ h => .inl (mr (mr (mr (mr (h))))))))))
            have f1 := f1.chg hc164 o1 o2
            have f154 := f154.chg hc164 o1 o2 (fun _ _ h => nomatch h) (fun _ h => ml h)
            have f148 := f148.chg hc164 o1 o2
            have f147 := f147.chg hc164 o1 o2
            have hBg4 := hBg4.chg hc164 (fun h => nomatch h)
            have hBg9 := hBg9.chg hc164 (fun h => nomatch h)
            have hBg16 := hBg16.chg hc164 (fun h => nomatch h)
            have hM : MS (blkL ao154 ++ ([g16] ++ ([g9] ++ ([g4] ++ (M))))) w164 := (MS.app (fun x h => hM.chg hc164 x (ml h)) (MS.app (fun x h => hM.chg hc164 x (mr (ml h))) (MS.app (fun x h => hM.chg hc164 x (mr (mr (ml h)))) (MS.app (fun x h => hM.chg hc164 x (mr (mr (mr (ml h))))) (fun x h => hM.chg hc164 x (mr (mr (mr (mr (h))))))))))
            have hC := hC.trans hc164 (Ok.nil _ _)
            refine seg ha 1 [(93, .bool t164), (0, .slice ao1 a0.length cap1), (2, .pointer (some ⟨g4, 0, none⟩)), (5, .pointer (some ⟨g16, 0, none⟩)), (6, .slice ao154 t153.1.length cap154), (7, .int .i64 t153.2)] (by kernel_rfl) fun a ha => ?_
            rcases Bool.eq_false_or_eq_true (t164) with hb165 | hb165
            · have ha := ha.lit hb165
              have H := ite_t hb165 H
              refine sgh ha 9 [1, 1, 3, 0, 1, 1, 1, 1, 3] [(2, .pointer (some ⟨g4, 0, none⟩)), (5, .pointer (some ⟨g16, 0, none⟩)), (102, .bool true)] (by kernel_rfl) fun a ha => ?_
              obtain rfl := Option.some.inj H
              have o1 : Ok [] (blkL ao154 ++ ([g16] ++ ([g9] ++ ([g4] ++ (M))))) w164.heap.size := Ok.nil _ _
              have o2 : Ok ([g16] ++ ([g9] ++ ([g4] ++ (M)))) (blkL ao154 ++ ([g16] ++ ([g9] ++ ([g4] ++ (M))))) w164.heap.size := (Ok.app (fun _ h => .inl (mr (ml h))) (Ok.app (fun _ h => .inl (mr (mr (ml h)))) (Ok.app (fun _ h => .inl (mr (mr (mr (ml h))))) (fun _ h => .inl (mr (mr (mr (mr (h)))))))))
              have f148 := f148.chg (Chg.refl [] _) o1 o2
              have f147 := f147.chg (Chg.refl [] _) o1 o2
              have hBg4 := hBg4.chg (Chg.refl [] _) (fun h => nomatch h)
              have hBg9 := hBg9.chg (Chg.refl [] _) (fun h => nomatch h)
              have hBg16 := hBg16.chg (Chg.refl [] _) (fun h => nomatch h)
              have hM : MS ([g16] ++ ([g9] ++ ([g4] ++ (M)))) w164 := (MS.app (fun x h => hM.chg (Chg.refl [] _) x (mr (ml h))) (MS.app (fun x h => hM.chg (Chg.refl [] _) x (mr (mr (ml h)))) (MS.app (fun x h => hM.chg (Chg.refl [] _) x (mr (mr (mr (ml h))))) (fun x h => hM.chg (Chg.refl [] _) x (mr (mr (mr (mr (h)))))))))
              have hC := hC.trans (Chg.refl [] _) (Ok.nil _ _)
              exact J156 _ _ (ha.sel (by kernel_rfl)) f148 f147 hBg4 hBg9 hBg16 hC hM
            · have ha := ha.lit hb165
              have H := ite_f hb165 H
              refine sgh ha 4 [2, 2, 4, 0] [(97, .bool (t153.2 != (0 : Int))), (0, .slice ao1 a0.length cap1), (2, .pointer (some ⟨g4, 0, none⟩)), (5, .pointer (some ⟨g16, 0, none⟩)), (6, .slice ao154 t153.1.length cap154)] (by kernel_rfl) fun a ha => ?_
              rcases Bool.eq_false_or_eq_true (t153.2 != (0 : Int)) with hb166 | hb166
              · have ha := ha.lit hb166
                have H := ite_t hb166 H
                refine sgh ha 5 [1, 1, 1, 1, 3] [(2, .pointer (some ⟨g4, 0, none⟩)), (5, .pointer (some ⟨g16, 0, none⟩)), (102, .bool true)] (by kernel_rfl) fun a ha => ?_
                obtain rfl := Option.some.inj H
                have o1 : Ok [] (blkL ao154 ++ ([g16] ++ ([g9] ++ ([g4] ++ (M))))) w164.heap.size := Ok.nil _ _
                have o2 : Ok ([g16] ++ ([g9] ++ ([g4] ++ (M)))) (blkL ao154 ++ ([g16] ++ ([g9] ++ ([g4] ++ (M))))) w164.heap.size := (Ok.app (fun _ h => .inl (mr (ml h))) (Ok.app (fun _ h => .inl (mr (mr (ml h)))) (Ok.app (fun _ h => .inl (mr (mr (mr (ml h))))) (fun _ h => .inl (mr (mr (mr (mr (h)))))))))
                have f148 := f148.chg (Chg.refl [] _) o1 o2
                have f147 := f147.chg (Chg.refl [] _) o1 o2
                have hBg4 := hBg4.chg (Chg.refl [] _) (fun h => nomatch h)
                have hBg9 := hBg9.chg (Chg.refl [] _) (fun h => nomatch h)
                have hBg16 := hBg16.chg (Chg.refl [] _) (fun h => nomatch h)
                have hM : MS ([g16] ++ ([g9] ++ ([g4] ++ (M)))) w164 := (MS.app (fun x h => hM.chg (Chg.refl [] _) x (mr (ml h))) (MS.app (fun x h => hM.chg (Chg.refl [] _) x (mr (mr (ml h)))) (MS.app (fun x h => hM.chg (Chg.refl [] _) x (mr (mr (mr (ml h))))) (fun x h => hM.chg (Chg.refl [] _) x (mr (mr (mr (mr (h)))))))))
                have hC := hC.trans (Chg.refl [] _) (Ok.nil _ _)
                exact J156 _ _ (ha.sel (by kernel_rfl)) f148 f147 hBg4 hBg9 hBg16 hC hM
              · have ha := ha.lit hb166
                have H := ite_f hb166 H
                refine sgh ha 2 [2, 2] [(2, .pointer (some ⟨g4, 0, none⟩)), (5, .pointer (some ⟨g16, 0, none⟩)), (97, .bool false), (98, .slice ao154 t153.1.length cap154), (99, .slice ao1 a0.length cap1)] (by kernel_rfl) fun a ha => ?_
                have fz := f154.toRSl (M' := [g16] ++ ([g9] ++ ([g4] ++ (M)))) (Ok.app (fun _ h => .inl (mr (ml h))) (Ok.app (fun _ h => .inl (mr (mr (ml h)))) (Ok.app (fun _ h => .inl (mr (mr (mr (ml h))))) (fun _ h => .inl (mr (mr (mr (mr (h))))))))) (fun x hx hm => (List.mem_append.1 hm).elim (fun h => p_i154_i18 x hx h) (fun h => (List.mem_append.1 h).elim (fun h => p_i154_i10 x hx h) (fun h => (List.mem_append.1 h).elim (fun h => p_i154_i6 x hx h) (fun h => p_i154_M x hx h))))
                have o1 : Ok [] (blkL ao154 ++ ([g16] ++ ([g9] ++ ([g4] ++ (M))))) w164.heap.size := Ok.nil _ _
                have o2 : Ok ([g16] ++ ([g9] ++ ([g4] ++ (M)))) (blkL ao154 ++ ([g16] ++ ([g9] ++ ([g4] ++ (M))))) w164.heap.size := (Ok.app (fun _ h => .inl (mr (ml h))) (Ok.app (fun _ h => .inl (mr (mr (ml h)))) (Ok.app (fun _ h => .inl (mr (mr (mr (ml h))))) (fun _ h => .inl (mr (mr (mr (mr (h)))))))))
                have f1 := f1.chg (Chg.refl [] _) o1 o2
                have f148 := f148.chg (Chg.refl [] _) o1 o2
                have f147 := f147.chg (Chg.refl [] _) o1 o2
                have hBg4 := hBg4.chg (Chg.refl [] _) (fun h => nomatch h)
                have hBg9 := hBg9.chg (Chg.refl [] _) (fun h => nomatch h)
                have hBg16 := hBg16.chg (Chg.refl [] _) (fun h => nomatch h)
                have hM : MS ([g16] ++ ([g9] ++ ([g4] ++ (M)))) w164 := (MS.app (fun x h => hM.chg (Chg.refl [] _) x (mr (ml h))) (MS.app (fun x h => hM.chg (Chg.refl [] _) x (mr (mr (ml h)))) (MS.app (fun x h => hM.chg (Chg.refl [] _) x (mr (mr (mr (ml h))))) (fun x h => hM.chg (Chg.refl [] _) x (mr (mr (mr (mr (h)))))))))
                have hC := hC.trans (Chg.refl [] _) (Ok.nil _ _)
                have f154 := fz
                obtain ⟨t167, H167, H⟩ := bind_some H
                refine cl ha (by rfl) (by kernel_rfl) (by rfl) (by rfl) (by rfl) (bytes_Equal.walk w164 _ hM t153.1 ao154 cap154 f154 a0 ao1 cap1 f1 _ H167) ?_
                rintro _ w167 ⟨rfl, hc167, hMn⟩ a ha
                have o1 : Ok [] ([g16] ++ ([g9] ++ ([g4] ++ (M)))) w164.heap.size := Ok.nil _ _
                have o2 : Ok ([g16] ++ ([g9] ++ ([g4] ++ (M)))) ([g16] ++ ([g9] ++ ([g4] ++ (M)))) w164.heap.size := (Ok.app (fun _ h => .inl (ml h)) (Ok.app (fun _ h => .inl (mr (ml h))) (Ok.app (fun _ h => .inl (mr (mr (ml h)))) (fun _ h => .inl (mr (mr (mr (h))))))))
                have f154 := f154.chg hc167 o1 o2
                have f1 := f1.chg hc167 o1 o2
                have f148 := f148.chg hc167 o1 o2
                have f147 := f147.chg hc167 o1 o2
                have hBg4 := hBg4.chg hc167 (fun h => nomatch h)
                have hBg9 := hBg9.chg hc167 (fun h => nomatch h)
                have hBg16 := hBg16.chg hc167 (fun h => nomatch h)
                have hM : MS ([g16] ++ ([g9] ++ ([g4] ++ (M)))) w167 := (MS.app (fun x h => hM.chg hc167 x (ml h)) (MS.app (fun x h => hM.chg hc167 x (mr (ml h))) (MS.app (fun x h => hM.chg hc167 x (mr (mr (ml h)))) (fun x h => hM.chg hc167 x (mr (mr (mr (h))))))))
                have hC := hC.trans hc167 (Ok.nil _ _)
                refine sgh ha 2 [2, 4] [(2, .pointer (some ⟨g4, 0, none⟩)), (5, .pointer (some ⟨g16, 0, none⟩)), (102, .bool (!t167))] (by kernel_rfl) fun a ha => ?_
                obtain rfl := Option.some.inj H
                exact J156 _ _ (ha.sel (by kernel_rfl)) f148 f147 hBg4 hBg9 hBg16 hC hM
          · have H := ite_f hc138 H
            refine wp_region_lit ?_
            refine seg ha 4 [(0, .slice ao1 a0.length cap1), (2, .pointer (some ⟨g4, 0, none⟩)), (4, .pointer (some ⟨g9, 0, none⟩)), (5, .pointer (some ⟨g16, 0, none⟩)), (27, .pointer (some ⟨g9, 0, none⟩)), (30, .pointer (some ⟨g9, 0, none⟩))] (by kernel_rfl) fun a ha => ?_
            obtain ⟨t168, H168, H⟩ := bind_some H
            refine cl ha (by rfl) (by kernel_rfl) (by rfl) (by rfl) (by rfl) (cursor_rest_Left.walk w137 _ hM g9 t27.2.rest ao29 cap29 f29 hBg9 (mr (ml (List.mem_singleton.2 rfl))) _ H168) ?_
            rintro _ w168 ⟨rfl, hc168, hMn⟩ a ha
            have o1 : Ok [] ([g16] ++ ([g9] ++ ([g4] ++ (M)))) w137.heap.size := Ok.nil _ _
            have o2 : Ok ([g16] ++ ([g9] ++ ([g4] ++ (M)))) ([g16] ++ ([g9] ++ ([g4] ++ (M)))) w137.heap.size := (Ok.app (fun _ h => .inl (ml h)) (Ok.app (fun _ h => .inl (mr (ml h))) (Ok.app (fun _ h => .inl (mr (mr (ml h)))) (fun _ h => .inl (mr (mr (mr (h))))))))
            have f1 := f1.chg hc168 o1 o2
            have f29 := f29.chg hc168 o1 o2
            have hBg4 := hBg4.chg hc168 (fun h => nomatch h)
            have hBg9 := hBg9.chg hc168 (fun h => nomatch h)
            have hBg16 := hBg16.chg hc168 (fun h => nomatch h)
            have hM : MS ([g16] ++ ([g9] ++ ([g4] ++ (M)))) w168 := (MS.app (fun x h => hM.chg hc168 x (ml h)) (MS.app (fun x h => hM.chg hc168 x (mr (ml h))) (MS.app (fun x h => hM.chg hc168 x (mr (mr (ml h)))) (fun x h => hM.chg hc168 x (mr (mr (mr (h))))))))
            have hC := hC.trans hc168 (Ok.nil _ _)
            obtain ⟨t169, H169, H⟩ := bind_some H
            refine cl ha (by rfl) (by kernel_rfl) (by rfl) (by rfl) (by rfl) (pmsi_root.walk w168 _ hM g9 t27.2 ao29 cap29 f29 hBg9 (mr (ml (List.mem_singleton.2 rfl))) t168 _ H169) ?_
            rintro _ w169 ⟨ao170, cap170, rfl, f170, qhBg9, hc169, hMn⟩ a ha
            have o1 : Ok [g9] ([g16] ++ ([g9] ++ ([g4] ++ (M)))) w168.heap.size := (fun _ h => .inl (mr (ml h)))
            have o2 : Ok ([g16] ++ ([g9] ++ ([g4] ++ (M)))) ([g16] ++ ([g9] ++ ([g4] ++ (M)))) w168.heap.size := (Ok.app (fun _ h => .inl (ml h)) (Ok.app (fun _ h => .inl (mr (ml h))) (Ok.app (fun _ h => .inl (mr (mr (ml h)))) (fun _ h => .inl (mr (mr (mr (h))))))))
            have f1 := f1.chg hc169 o1 o2
            have f29 := f29.chg hc169 o1 o2
            have hBg4 := hBg4.chg hc169 ((fun x (hx : x ∈ [g4]) (hy : x ∈ [g9]) => p_i10_i6 x hy hx) g4 (by simp))
            have hBg16 := hBg16.chg hc169 (p_i18_i10 g16 (by simp))
            have hM : MS ([g16] ++ ([g9] ++ ([g4] ++ (M)))) w169 := (MS.app (fun x h => hM.chg hc169 x (ml h)) (MS.app (fun x h => hM.chg hc169 x (mr (ml h))) (MS.app (fun x h => hM.chg hc169 x (mr (mr (ml h)))) (fun x h => hM.chg hc169 x (mr (mr (mr (h))))))))
            have hC := hC.trans hc169 (fun x h => .inr (e_i10 x h))
            have hBg9 := qhBg9
            refine seg ha 1 [(0, .slice ao1 a0.length cap1), (2, .pointer (some ⟨g4, 0, none⟩)), (4, .pointer (some ⟨g9, 0, none⟩)), (5, .pointer (some ⟨g16, 0, none⟩)), (32, .agg (cS_api_Addr t169.1).toArray), (33, .pointer (some ⟨g16, 3, none⟩))] (by kernel_rfl) fun a ha => ?_
            refine stA (l := (cS_api_Addr t169.1)) ha rfl rfl rfl (by kernel_rfl) rfl rfl hBg16 rfl fun a w171 ha hb2 hc172 _ => ?_
            have o1 : Ok [g16] ([g16] ++ ([g9] ++ ([g4] ++ (M)))) w169.heap.size := (fun _ h => .inl (ml h))
            have o2 : Ok ([g16] ++ ([g9] ++ ([g4] ++ (M)))) ([g16] ++ ([g9] ++ ([g4] ++ (M)))) w169.heap.size := (Ok.app (fun _ h => .inl (ml h)) (Ok.app (fun _ h => .inl (mr (ml h))) (Ok.app (fun _ h => .inl (mr (mr (ml h)))) (fun _ h => .inl (mr (mr (mr (h))))))))
            have f1 := f1.chg hc172 o1 o2
            have f170 := f170.chg hc172 o1 o2
            have hBg4 := hBg4.chg hc172 ((fun x (hx : x ∈ [g4]) (hy : x ∈ [g16]) => p_i18_i6 x hy hx) g4 (by simp))
            have hBg9 := hBg9.chg hc172 ((fun x (hx : x ∈ [g9]) (hy : x ∈ [g16]) => p_i18_i10 x hy hx) g9 (by simp))
            have hM : MS ([g16] ++ ([g9] ++ ([g4] ++ (M)))) w171 := (MS.app (fun x h => hM.chg hc172 x (ml h)) (MS.app (fun x h => hM.chg hc172 x (mr (ml h))) (MS.app (fun x h => hM.chg hc172 x (mr (mr (ml h)))) (fun x h => hM.chg hc172 x (mr (mr (mr (h))))))))
            have hC := hC.trans hc172 (fun x h => .inr (e_i18 x h))
            have hBg16 : Box w171 g16 (cS_api_Tunnel (⟨t13.1 == (1 : Int), t22.1, t30.1, t169.1, ([] : List Int)⟩ : S_api_Tunnel) none 0) := hb2
            refine hK33 _ _ ?_; try clear hK33 K33
            refine wp_seq_k fun K173 hK173 => ?_
            refine wp_seq_k fun K174 hK174 => ?_
            refine wp_region_lit ?_
            refine ldA (cs := (cS_api_Tunnel (⟨t13.1 == (1 : Int), t22.1, t30.1, t169.1, ([] : List Int)⟩ : S_api_Tunnel) none 0)) ha rfl (by kernel_rfl) rfl rfl rfl (cells_sub (Box.cells hBg16) (all := (cS_api_Tunnel (⟨t13.1 == (1 : Int), t22.1, t30.1, t169.1, ([] : List Int)⟩ : S_api_Tunnel) none 0)) [] [] (by kernel_rfl)) fun a ha => ?_
            obtain ⟨t175, H175, H⟩ := bind_some H
            refine cl ha (by rfl) (by kernel_rfl) (by rfl) (by rfl) (by rfl) (pmsi_Bytes.walk w171 _ hM (⟨t13.1 == (1 : Int), t22.1, t30.1, t169.1, ([] : List Int)⟩ : S_api_Tunnel) none 0 (RSl.nil (Nat.zero_le _)) k _ H175) ?_
            rintro _ w175 ⟨ao176, cap176, rfl, f176, ne_i176, hc175, hMn⟩ a ha
            have o1 : Ok [] ([g16] ++ ([g9] ++ ([g4] ++ (M)))) w171.heap.size := Ok.nil _ _
            have o2 : Ok (blkL ao176 ++ ([g16] ++ ([g9] ++ ([g4] ++ (M))))) ([g16] ++ ([g9] ++ ([g4] ++ (M)))) w171.heap.size := (Ok.app (fun x h => .inr (ne_i176 x h)) (Ok.app (fun _ h => .inl (ml h)) (Ok.app (fun _ h => .inl (mr (ml h))) (Ok.app (fun _ h => .inl (mr (mr (ml h)))) (fun _ h => .inl (mr (mr (mr (h)))))))))
            have f1 := f1.chg hc175 o1 o2
            have f170 := f170.chg hc175 o1 o2
            have hBg4 := hBg4.chg hc175 (fun h => nomatch h)
            have hBg9 := hBg9.chg hc175 (fun h => nomatch h)
            have hBg16 := hBg16.chg hc175 (fun h => nomatch h)
            have nw : Ok (blkL ao176) ([g16] ++ ([g9] ++ ([g4] ++ (M)))) w171.heap.size := (fun x h => .inr (ne_i176 x h))
            have p_i176_i18 : ∀ x ∈ blkL ao176, x ∉ ([g16]) := fun x hx hy => absurd (hM x (ml hy)) (Nat.not_lt.2 (ne_i176 x hx))
            have p_i176_i10 : ∀ x ∈ blkL ao176, x ∉ ([g9]) := fun x hx hy => absurd (hM x (mr (ml hy))) (Nat.not_lt.2 (ne_i176 x hx))
            have p_i176_i6 : ∀ x ∈ blkL ao176, x ∉ ([g4]) := fun x hx hy => absurd (hM x (mr (mr (ml hy)))) (Nat.not_lt.2 (ne_i176 x hx))
            have p_i176_M : ∀ x ∈ blkL ao176, x ∉ M := fun x hx hy => absurd (hM x (mr (mr (mr (hy))))) (Nat.not_lt.2 (ne_i176 x hx))
            have e_i176 : ∀ x ∈ blkL ao176, w.heap.size ≤ x := fun x hx => Nat.le_trans hC.size (ne_i176 x hx)
            have hM : MS (blkL ao176 ++ ([g16] ++ ([g9] ++ ([g4] ++ (M))))) w175 := (MS.app (fun x h => hMn x (ml h)) (MS.app (fun x h => hM.chg hc175 x (ml h)) (MS.app (fun x h => hM.chg hc175 x (mr (ml h))) (MS.app (fun x h => hM.chg hc175 x (mr (mr (ml h)))) (fun x h => hM.chg hc175 x (mr (mr (mr (h)))))))))
            have hC := hC.trans hc175 (Ok.nil _ _)
            refine seg ha 5 [(0, .slice ao1 a0.length cap1), (2, .pointer (some ⟨g4, 0, none⟩)), (4, .pointer (some ⟨g9, 0, none⟩)), (5, .pointer (some ⟨g16, 0, none⟩)), (6, .slice ao176 t175.1.length cap176), (7, .int .i64 t175.2)] (by kernel_rfl) fun a ha => ?_
            refine hK174 _ _ ?_; try clear hK174 K174
            refine wp_seq_k fun K177 hK177 => ?_
            refine wp_region_lit ?_
            obtain ⟨s178, H178, H⟩ := bind_some H
            have J178 : ∀ (a : Act) (w178 : World), Has a Tryd.f15.ntmps [(2, .pointer (some ⟨g4, 0, none⟩)), (5, .pointer (some ⟨g16, 0, none⟩)), (102, .bool s178)] → (RSl (rInt .u8) 5 w178 ([g16] ++ ([g9] ++ ([g4] ++ (M)))) ao170 cap170 t169.2.rest.left) → (Box w178 g4 (cS_api_Tunnel (⟨false, (0 : Int), (0 : Int), (⟨(0 : Int), (List.replicate 16 (0 : Int))⟩ : S_api_Addr), ([] : List Int)⟩ : S_api_Tunnel) none 0)) → (Box w178 g9 (cS_cursor_Reader t169.2 ao170 cap170)) → (Box w178 g16 (cS_api_Tunnel (⟨t13.1 == (1 : Int), t22.1, t30.1, t169.1, ([] : List Int)⟩ : S_api_Tunnel) none 0)) → (Chg [] w w178) → (MS ([g16] ++ ([g9] ++ ([g4] ++ (M)))) w178) → K177 a w178 := by
              intro a w178 ha f170 hBg4 hBg9 hBg16 hC hM
              refine hK177 _ _ ?_; try clear hK177 K177
              refine cnd ha rfl (fun hc179 => ?_) (fun hc179 => ?_)
              · have H := ite_t hc179 H
                refine wp_seq_k fun K180 hK180 => ?_
                refine wp_region_lit ?_
                refine opk (v := .agg (cS_api_Tunnel (⟨false, (0 : Int), (0 : Int), (⟨(0 : Int), (List.replicate 16 (0 : Int))⟩ : S_api_Addr), ([] : List Int)⟩ : S_api_Tunnel) none 0).toArray) ha rfl rfl rfl rfl rfl (fun w => by kernel_rfl) fun a ha => ?_
                refine stA (l := (cS_api_Tunnel (⟨false, (0 : Int), (0 : Int), (⟨(0 : Int), (List.replicate 16 (0 : Int))⟩ : S_api_Addr), ([] : List Int)⟩ : S_api_Tunnel) none 0)) ha rfl rfl rfl (by kernel_rfl) rfl rfl hBg4 rfl fun a w181 ha hb2 hc182 _ => ?_
                have o1 : Ok [g4] ([g16] ++ ([g9] ++ ([g4] ++ (M)))) w178.heap.size := (fun _ h => .inl (mr (mr (ml h))))
                have o2 : Ok ([g16] ++ ([g9] ++ ([g4] ++ (M)))) ([g16] ++ ([g9] ++ ([g4] ++ (M)))) w178.heap.size := (Ok.app (fun _ h => .inl (ml h)) (Ok.app (fun _ h => .inl (mr (ml h))) (Ok.app (fun _ h => .inl (mr (mr (ml h)))) (fun _ h => .inl (mr (mr (mr (h))))))))
                have f170 := f170.chg hc182 o1 o2
                have hBg9 := hBg9.chg hc182 (p_i10_i6 g9 (by simp))
                have hBg16 := hBg16.chg hc182 (p_i18_i6 g16 (by simp))
                have hM : MS ([g16] ++ ([g9] ++ ([g4] ++ (M)))) w181 := (MS.app (fun x h => hM.chg hc182 x (ml h)) (MS.app (fun x h => hM.chg hc182 x (mr (ml h))) (MS.app (fun x h => hM.chg hc182 x (mr (mr (ml h)))) (fun x h => hM.chg hc182 x (mr (mr (mr (h))))))))
                have hC := hC.trans hc182 (fun x h => .inr (e_i6 x h))
                have hBg4 : Box w181 g4 (cS_api_Tunnel (⟨false, (0 : Int), (0 : Int), (⟨(0 : Int), (List.replicate 16 (0 : Int))⟩ : S_api_Addr), ([] : List Int)⟩ : S_api_Tunnel) none 0) := hb2
                refine seg ha 1 [(2, .pointer (some ⟨g4, 0, none⟩)), (3, .int .i64 (4 : Int))] (by kernel_rfl) fun a ha => ?_
                refine hK180 _ _ ?_; try clear hK180 K180
                refine wp_ret ?_
                try simp only [Exit.then, Exit.inBlock]
                have o1 : Ok [] ([g16] ++ ([g9] ++ ([g4] ++ (M)))) w181.heap.size := Ok.nil _ _
                have o2 : Ok (M) ([g16] ++ ([g9] ++ ([g4] ++ (M)))) w181.heap.size := (fun _ h => .inl (mr (mr (mr (h)))))
                have f170 := f170.chg (Chg.refl [] _) o1 o2
                have hBg4 := hBg4.chg (Chg.refl [] _) (fun h => nomatch h)
                have hBg9 := hBg9.chg (Chg.refl [] _) (fun h => nomatch h)
                have hBg16 := hBg16.chg (Chg.refl [] _) (fun h => nomatch h)
                have hM : MS (M) w181 := (fun x h => hM.chg (Chg.refl [] _) x (mr (mr (mr (h)))))
                have hC := hC.trans (Chg.refl [] _) (Ok.nil _ _)
                obtain rfl := Option.some.inj H
                refine rtr ha (res2 rfl (roA ha rfl hBg4 (by kernel_rfl)) (roT ha rfl)) ?_
                exact ⟨none, 0, rfl, (RSl.nil (Nat.zero_le _)), hC, hM⟩
              · have H := ite_f hc179 H
                refine wp_skip ?_
                refine hK173 _ _ ?_; try clear hK173 K173
                refine wp_seq_k fun K183 hK183 => ?_
                refine wp_region_lit ?_
                refine ldA (cs := (cS_api_Tunnel (⟨t13.1 == (1 : Int), t22.1, t30.1, t169.1, ([] : List Int)⟩ : S_api_Tunnel) none 0)) ha rfl (by kernel_rfl) rfl rfl rfl (cells_sub (Box.cells hBg16) (all := (cS_api_Tunnel (⟨t13.1 == (1 : Int), t22.1, t30.1, t169.1, ([] : List Int)⟩ : S_api_Tunnel) none 0)) [] [] (by kernel_rfl)) fun a ha => ?_
                refine stA (l := (cS_api_Tunnel (⟨t13.1 == (1 : Int), t22.1, t30.1, t169.1, ([] : List Int)⟩ : S_api_Tunnel) none 0)) ha rfl rfl rfl (by kernel_rfl) rfl rfl hBg4 rfl fun a w184 ha hb2 hc185 _ => ?_
                have o1 : Ok [g4] ([g16] ++ ([g9] ++ ([g4] ++ (M)))) w178.heap.size := (fun _ h => .inl (mr (mr (ml h))))
                have o2 : Ok ([g16] ++ ([g9] ++ ([g4] ++ (M)))) ([g16] ++ ([g9] ++ ([g4] ++ (M)))) w178.heap.size := (Ok.app (fun _ h => .inl (ml h)) (Ok.app (fun _ h => .inl (mr (ml h))) (Ok.app (fun _ h => .inl (mr (mr (ml h)))) (fun _ h => .inl (mr (mr (mr (h))))))))
                have f170 := f170.chg hc185 o1 o2
                have hBg9 := hBg9.chg hc185 (p_i10_i6 g9 (by simp))
                have hBg16 := hBg16.chg hc185 (p_i18_i6 g16 (by simp))
                have hM : MS ([g16] ++ ([g9] ++ ([g4] ++ (M)))) w184 := (MS.app (fun x h => hM.chg hc185 x (ml h)) (MS.app (fun x h => hM.chg hc185 x (mr (ml h))) (MS.app (fun x h => hM.chg hc185 x (mr (mr (ml h)))) (fun x h => hM.chg hc185 x (mr (mr (mr (h))))))))
                have hC := hC.trans hc185 (fun x h => .inr (e_i6 x h))
                have hBg4 : Box w184 g4 (cS_api_Tunnel (⟨t13.1 == (1 : Int), t22.1, t30.1, t169.1, ([] : List Int)⟩ : S_api_Tunnel) none 0) := hb2
                refine seg ha 1 [(2, .pointer (some ⟨g4, 0, none⟩)), (3, .int .i64 (0 : Int))] (by kernel_rfl) fun a ha => ?_
                refine hK183 _ _ ?_; try clear hK183 K183
                refine wp_ret ?_
                try simp only [Exit.then, Exit.inBlock]
                have o1 : Ok [] ([g16] ++ ([g9] ++ ([g4] ++ (M)))) w184.heap.size := Ok.nil _ _
                have o2 : Ok (M) ([g16] ++ ([g9] ++ ([g4] ++ (M)))) w184.heap.size := (fun _ h => .inl (mr (mr (mr (h)))))
                have f170 := f170.chg (Chg.refl [] _) o1 o2
                have hBg4 := hBg4.chg (Chg.refl [] _) (fun h => nomatch h)
                have hBg9 := hBg9.chg (Chg.refl [] _) (fun h => nomatch h)
                have hBg16 := hBg16.chg (Chg.refl [] _) (fun h => nomatch h)
                have hM : MS (M) w184 := (fun x h => hM.chg (Chg.refl [] _) x (mr (mr (mr (h)))))
                have hC := hC.trans (Chg.refl [] _) (Ok.nil _ _)
                obtain rfl := Option.some.inj H
                refine rtr ha (res2 rfl (roA ha rfl hBg4 (by kernel_rfl)) (roT ha rfl)) ?_
                exact ⟨none, 0, rfl, (RSl.nil (Nat.zero_le _)), hC, hM⟩
            have H := H178
            refine seg ha 3 [(0, .slice ao1 a0.length cap1), (2, .pointer (some ⟨g4, 0, none⟩)), (5, .pointer (some ⟨g16, 0, none⟩)), (6, .slice ao176 t175.1.length cap176), (7, .int .i64 t175.2), (91, .pointer (some ⟨g9, 0, none⟩))] (by kernel_rfl) fun a ha => ?_
            obtain ⟨t186, H186, H⟩ := bind_some H
            refine cl ha (by rfl) (by kernel_rfl) (by rfl) (by rfl) (by rfl) (cursor_rest_Bad.walk w175 _ hM g9 t169.2.rest ao170 cap170 f170 hBg9 (mr (mr (ml (List.mem_singleton.2 rfl)))) _ H186) ?_
            rintro _ w186 ⟨rfl, hc186, hMn⟩ a ha
            have o1 : Ok [] (blkL ao176 ++ ([g16] ++ ([g9] ++ ([g4] ++ (M))))) w175.heap.size := Ok.nil _ _
            have o2 : Ok (blkL ao176 ++ ([g16] ++ ([g9] ++ ([g4] ++ (M))))) (blkL ao176 ++ ([g16] ++ ([g9] ++ ([g4] ++ (M))))) w175.heap.size := (Ok.app (fun _ h => .inl (ml h)) (Ok.app (fun _ h => .inl (mr (ml h))) (Ok.app (fun _ h => .inl (mr (mr (ml h)))) (Ok.app (fun _ h => .inl (mr (mr (mr (ml h))))) (fun _ h => .inl (mr (mr (mr (mr (h))))))))))
            have f1 := f1.chg hc186 o1 o2
            have f176 := f176.chg hc186 o1 o2 (fun _ _ h => nomatch h) (fun _ h => ml h)
            have f170 := f170.chg hc186 o1 o2
            have hBg4 := hBg4.chg hc186 (fun h => nomatch h)
            have hBg9 := hBg9.chg hc186 (fun h => nomatch h)
            have hBg16 := hBg16.chg hc186 (fun h => nomatch h)
            have hM : MS (blkL ao176 ++ ([g16] ++ ([g9] ++ ([g4] ++ (M))))) w186 := (MS.app (fun x h => hM.chg hc186 x (ml h)) (MS.app (fun x h => hM.chg hc186 x (mr (ml h))) (MS.app (fun x h => hM.chg hc186 x (mr (mr (ml h)))) (MS.app (fun x h => hM.chg hc186 x (mr (mr (mr (ml h))))) (fun x h => hM.chg hc186 x (mr (mr (mr (mr (h))))))))))
            have hC := hC.trans hc186 (Ok.nil _ _)
            refine seg ha 1 [(93, .bool t186), (0, .slice ao1 a0.length cap1), (2, .pointer (some ⟨g4, 0, none⟩)), (5, .pointer (some ⟨g16, 0, none⟩)), (6, .slice ao176 t175.1.length cap176), (7, .int .i64 t175.2)] (by kernel_rfl) fun a ha => ?_
            rcases Bool.eq_false_or_eq_true (t186) with hb187 | hb187
            · have ha := ha.lit hb187
              have H := ite_t hb187 H
              refine sgh ha 9 [1, 1, 3, 0, 1, 1, 1, 1, 3] [(2, .pointer (some ⟨g4, 0, none⟩)), (5, .pointer (some ⟨g16, 0, none⟩)), (102, .bool true)] (by kernel_rfl) fun a ha => ?_
              obtain rfl := Option.some.inj H
              have o1 : Ok [] (blkL ao176 ++ ([g16] ++ ([g9] ++ ([g4] ++ (M))))) w186.heap.size := Ok.nil _ _
              have o2 : Ok ([g16] ++ ([g9] ++ ([g4] ++ (M)))) (blkL ao176 ++ ([g16] ++ ([g9] ++ ([g4] ++ (M))))) w186.heap.size := (Ok.app (fun _ h => .inl (mr (ml h))) (Ok.app (fun _ h => .inl (mr (mr (ml h)))) (Ok.app (fun _ h => .inl (mr (mr (mr (ml h))))) (fun _ h => .inl (mr (mr (mr (mr (h)))))))))
              have f170 := f170.chg (Chg.refl [] _) o1 o2
              have hBg4 := hBg4.chg (Chg.refl [] _) (fun h => nomatch h)
              have hBg9 := hBg9.chg (Chg.refl [] _) (fun h => nomatch h)
              have hBg16 := hBg16.chg (Chg.refl [] _) (fun h => nomatch h)
              have hM : MS ([g16] ++ ([g9] ++ ([g4] ++ (M)))) w186 := (MS.app (fun x h => hM.chg (Chg.refl [] _) x (mr (ml h))) (MS.app (fun x h => hM.chg (Chg.refl [] _) x (mr (mr (ml h)))) (MS.app (fun x h => hM.chg (Chg.refl [] _) x (mr (mr (mr (ml h))))) (fun x h => hM.chg (Chg.refl [] _) x (mr (mr (mr (mr (h)))))))))
              have hC := hC.trans (Chg.refl [] _) (Ok.nil _ _)
              exact J178 _ _ (ha.sel (by kernel_rfl)) f170 hBg4 hBg9 hBg16 hC hM
            · have ha := ha.lit hb187
              have H := ite_f hb187 H
              refine sgh ha 4 [2, 2, 4, 0] [(97, .bool (t175.2 != (0 : Int))), (0, .slice ao1 a0.length cap1), (2, .pointer (some ⟨g4, 0, none⟩)), (5, .pointer (some ⟨g16, 0, none⟩)), (6, .slice ao176 t175.1.length cap176)] (by kernel_rfl) fun a ha => ?_
              rcases Bool.eq_false_or_eq_true (t175.2 != (0 : Int)) with hb188 | hb188
              · have ha := ha.lit hb188
                have H := ite_t hb188 H
                refine sgh ha 5 [1, 1, 1, 1, 3] [(2, .pointer (some ⟨g4, 0, none⟩)), (5, .pointer (some ⟨g16, 0, none⟩)), (102, .bool true)] (by kernel_rfl) fun a ha => ?_
                obtain rfl := Option.some.inj H
                have o1 : Ok [] (blkL ao176 ++ ([g16] ++ ([g9] ++ ([g4] ++ (M))))) w186.heap.size := Ok.nil _ _
                have o2 : Ok ([g16] ++ ([g9] ++ ([g4] ++ (M)))) (blkL ao176 ++ ([g16] ++ ([g9] ++ ([g4] ++ (M))))) w186.heap.size := (Ok.app (fun _ h => .inl (mr (ml h))) (Ok.app (fun _ h => .inl (mr (mr (ml h)))) (Ok.app (fun _ h => .inl (mr (mr (mr (ml h))))) (fun _ h => .inl (mr (mr (mr (mr (h)))))))))
                have f170 := f170.chg (Chg.refl [] _) o1 o2
                have hBg4 := hBg4.chg (Chg.refl [] _) (fun h => nomatch h)
                have hBg9 := hBg9.chg (Chg.refl [] _) (fun h => nomatch h)
                have hBg16 := hBg16.chg (Chg.refl [] _) (fun h => nomatch h)
                have hM : MS ([g16] ++ ([g9] ++ ([g4] ++ (M)))) w186 := (MS.app (fun x h => hM.chg (Chg.refl [] _) x (mr (ml h))) (MS.app (fun x h => hM.chg (Chg.refl [] _) x (mr (mr (ml h)))) (MS.app (fun x h => hM.chg (Chg.refl [] _) x (mr (mr (mr (ml h))))) (fun x h => hM.chg (Chg.refl [] _) x (mr (mr (mr (mr (h)))))))))
                have hC := hC.trans (Chg.refl [] _) (Ok.nil _ _)
                exact J178 _ _ (ha.sel (by kernel_rfl)) f170 hBg4 hBg9 hBg16 hC hM
              · have ha := ha.lit hb188
                have H := ite_f hb188 H
                refine sgh ha 2 [2, 2] [(2, .pointer (some ⟨g4, 0, none⟩)), (5, .pointer (some ⟨g16, 0, none⟩)), (97, .bool false), (98, .slice ao176 t175.1.length cap176), (99, .slice ao1 a0.length cap1)] (by kernel_rfl) fun a ha => ?_
                have fz := f176.toRSl (M' := [g16] ++ ([g9] ++ ([g4] ++ (M)))) (Ok.app (fun _ h => .inl (mr (ml h))) (Ok.app (fun _ h => .inl (mr (mr (ml h)))) (Ok.app (fun _ h => .inl (mr (mr (mr (ml h))))) (fun _ h => .inl (mr (mr (mr (mr (h))))))))) (fun x hx hm => (List.mem_append.1 hm).elim (fun h => p_i176_i18 x hx h) (fun h => (List.mem_append.1 h).elim (fun h => p_i176_i10 x hx h) (fun h => (List.mem_append.1 h).elim (fun h => p_i176_i6 x hx h) (fun h => p_i176_M x hx h))))
                have o1 : Ok [] (blkL ao176 ++ ([g16] ++ ([g9] ++ ([g4] ++ (M))))) w186.heap.size := Ok.nil _ _
                have o2 : Ok ([g16] ++ ([g9] ++ ([g4] ++ (M)))) (blkL ao176 ++ ([g16] ++ ([g9] ++ ([g4] ++ (M))))) w186.heap.size := (Ok.app (fun _ h => .inl (mr (ml h))) (Ok.app (fun _ h => .inl (mr (mr (ml h)))) (Ok.app (fun _ h => .inl (mr (mr (mr (ml h))))) (fun _ h => .inl (mr (mr (mr (mr (h)))))))))
                have f1 := f1.chg (Chg.refl [] _) o1 o2
                have f170 := f170.chg (Chg.refl [] _) o1 o2
                have hBg4 := hBg4.chg (Chg.refl [] _) (fun h => nomatch h)
                have hBg9 := hBg9.chg (Chg.refl [] _) (fun h => nomatch h)
                have hBg16 := hBg16.chg (Chg.refl [] _) (fun h => nomatch h)
                have hM : MS ([g16] ++ ([g9] ++ ([g4] ++ (M)))) w186 := (MS.app (fun x h => hM.chg (Chg.refl [] _) x (mr (ml h))) (MS.app (fun x h => hM.chg (Chg.refl [] _) x (mr (mr (ml h)))) (MS.app (fun x h => hM.chg (Chg.refl [] _) x (mr (mr (mr (ml h))))) (fun x h => hM.chg (Chg.refl [] _) x (mr (mr (mr (mr (h)))))))))
                have hC := hC.trans (Chg.refl [] _) (Ok.nil _ _)
                have f176 := fz
                obtain ⟨t189, H189, H⟩ := bind_some H
                refine cl ha (by rfl) (by kernel_rfl) (by rfl) (by rfl) (by rfl) (bytes_Equal.walk w186 _ hM t175.1 ao176 cap176 f176 a0 ao1 cap1 f1 _ H189) ?_
                rintro _ w189 ⟨rfl, hc189, hMn⟩ a ha
                have o1 : Ok [] ([g16] ++ ([g9] ++ ([g4] ++ (M)))) w186.heap.size := Ok.nil _ _
                have o2 : Ok ([g16] ++ ([g9] ++ ([g4] ++ (M)))) ([g16] ++ ([g9] ++ ([g4] ++ (M)))) w186.heap.size := (Ok.app (fun _ h => .inl (ml h)) (Ok.app (fun _ h => .inl (mr (ml h))) (Ok.app (fun _ h => .inl (mr (mr (ml h)))) (fun _ h => .inl (mr (mr (mr (h))))))))
                have f176 := f176.chg hc189 o1 o2
                have f1 := f1.chg hc189 o1 o2
                have f170 := f170.chg hc189 o1 o2
                have hBg4 := hBg4.chg hc189 (fun h => nomatch h)
                have hBg9 := hBg9.chg hc189 (fun h => nomatch h)
                have hBg16 := hBg16.chg hc189 (fun h => nomatch h)
                have hM : MS ([g16] ++ ([g9] ++ ([g4] ++ (M)))) w189 := (MS.app (fun x h => hM.chg hc189 x (ml h)) (MS.app (fun x h => hM.chg hc189 x (mr (ml h))) (MS.app (fun x h => hM.chg hc189 x (mr (mr (ml h)))) (fun x h => hM.chg hc189 x (mr (mr (mr (h))))))))
                have hC := hC.trans hc189 (Ok.nil _ _)
                refine sgh ha 2 [2, 4] [(2, .pointer (some ⟨g4, 0, none⟩)), (5, .pointer (some ⟨g16, 0, none⟩)), (102, .bool (!t189))] (by kernel_rfl) fun a ha => ?_
                obtain rfl := Option.some.inj H
                exact J178 _ _ (ha.sel (by kernel_rfl)) f170 hBg4 hBg9 hBg16 hC hM
        have H := H137
        refine wp_seq_k fun K190 hK190 => ?_
        refine wp_region_lit ?_
        refine seg ha 2 [(0, .slice ao1 a0.length cap1), (2, .pointer (some ⟨g4, 0, none⟩)), (4, .pointer (some ⟨g9, 0, none⟩)), (5, .pointer (some ⟨g16, 0, none⟩)), (26, .int .i64 t22.1), (65, .bool (t22.1 == (3 : Int)))] (by kernel_rfl) fun a ha => ?_
        refine hK190 _ _ ?_; try clear hK190 K190
        refine cnd ha rfl (fun hc191 => ?_) (fun hc191 => ?_)
        · have H := ite_t hc191 H
          refine wp_skip ?_
          obtain rfl := Option.some.inj H
          exact J137 _ _ (ha.sel (by kernel_rfl)) f1 f29 hBg4 hBg9 hBg16 hC hM
        · have H := ite_f hc191 H
          refine wp_seq_k fun K192 hK192 => ?_
          refine wp_region_lit ?_
          refine seg ha 2 [(0, .slice ao1 a0.length cap1), (2, .pointer (some ⟨g4, 0, none⟩)), (4, .pointer (some ⟨g9, 0, none⟩)), (5, .pointer (some ⟨g16, 0, none⟩)), (26, .int .i64 t22.1), (65, .bool (t22.1 == (4 : Int)))] (by kernel_rfl) fun a ha => ?_
          refine hK192 _ _ ?_; try clear hK192 K192
          refine cnd ha rfl (fun hc193 => ?_) (fun hc193 => ?_)
          · have H := ite_t hc193 H
            refine wp_skip ?_
            obtain rfl := Option.some.inj H
            exact J137 _ _ (ha.sel (by kernel_rfl)) f1 f29 hBg4 hBg9 hBg16 hC hM
          · have H := ite_f hc193 H
            refine wp_region_lit ?_
            refine seg ha 2 [(0, .slice ao1 a0.length cap1), (2, .pointer (some ⟨g4, 0, none⟩)), (4, .pointer (some ⟨g9, 0, none⟩)), (5, .pointer (some ⟨g16, 0, none⟩)), (65, .bool (t22.1 == (5 : Int)))] (by kernel_rfl) fun a ha => ?_
            obtain rfl := Option.some.inj H
            exact J137 _ _ (ha.sel (by kernel_rfl)) f1 f29 hBg4 hBg9 hBg16 hC hM
    have H := H99
    refine wp_seq_k fun K194 hK194 => ?_
    refine wp_region_lit ?_
    refine seg ha 2 [(0, .slice ao1 a0.length cap1), (2, .pointer (some ⟨g4, 0, none⟩)), (4, .pointer (some ⟨g9, 0, none⟩)), (5, .pointer (some ⟨g16, 0, none⟩)), (26, .int .i64 t22.1), (50, .bool (t22.1 == (2 : Int)))] (by kernel_rfl) fun a ha => ?_
    refine hK194 _ _ ?_; try clear hK194 K194
    refine cnd ha rfl (fun hc195 => ?_) (fun hc195 => ?_)
    · have H := ite_t hc195 H
      refine wp_skip ?_
      obtain rfl := Option.some.inj H
      exact J99 _ _ (ha.sel (by kernel_rfl)) f1 f29 hBg4 hBg9 hBg16 hC hM
    · have H := ite_f hc195 H
      refine wp_region_lit ?_
      refine seg ha 2 [(0, .slice ao1 a0.length cap1), (2, .pointer (some ⟨g4, 0, none⟩)), (4, .pointer (some ⟨g9, 0, none⟩)), (5, .pointer (some ⟨g16, 0, none⟩)), (26, .int .i64 t22.1), (50, .bool (t22.1 == (7 : Int)))] (by kernel_rfl) fun a ha => ?_
      obtain rfl := Option.some.inj H
      exact J99 _ _ (ha.sel (by kernel_rfl)) f1 f29 hBg4 hBg9 hBg16 hC hM
def pmsi_Same.f (a0 : S_api_Tunnel) (a1 : S_api_Tunnel) : Option (Bool) := ((if (a0.Kind == a1.Kind) = true then (if ((a0.Root.Size == a1.Root.Size) && ((eqA 16 a0.Root.B a1.Root.B) && true)) = true then (bytes_Equal.f a0.Id a1.Id).bind fun t18 => some (t18 : Bool) else some (false : Bool)) else some (false : Bool))).bind fun s15 => some ((s15 : Bool))
set_option maxRecDepth 100000 in
theorem pmsi_Same.walk (w : World) (M : List Nat) (hM : MS M w) (a0 : S_api_Tunnel) (ao1 : Option Addr) (cap1 : Nat) (f1 : RSl (rInt .u8) 5 w M ao1 cap1 a0.Id) (a1 : S_api_Tunnel) (ao2 : Option Addr) (cap2 : Nat) (f2 : RSl (rInt .u8) 5 w M ao2 cap2 a1.Id) (r : Bool) (H : pmsi_Same.f a0 a1 = some r) :
    To Tryd.prog 23 [.agg (cS_api_Tunnel a0 ao1 cap1).toArray, .agg (cS_api_Tunnel a1 ao2 cap2).toArray] w fun v w' => v = .bool r ∧ Chg [] w w' ∧ MS (M) w' := by
  unfold pmsi_Same.f at H
  refine ent Tryd.func23 rfl [(0, .agg (cS_api_Tunnel a0 ao1 cap1).toArray), (1, .agg (cS_api_Tunnel a1 ao2 cap2).toArray)] rfl (by rfl) fun a ha => ?_
  have hC : Chg [] w w := Chg.refl _ _
  refine wp_seq_k fun K3 hK3 => ?_
  refine wp_region_lit ?_
  refine bx (cs := (cS_api_Tunnel a0 ao1 cap1)) ha rfl rfl rfl rfl rfl fun a w4 g5 hN6 ha => ?_
  have hn8 := hN6.notin hM
  have o1 : Ok [] (M) w.heap.size := Ok.nil _ _
  have o2 : Ok (M) (M) w.heap.size := (fun _ h => .inl (h))
  have f1 := f1.chg hN6.chg o1 o2
  have f2 := f2.chg hN6.chg o1 o2
  have hM : MS (M) w4 := (fun x h => hM.chg hN6.chg x (h))
  have hC := hC.trans hN6.chg (Ok.nil _ _)
  have hE7 : ∀ j v, (cS_api_Tunnel a0 ao1 cap1)[j]? = some v → w4.cell? ⟨g5, 0 + j, none⟩ = some v := Box.cells (New.box hN6)
  refine bx (cs := (cS_api_Tunnel a1 ao2 cap2)) ha rfl rfl rfl rfl rfl fun a w9 g10 hN11 ha => ?_
  have hn13 := hN11.notin hM
  have o1 : Ok [] (M) w4.heap.size := Ok.nil _ _
  have o2 : Ok (M) (M) w4.heap.size := (fun _ h => .inl (h))
  have f2 := f2.chg hN11.chg o1 o2
  have f1 := f1.chg hN11.chg o1 o2
  have q_hn8 : g5 ∉ M := fun h => (o2 g5 h).elim hn8 (fun h => absurd (lt_cell (hE7 0 _ rfl)) (Nat.not_lt.2 h))
  have hE7 : ∀ j v, (cS_api_Tunnel a0 ao1 cap1)[j]? = some v → w9.cell? ⟨g5, 0 + j, none⟩ = some v := fun j v hv => (cell_keep hN11.chg o1 hn8 (hE7 j v hv))
  have hn8 := q_hn8
  have hM : MS (M) w9 := (fun x h => hM.chg hN11.chg x (h))
  have hC := hC.trans hN11.chg (Ok.nil _ _)
  have hE12 : ∀ j v, (cS_api_Tunnel a1 ao2 cap2)[j]? = some v → w9.cell? ⟨g10, 0 + j, none⟩ = some v := Box.cells (New.box hN11)
  refine seg ha 1 [(2, .pointer (some ⟨g5, 0, none⟩)), (3, .pointer (some ⟨g10, 0, none⟩))] (by kernel_rfl) fun a ha => ?_
  refine hK3 _ _ ?_; try clear hK3 K3
  refine wp_seq_k fun K14 hK14 => ?_
  refine wp_region_lit ?_
  obtain ⟨s15, H15, H⟩ := bind_some H
  have J15 : ∀ (a : Act) (w15 : World), Has a Tryd.f23.ntmps [(4, .bool s15)] → (Chg [] w w15) → (MS (M) w15) → K14 a w15 := by
    intro a w15 ha hC hM
    refine hK14 _ _ ?_; try clear hK14 K14
    refine wp_ret ?_
    try simp only [Exit.then, Exit.inBlock]
    obtain rfl := Option.some.inj H
    refine rt1 ha rfl rfl ?_
    exact ⟨rfl, hC, hM⟩
  have H := H15
  refine seg ha 1 [(2, .pointer (some ⟨g5, 0, none⟩)), (3, .pointer (some ⟨g10, 0, none⟩)), (5, .pointer (some ⟨g5, 0 + 1, none⟩))] (by kernel_rfl) fun a ha => ?_
  refine ld ha rfl (by kernel_rfl) rfl rfl rfl (hE7 1 (.int .i64 a0.Kind) (by kernel_rfl)) fun a ha => ?_
  refine seg ha 1 [(2, .pointer (some ⟨g5, 0, none⟩)), (3, .pointer (some ⟨g10, 0, none⟩)), (6, .int .i64 a0.Kind), (7, .pointer (some ⟨g10, 0 + 1, none⟩))] (by kernel_rfl) fun a ha => ?_
  refine ld ha rfl (by kernel_rfl) rfl rfl rfl (hE12 1 (.int .i64 a1.Kind) (by kernel_rfl)) fun a ha => ?_
  refine seg ha 2 [(10, .bool (a0.Kind == a1.Kind)), (2, .pointer (some ⟨g5, 0, none⟩)), (3, .pointer (some ⟨g10, 0, none⟩))] (by kernel_rfl) fun a ha => ?_
  rcases Bool.eq_false_or_eq_true (a0.Kind == a1.Kind) with hb16 | hb16
  · have ha := ha.lit hb16
    have H := ite_t hb16 H
    refine sgh ha 1 [2] [(2, .pointer (some ⟨g5, 0, none⟩)), (3, .pointer (some ⟨g10, 0, none⟩)), (10, .bool true), (11, .pointer (some ⟨g5, 0 + 3, none⟩))] (by kernel_rfl) fun a ha => ?_
    refine ldA (cs := (cS_api_Addr a0.Root)) ha rfl (by kernel_rfl) rfl rfl rfl (cells_sub hE7 (all := (cS_api_Tunnel a0 ao1 cap1)) [.bool a0.Leaf, .int .i64 a0.Kind, .int .i64 a0.Label] [.slice ao1 a0.Id.length cap1] (by kernel_rfl)) fun a ha => ?_
    refine sgh ha 1 [2] [(2, .pointer (some ⟨g5, 0, none⟩)), (3, .pointer (some ⟨g10, 0, none⟩)), (10, .bool true), (12, .agg (cS_api_Addr a0.Root).toArray), (13, .pointer (some ⟨g10, 0 + 3, none⟩))] (by kernel_rfl) fun a ha => ?_
    refine ldA (cs := (cS_api_Addr a1.Root)) ha rfl (by kernel_rfl) rfl rfl rfl (cells_sub hE12 (all := (cS_api_Tunnel a1 ao2 cap2)) [.bool a1.Leaf, .int .i64 a1.Kind, .int .i64 a1.Label] [.slice ao2 a1.Id.length cap2] (by kernel_rfl)) fun a ha => ?_
    refine hop (v := .bool ((a0.Root.Size == a1.Root.Size) && ((eqA 16 a0.Root.B a1.Root.B) && true))) (w' := w9) ha rfl rfl rfl (eqs_run (r := ((a0.Root.Size == a1.Root.Size) && ((eqA 16 a0.Root.B a1.Root.B) && true))) (m := 9) ha rfl rfl (by kernel_rfl) rfl (by kernel_rfl) _) fun a ha => ?_
    refine sgh ha 2 [3, 0] [(17, .bool ((a0.Root.Size == a1.Root.Size) && ((eqA 16 a0.Root.B a1.Root.B) && true))), (2, .pointer (some ⟨g5, 0, none⟩)), (3, .pointer (some ⟨g10, 0, none⟩))] (by kernel_rfl) fun a ha => ?_
    rcases Bool.eq_false_or_eq_true (((a0.Root.Size == a1.Root.Size) && ((eqA 16 a0.Root.B a1.Root.B) && true))) with hb17 | hb17
    · have ha := ha.lit hb17
      have H := ite_t hb17 H
      refine sgh ha 1 [2] [(3, .pointer (some ⟨g10, 0, none⟩)), (17, .bool true), (18, .pointer (some ⟨g5, 0 + 20, none⟩))] (by kernel_rfl) fun a ha => ?_
      refine ld ha rfl (by kernel_rfl) rfl rfl rfl (hE7 20 (.slice ao1 a0.Id.length cap1) (by kernel_rfl)) fun a ha => ?_
      refine sgh ha 1 [2] [(17, .bool true), (19, .slice ao1 a0.Id.length cap1), (20, .pointer (some ⟨g10, 0 + 20, none⟩))] (by kernel_rfl) fun a ha => ?_
      refine ld ha rfl (by kernel_rfl) rfl rfl rfl (hE12 20 (.slice ao2 a1.Id.length cap2) (by kernel_rfl)) fun a ha => ?_
      obtain ⟨t18, H18, H⟩ := bind_some H
      refine cl ha (by rfl) (by kernel_rfl) (by rfl) (by rfl) (by rfl) (bytes_Equal.walk w9 _ hM a0.Id ao1 cap1 f1 a1.Id ao2 cap2 f2 _ H18) ?_
      rintro _ w18 ⟨rfl, hc18, hMn⟩ a ha
      have o1 : Ok [] (M) w9.heap.size := Ok.nil _ _
      have o2 : Ok (M) (M) w9.heap.size := (fun _ h => .inl (h))
      have f1 := f1.chg hc18 o1 o2
      have f2 := f2.chg hc18 o1 o2
      have hM : MS (M) w18 := (fun x h => hM.chg hc18 x (h))
      have hC := hC.trans hc18 (Ok.nil _ _)
      refine sgh ha 2 [3, 0] [(4, .bool t18)] (by kernel_rfl) fun a ha => ?_
      obtain rfl := Option.some.inj H
      exact J15 _ _ (ha.sel (by kernel_rfl)) hC hM
    · have ha := ha.lit hb17
      have H := ite_f hb17 H
      refine sgh ha 7 [1, 1, 1, 1, 1, 4, 0] [(4, .bool false)] (by kernel_rfl) fun a ha => ?_
      obtain rfl := Option.some.inj H
      exact J15 _ _ (ha.sel (by kernel_rfl)) hC hM
  · have ha := ha.lit hb16
    have H := ite_f hb16 H
    refine sgh ha 14 [1, 1, 1, 1, 1, 4, 0, 1, 1, 1, 1, 1, 4, 0] [(4, .bool false)] (by kernel_rfl) fun a ha => ?_
    obtain rfl := Option.some.inj H
    exact J15 _ _ (ha.sel (by kernel_rfl)) hC hM
def vinerylaw06_small.f (k : Nat) : Option (Bool) := (pmsi_Bytes.f k (⟨true, (2 : Int), (0 : Int), (⟨(4 : Int), ([(10 : Int), (0 : Int), (0 : Int), (1 : Int), (0 : Int), (0 : Int), (0 : Int), (0 : Int), (0 : Int), (0 : Int), (0 : Int), (0 : Int), (0 : Int), (0 : Int), (0 : Int), (0 : Int)] : List Int)⟩ : S_api_Addr), ([(1 : Int), (2 : Int)] : List Int)⟩ : S_api_Tunnel)).bind fun t15 => (pmsi_Parse.f k t15.1).bind fun t18 => (pmsi_Bytes.f k (⟨false, (3 : Int), (0 : Int), (⟨(4 : Int), ([(10 : Int), (0 : Int), (0 : Int), (1 : Int), (0 : Int), (0 : Int), (0 : Int), (0 : Int), (0 : Int), (0 : Int), (0 : Int), (0 : Int), (0 : Int), (0 : Int), (0 : Int), (0 : Int)] : List Int)⟩ : S_api_Addr), ([(10 : Int), (0 : Int), (0 : Int), (2 : Int)] : List Int)⟩ : S_api_Tunnel)).bind fun t32 => ((if (t15.2 == (0 : Int)) = true then (if ((bstr (b2s t15.1)).toList == (bstr ([1, 2, 0, 0, 0, 6, 0, 1, 4, 10, 0, 0, 1, 0, 2, 1, 2] : List UInt8)).toList) = true then (if (t18.2 == (0 : Int)) = true then (if t18.1.Leaf = true then (if ((t18.1.Root.Size == (4 : Int)) && ((eqA 16 t18.1.Root.B ([(10 : Int), (0 : Int), (0 : Int), (1 : Int), (0 : Int), (0 : Int), (0 : Int), (0 : Int), (0 : Int), (0 : Int), (0 : Int), (0 : Int), (0 : Int), (0 : Int), (0 : Int), (0 : Int)] : List Int)) && true)) = true then (pmsi_Same.f t18.1 (⟨false, (2 : Int), (0 : Int), (⟨(4 : Int), ([(10 : Int), (0 : Int), (0 : Int), (1 : Int), (0 : Int), (0 : Int), (0 : Int), (0 : Int), (0 : Int), (0 : Int), (0 : Int), (0 : Int), (0 : Int), (0 : Int), (0 : Int), (0 : Int)] : List Int)⟩ : S_api_Addr), ([(1 : Int), (2 : Int)] : List Int)⟩ : S_api_Tunnel)).bind fun t46 => (if t46 = true then some (t32.2 == (1 : Int) : Bool) else some (false : Bool)) else some (false : Bool)) else some (false : Bool)) else some (false : Bool)) else some (false : Bool)) else some (false : Bool))).bind fun s35 => some ((s35 : Bool))
set_option maxRecDepth 100000 in
theorem vinerylaw06_small.walk (w : World) (M : List Nat) (hM : MS M w)  (k : Nat) (r : Bool) (H : vinerylaw06_small.f k = some r) :
    To Tryd.prog 12 [] w fun v w' => v = .bool r ∧ Chg [] w w' ∧ MS (M) w' := by
  unfold vinerylaw06_small.f at H
  refine ent Tryd.func12 rfl [] rfl (by rfl) fun a ha => ?_
  have hC : Chg [] w w := Chg.refl _ _
  refine wp_seq_k fun K1 hK1 => ?_
  refine wp_region_lit ?_
  refine seg ha 1 [] (by kernel_rfl) fun a ha => ?_
  refine hK1 _ _ ?_; try clear hK1 K1
  refine wp_seq_k fun K2 hK2 => ?_
  refine wp_region_lit ?_
  refine opk (v := .agg (cA .u8 16 ([(10 : Int), (0 : Int), (0 : Int), (1 : Int), (0 : Int), (0 : Int), (0 : Int), (0 : Int), (0 : Int), (0 : Int), (0 : Int), (0 : Int), (0 : Int), (0 : Int), (0 : Int), (0 : Int)] : List Int)).toArray) ha rfl rfl rfl rfl rfl (fun w => by kernel_rfl) fun a ha => ?_
  refine opk (v := .agg (cS_api_Addr (⟨(4 : Int), ([(10 : Int), (0 : Int), (0 : Int), (1 : Int), (0 : Int), (0 : Int), (0 : Int), (0 : Int), (0 : Int), (0 : Int), (0 : Int), (0 : Int), (0 : Int), (0 : Int), (0 : Int), (0 : Int)] : List Int)⟩ : S_api_Addr)).toArray) ha rfl rfl rfl rfl rfl (fun w => by kernel_rfl) fun a ha => ?_
  refine al (cs := (cS_api_Addr (⟨(0 : Int), (List.replicate 16 (0 : Int))⟩ : S_api_Addr))) (z := .agg (cS_api_Addr (⟨(0 : Int), (List.replicate 16 (0 : Int))⟩ : S_api_Addr)).toArray) ha (fun w => by kernel_rfl) rfl rfl rfl rfl fun a w3 g4 hN5 ha => ?_
  have o1 : Ok [] (M) w.heap.size := Ok.nil _ _
  have o2 : Ok ([g4] ++ (M)) (M) w.heap.size := (Ok.app (hN5.ok _) (fun _ h => .inl (h)))
  have nw : Ok ([g4]) (M) w.heap.size := (hN5.ok _)
  have p_i6_M : ∀ x ∈ [g4], x ∉ M := fun x hx hy => absurd (hM x (hy)) (Nat.not_lt.2 ((hN5.ge1) x hx))
  have e_i6 : ∀ x ∈ [g4], w.heap.size ≤ x := fun x hx => Nat.le_trans hC.size ((hN5.ge1) x hx)
  have hM : MS ([g4] ++ (M)) w3 := (MS.app hN5.ms (fun x h => hM.chg hN5.chg x (h)))
  have hC := hC.trans hN5.chg (Ok.nil _ _)
  have hBg4 : Box w3 g4 (cS_api_Addr (⟨(0 : Int), (List.replicate 16 (0 : Int))⟩ : S_api_Addr)) := hN5.box
  refine stA (l := (cS_api_Addr (⟨(4 : Int), ([(10 : Int), (0 : Int), (0 : Int), (1 : Int), (0 : Int), (0 : Int), (0 : Int), (0 : Int), (0 : Int), (0 : Int), (0 : Int), (0 : Int), (0 : Int), (0 : Int), (0 : Int), (0 : Int)] : List Int)⟩ : S_api_Addr))) ha rfl rfl rfl (by kernel_rfl) rfl rfl hBg4 rfl fun a w7 ha hb2 hc8 _ => ?_
  have o1 : Ok [g4] ([g4] ++ (M)) w3.heap.size := (fun _ h => .inl (ml h))
  have o2 : Ok ([g4] ++ (M)) ([g4] ++ (M)) w3.heap.size := (Ok.app (fun _ h => .inl (ml h)) (fun _ h => .inl (mr (h))))
  have hM : MS ([g4] ++ (M)) w7 := (MS.app (fun x h => hM.chg hc8 x (ml h)) (fun x h => hM.chg hc8 x (mr (h))))
  have hC := hC.trans hc8 (fun x h => .inr (e_i6 x h))
  have hBg4 : Box w7 g4 (cS_api_Addr (⟨(4 : Int), ([(10 : Int), (0 : Int), (0 : Int), (1 : Int), (0 : Int), (0 : Int), (0 : Int), (0 : Int), (0 : Int), (0 : Int), (0 : Int), (0 : Int), (0 : Int), (0 : Int), (0 : Int), (0 : Int)] : List Int)⟩ : S_api_Addr)) := hb2
  refine hK2 _ _ ?_; try clear hK2 K2
  refine wp_seq_k fun K9 hK9 => ?_
  refine wp_region_lit ?_
  refine ldA (cs := (cS_api_Addr (⟨(4 : Int), ([(10 : Int), (0 : Int), (0 : Int), (1 : Int), (0 : Int), (0 : Int), (0 : Int), (0 : Int), (0 : Int), (0 : Int), (0 : Int), (0 : Int), (0 : Int), (0 : Int), (0 : Int), (0 : Int)] : List Int)⟩ : S_api_Addr))) ha rfl (by kernel_rfl) rfl rfl rfl (cells_sub (Box.cells hBg4) (all := (cS_api_Addr (⟨(4 : Int), ([(10 : Int), (0 : Int), (0 : Int), (1 : Int), (0 : Int), (0 : Int), (0 : Int), (0 : Int), (0 : Int), (0 : Int), (0 : Int), (0 : Int), (0 : Int), (0 : Int), (0 : Int), (0 : Int)] : List Int)⟩ : S_api_Addr))) [] [] (by kernel_rfl)) fun a ha => ?_
  refine bsl (vals := ([.int .u8 (1 : Int), .int .u8 (2 : Int)] : List Value)) (T := 5) ha rfl (([.int .u8 (1 : Int)] : List Value) ++ (([.int .u8 (2 : Int)] : List Value) ++ ([] : List Value))) (fun w => by kernel_rfl) rfl rfl rfl fun a w10 g11 hN12 ha => ?_
  have o1 : Ok [] ([g4] ++ (M)) w7.heap.size := Ok.nil _ _
  have o2 : Ok ([g11] ++ ([g4] ++ (M))) ([g4] ++ (M)) w7.heap.size := (Ok.app (hN12.ok _) (Ok.app (fun _ h => .inl (ml h)) (fun _ h => .inl (mr (h)))))
  have hBg4 := hBg4.chg hN12.chg (fun h => nomatch h)
  have nw : Ok ([g11]) ([g4] ++ (M)) w7.heap.size := (hN12.ok _)
  have p_i13_i6 : ∀ x ∈ [g11], x ∉ ([g4]) := fun x hx hy => absurd (hM x (ml hy)) (Nat.not_lt.2 ((hN12.ge1) x hx))
  have p_i13_M : ∀ x ∈ [g11], x ∉ M := fun x hx hy => absurd (hM x (mr (hy))) (Nat.not_lt.2 ((hN12.ge1) x hx))
  have e_i13 : ∀ x ∈ [g11], w.heap.size ≤ x := fun x hx => Nat.le_trans hC.size ((hN12.ge1) x hx)
  have hM : MS ([g11] ++ ([g4] ++ (M))) w10 := (MS.app hN12.ms (MS.app (fun x h => hM.chg hN12.chg x (ml h)) (fun x h => hM.chg hN12.chg x (mr (h)))))
  have hC := hC.trans hN12.chg (Ok.nil _ _)
  have f14 : Own (rInt .u8) 5 w10 ([g11] ++ ([g4] ++ (M))) (some ⟨g11, 0, none⟩) 2 ([(1 : Int), (2 : Int)] : List Int) := hN12.own ⟨([.int .u8 (1 : Int)] : List Value), _, rfl, rfl, ⟨([.int .u8 (2 : Int)] : List Value), _, rfl, rfl, rfl⟩⟩ (Nat.le_of_ble_eq_true rfl)
  refine opk (v := .agg (cS_api_Tunnel (⟨true, (2 : Int), (0 : Int), (⟨(4 : Int), ([(10 : Int), (0 : Int), (0 : Int), (1 : Int), (0 : Int), (0 : Int), (0 : Int), (0 : Int), (0 : Int), (0 : Int), (0 : Int), (0 : Int), (0 : Int), (0 : Int), (0 : Int), (0 : Int)] : List Int)⟩ : S_api_Addr), ([(1 : Int), (2 : Int)] : List Int)⟩ : S_api_Tunnel) (some ⟨g11, 0, none⟩) 2).toArray) ha rfl rfl rfl rfl rfl (fun w => by kernel_rfl) fun a ha => ?_
  have fz := f14.toRSl (M' := [g4] ++ (M)) (Ok.app (fun _ h => .inl (mr (ml h))) (fun _ h => .inl (mr (mr (h))))) (fun x hx hm => (List.mem_append.1 hm).elim (fun h => p_i13_i6 x hx h) (fun h => p_i13_M x hx h))
  have o1 : Ok [] ([g11] ++ ([g4] ++ (M))) w10.heap.size := Ok.nil _ _
  have o2 : Ok ([g4] ++ (M)) ([g11] ++ ([g4] ++ (M))) w10.heap.size := (Ok.app (fun _ h => .inl (mr (ml h))) (fun _ h => .inl (mr (mr (h)))))
  have hBg4 := hBg4.chg (Chg.refl [] _) (fun h => nomatch h)
  have hM : MS ([g4] ++ (M)) w10 := (MS.app (fun x h => hM.chg (Chg.refl [] _) x (mr (ml h))) (fun x h => hM.chg (Chg.refl [] _) x (mr (mr (h)))))
  have hC := hC.trans (Chg.refl [] _) (Ok.nil _ _)
  have f14 := fz
  obtain ⟨t15, H15, H⟩ := bind_some H
  refine cl ha (by rfl) (by kernel_rfl) (by rfl) (by rfl) (by rfl) (pmsi_Bytes.walk w10 _ hM (⟨true, (2 : Int), (0 : Int), (⟨(4 : Int), ([(10 : Int), (0 : Int), (0 : Int), (1 : Int), (0 : Int), (0 : Int), (0 : Int), (0 : Int), (0 : Int), (0 : Int), (0 : Int), (0 : Int), (0 : Int), (0 : Int), (0 : Int), (0 : Int)] : List Int)⟩ : S_api_Addr), ([(1 : Int), (2 : Int)] : List Int)⟩ : S_api_Tunnel) (some ⟨g11, 0, none⟩) 2 f14 k _ H15) ?_
  rintro _ w15 ⟨ao16, cap16, rfl, f16, ne_i16, hc15, hMn⟩ a ha
  have o1 : Ok [] ([g4] ++ (M)) w10.heap.size := Ok.nil _ _
  have o2 : Ok (blkL ao16 ++ ([g4] ++ (M))) ([g4] ++ (M)) w10.heap.size := (Ok.app (fun x h => .inr (ne_i16 x h)) (Ok.app (fun _ h => .inl (ml h)) (fun _ h => .inl (mr (h)))))
  have f14 := f14.chg hc15 o1 o2
  have hBg4 := hBg4.chg hc15 (fun h => nomatch h)
  have nw : Ok (blkL ao16) ([g4] ++ (M)) w10.heap.size := (fun x h => .inr (ne_i16 x h))
  have p_i16_i6 : ∀ x ∈ blkL ao16, x ∉ ([g4]) := fun x hx hy => absurd (hM x (ml hy)) (Nat.not_lt.2 (ne_i16 x hx))
  have p_i16_M : ∀ x ∈ blkL ao16, x ∉ M := fun x hx hy => absurd (hM x (mr (hy))) (Nat.not_lt.2 (ne_i16 x hx))
  have e_i16 : ∀ x ∈ blkL ao16, w.heap.size ≤ x := fun x hx => Nat.le_trans hC.size (ne_i16 x hx)
  have hM : MS (blkL ao16 ++ ([g4] ++ (M))) w15 := (MS.app (fun x h => hMn x (ml h)) (MS.app (fun x h => hM.chg hc15 x (ml h)) (fun x h => hM.chg hc15 x (mr (h)))))
  have hC := hC.trans hc15 (Ok.nil _ _)
  refine seg ha 5 [(1, .pointer (some ⟨g4, 0, none⟩)), (2, .slice ao16 t15.1.length cap16), (3, .int .i64 t15.2)] (by kernel_rfl) fun a ha => ?_
  refine hK9 _ _ ?_; try clear hK9 K9
  refine wp_seq_k fun K17 hK17 => ?_
  refine wp_region_lit ?_
  refine seg ha 1 [(1, .pointer (some ⟨g4, 0, none⟩)), (2, .slice ao16 t15.1.length cap16), (3, .int .i64 t15.2), (18, .slice ao16 t15.1.length cap16)] (by kernel_rfl) fun a ha => ?_
  have fz := f16.toRSl (M' := [g4] ++ (M)) (Ok.app (fun _ h => .inl (mr (ml h))) (fun _ h => .inl (mr (mr (h))))) (fun x hx hm => (List.mem_append.1 hm).elim (fun h => p_i16_i6 x hx h) (fun h => p_i16_M x hx h))
  have o1 : Ok [] (blkL ao16 ++ ([g4] ++ (M))) w15.heap.size := Ok.nil _ _
  have o2 : Ok ([g4] ++ (M)) (blkL ao16 ++ ([g4] ++ (M))) w15.heap.size := (Ok.app (fun _ h => .inl (mr (ml h))) (fun _ h => .inl (mr (mr (h)))))
  have hBg4 := hBg4.chg (Chg.refl [] _) (fun h => nomatch h)
  have hM : MS ([g4] ++ (M)) w15 := (MS.app (fun x h => hM.chg (Chg.refl [] _) x (mr (ml h))) (fun x h => hM.chg (Chg.refl [] _) x (mr (mr (h)))))
  have hC := hC.trans (Chg.refl [] _) (Ok.nil _ _)
  have f16 := fz
  obtain ⟨t18, H18, H⟩ := bind_some H
  refine cl ha (by rfl) (by kernel_rfl) (by rfl) (by rfl) (by rfl) (pmsi_Parse.walk w15 _ hM t15.1 ao16 cap16 f16 k _ H18) ?_
  rintro _ w18 ⟨ao19, cap19, rfl, f19, hc18, hMn⟩ a ha
  have o1 : Ok [] ([g4] ++ (M)) w15.heap.size := Ok.nil _ _
  have o2 : Ok ([g4] ++ (M)) ([g4] ++ (M)) w15.heap.size := (Ok.app (fun _ h => .inl (ml h)) (fun _ h => .inl (mr (h))))
  have f16 := f16.chg hc18 o1 o2
  have hBg4 := hBg4.chg hc18 (fun h => nomatch h)
  have hM : MS ([g4] ++ (M)) w18 := (MS.app (fun x h => hM.chg hc18 x (ml h)) (fun x h => hM.chg hc18 x (mr (h))))
  have hC := hC.trans hc18 (Ok.nil _ _)
  refine seg ha 3 [(1, .pointer (some ⟨g4, 0, none⟩)), (2, .slice ao16 t15.1.length cap16), (3, .int .i64 t15.2), (20, .agg (cS_api_Tunnel t18.1 ao19 cap19).toArray), (21, .int .i64 t18.2)] (by kernel_rfl) fun a ha => ?_
  refine al (cs := (cS_api_Tunnel (⟨false, (0 : Int), (0 : Int), (⟨(0 : Int), (List.replicate 16 (0 : Int))⟩ : S_api_Addr), ([] : List Int)⟩ : S_api_Tunnel) none 0)) (z := .agg (cS_api_Tunnel (⟨false, (0 : Int), (0 : Int), (⟨(0 : Int), (List.replicate 16 (0 : Int))⟩ : S_api_Addr), ([] : List Int)⟩ : S_api_Tunnel) none 0).toArray) ha (fun w => by kernel_rfl) rfl rfl rfl rfl fun a w20 g21 hN22 ha => ?_
  have o1 : Ok [] ([g4] ++ (M)) w18.heap.size := Ok.nil _ _
  have o2 : Ok ([g21] ++ ([g4] ++ (M))) ([g4] ++ (M)) w18.heap.size := (Ok.app (hN22.ok _) (Ok.app (fun _ h => .inl (ml h)) (fun _ h => .inl (mr (h)))))
  have f16 := f16.chg hN22.chg o1 o2
  have f19 := f19.chg hN22.chg o1 o2
  have hBg4 := hBg4.chg hN22.chg (fun h => nomatch h)
  have nw : Ok ([g21]) ([g4] ++ (M)) w18.heap.size := (hN22.ok _)
  have p_i23_i6 : ∀ x ∈ [g21], x ∉ ([g4]) := fun x hx hy => absurd (hM x (ml hy)) (Nat.not_lt.2 ((hN22.ge1) x hx))
  have p_i23_M : ∀ x ∈ [g21], x ∉ M := fun x hx hy => absurd (hM x (mr (hy))) (Nat.not_lt.2 ((hN22.ge1) x hx))
  have e_i23 : ∀ x ∈ [g21], w.heap.size ≤ x := fun x hx => Nat.le_trans hC.size ((hN22.ge1) x hx)
  have hM : MS ([g21] ++ ([g4] ++ (M))) w20 := (MS.app hN22.ms (MS.app (fun x h => hM.chg hN22.chg x (ml h)) (fun x h => hM.chg hN22.chg x (mr (h)))))
  have hC := hC.trans hN22.chg (Ok.nil _ _)
  have hBg21 : Box w20 g21 (cS_api_Tunnel (⟨false, (0 : Int), (0 : Int), (⟨(0 : Int), (List.replicate 16 (0 : Int))⟩ : S_api_Addr), ([] : List Int)⟩ : S_api_Tunnel) none 0) := hN22.box
  refine stA (l := (cS_api_Tunnel t18.1 ao19 cap19)) ha rfl rfl rfl (by kernel_rfl) rfl rfl hBg21 rfl fun a w24 ha hb2 hc25 _ => ?_
  have o1 : Ok [g21] ([g21] ++ ([g4] ++ (M))) w20.heap.size := (fun _ h => .inl (ml h))
  have o2 : Ok ([g21] ++ ([g4] ++ (M))) ([g21] ++ ([g4] ++ (M))) w20.heap.size := (Ok.app (fun _ h => .inl (ml h)) (Ok.app (fun _ h => .inl (mr (ml h))) (fun _ h => .inl (mr (mr (h))))))
  have f16 := f16.chg hc25 o1 o2
  have f19 := f19.chg hc25 o1 o2
  have hBg4 := hBg4.chg hc25 ((fun x (hx : x ∈ [g4]) (hy : x ∈ [g21]) => p_i23_i6 x hy hx) g4 (by simp))
  have hM : MS ([g21] ++ ([g4] ++ (M))) w24 := (MS.app (fun x h => hM.chg hc25 x (ml h)) (MS.app (fun x h => hM.chg hc25 x (mr (ml h))) (fun x h => hM.chg hc25 x (mr (mr (h))))))
  have hC := hC.trans hc25 (fun x h => .inr (e_i23 x h))
  have hBg21 : Box w24 g21 (cS_api_Tunnel t18.1 ao19 cap19) := hb2
  refine seg ha 1 [(1, .pointer (some ⟨g4, 0, none⟩)), (2, .slice ao16 t15.1.length cap16), (3, .int .i64 t15.2), (4, .pointer (some ⟨g21, 0, none⟩)), (5, .int .i64 t18.2)] (by kernel_rfl) fun a ha => ?_
  refine hK17 _ _ ?_; try clear hK17 K17
  refine wp_seq_k fun K26 hK26 => ?_
  refine wp_region_lit ?_
  refine ldA (cs := (cS_api_Addr (⟨(4 : Int), ([(10 : Int), (0 : Int), (0 : Int), (1 : Int), (0 : Int), (0 : Int), (0 : Int), (0 : Int), (0 : Int), (0 : Int), (0 : Int), (0 : Int), (0 : Int), (0 : Int), (0 : Int), (0 : Int)] : List Int)⟩ : S_api_Addr))) ha rfl (by kernel_rfl) rfl rfl rfl (cells_sub (Box.cells hBg4) (all := (cS_api_Addr (⟨(4 : Int), ([(10 : Int), (0 : Int), (0 : Int), (1 : Int), (0 : Int), (0 : Int), (0 : Int), (0 : Int), (0 : Int), (0 : Int), (0 : Int), (0 : Int), (0 : Int), (0 : Int), (0 : Int), (0 : Int)] : List Int)⟩ : S_api_Addr))) [] [] (by kernel_rfl)) fun a ha => ?_
  refine bsl (vals := ([.int .u8 (10 : Int), .int .u8 (0 : Int), .int .u8 (0 : Int), .int .u8 (2 : Int)] : List Value)) (T := 5) ha rfl (([.int .u8 (10 : Int)] : List Value) ++ (([.int .u8 (0 : Int)] : List Value) ++ (([.int .u8 (0 : Int)] : List Value) ++ (([.int .u8 (2 : Int)] : List Value) ++ ([] : List Value))))) (fun w => by kernel_rfl) rfl rfl rfl fun a w27 g28 hN29 ha => ?_
  have o1 : Ok [] ([g21] ++ ([g4] ++ (M))) w24.heap.size := Ok.nil _ _
  have o2 : Ok ([g28] ++ ([g21] ++ ([g4] ++ (M)))) ([g21] ++ ([g4] ++ (M))) w24.heap.size := (Ok.app (hN29.ok _) (Ok.app (fun _ h => .inl (ml h)) (Ok.app (fun _ h => .inl (mr (ml h))) (fun _ h => .inl (mr (mr (h)))))))
  have f16 := f16.chg hN29.chg o1 o2
  have f19 := f19.chg hN29.chg o1 o2
  have hBg4 := hBg4.chg hN29.chg (fun h => nomatch h)
  have hBg21 := hBg21.chg hN29.chg (fun h => nomatch h)
  have nw : Ok ([g28]) ([g21] ++ ([g4] ++ (M))) w24.heap.size := (hN29.ok _)
  have p_i30_i23 : ∀ x ∈ [g28], x ∉ ([g21]) := fun x hx hy => absurd (hM x (ml hy)) (Nat.not_lt.2 ((hN29.ge1) x hx))
  have p_i30_i6 : ∀ x ∈ [g28], x ∉ ([g4]) := fun x hx hy => absurd (hM x (mr (ml hy))) (Nat.not_lt.2 ((hN29.ge1) x hx))
  have p_i30_M : ∀ x ∈ [g28], x ∉ M := fun x hx hy => absurd (hM x (mr (mr (hy)))) (Nat.not_lt.2 ((hN29.ge1) x hx))
  have e_i30 : ∀ x ∈ [g28], w.heap.size ≤ x := fun x hx => Nat.le_trans hC.size ((hN29.ge1) x hx)
  have hM : MS ([g28] ++ ([g21] ++ ([g4] ++ (M)))) w27 := (MS.app hN29.ms (MS.app (fun x h => hM.chg hN29.chg x (ml h)) (MS.app (fun x h => hM.chg hN29.chg x (mr (ml h))) (fun x h => hM.chg hN29.chg x (mr (mr (h)))))))
  have hC := hC.trans hN29.chg (Ok.nil _ _)
  have f31 : Own (rInt .u8) 5 w27 ([g28] ++ ([g21] ++ ([g4] ++ (M)))) (some ⟨g28, 0, none⟩) 4 ([(10 : Int), (0 : Int), (0 : Int), (2 : Int)] : List Int) := hN29.own ⟨([.int .u8 (10 : Int)] : List Value), _, rfl, rfl, ⟨([.int .u8 (0 : Int)] : List Value), _, rfl, rfl, ⟨([.int .u8 (0 : Int)] : List Value), _, rfl, rfl, ⟨([.int .u8 (2 : Int)] : List Value), _, rfl, rfl, rfl⟩⟩⟩⟩ (Nat.le_of_ble_eq_true rfl)
  refine opk (v := .agg (cS_api_Tunnel (⟨false, (3 : Int), (0 : Int), (⟨(4 : Int), ([(10 : Int), (0 : Int), (0 : Int), (1 : Int), (0 : Int), (0 : Int), (0 : Int), (0 : Int), (0 : Int), (0 : Int), (0 : Int), (0 : Int), (0 : Int), (0 : Int), (0 : Int), (0 : Int)] : List Int)⟩ : S_api_Addr), ([(10 : Int), (0 : Int), (0 : Int), (2 : Int)] : List Int)⟩ : S_api_Tunnel) (some ⟨g28, 0, none⟩) 4).toArray) ha rfl rfl rfl rfl rfl (fun w => by kernel_rfl) fun a ha => ?_
  have fz := f31.toRSl (M' := [g21] ++ ([g4] ++ (M))) (Ok.app (fun _ h => .inl (mr (ml h))) (Ok.app (fun _ h => .inl (mr (mr (ml h)))) (fun _ h => .inl (mr (mr (mr (h))))))) (fun x hx hm => (List.mem_append.1 hm).elim (fun h => p_i30_i23 x hx h) (fun h => (List.mem_append.1 h).elim (fun h => p_i30_i6 x hx h) (fun h => p_i30_M x hx h)))
  have o1 : Ok [] ([g28] ++ ([g21] ++ ([g4] ++ (M)))) w27.heap.size := Ok.nil _ _
  have o2 : Ok ([g21] ++ ([g4] ++ (M))) ([g28] ++ ([g21] ++ ([g4] ++ (M)))) w27.heap.size := (Ok.app (fun _ h => .inl (mr (ml h))) (Ok.app (fun _ h => .inl (mr (mr (ml h)))) (fun _ h => .inl (mr (mr (mr (h)))))))
  have f16 := f16.chg (Chg.refl [] _) o1 o2
  have f19 := f19.chg (Chg.refl [] _) o1 o2
  have hBg4 := hBg4.chg (Chg.refl [] _) (fun h => nomatch h)
  have hBg21 := hBg21.chg (Chg.refl [] _) (fun h => nomatch h)
  have hM : MS ([g21] ++ ([g4] ++ (M))) w27 := (MS.app (fun x h => hM.chg (Chg.refl [] _) x (mr (ml h))) (MS.app (fun x h => hM.chg (Chg.refl [] _) x (mr (mr (ml h)))) (fun x h => hM.chg (Chg.refl [] _) x (mr (mr (mr (h)))))))
  have hC := hC.trans (Chg.refl [] _) (Ok.nil _ _)
  have f31 := fz
  obtain ⟨t32, H32, H⟩ := bind_some H
  refine cl ha (by rfl) (by kernel_rfl) (by rfl) (by rfl) (by rfl) (pmsi_Bytes.walk w27 _ hM (⟨false, (3 : Int), (0 : Int), (⟨(4 : Int), ([(10 : Int), (0 : Int), (0 : Int), (1 : Int), (0 : Int), (0 : Int), (0 : Int), (0 : Int), (0 : Int), (0 : Int), (0 : Int), (0 : Int), (0 : Int), (0 : Int), (0 : Int), (0 : Int)] : List Int)⟩ : S_api_Addr), ([(10 : Int), (0 : Int), (0 : Int), (2 : Int)] : List Int)⟩ : S_api_Tunnel) (some ⟨g28, 0, none⟩) 4 f31 k _ H32) ?_
  rintro _ w32 ⟨ao33, cap33, rfl, f33, ne_i33, hc32, hMn⟩ a ha
  have o1 : Ok [] ([g21] ++ ([g4] ++ (M))) w27.heap.size := Ok.nil _ _
  have o2 : Ok (blkL ao33 ++ ([g21] ++ ([g4] ++ (M)))) ([g21] ++ ([g4] ++ (M))) w27.heap.size := (Ok.app (fun x h => .inr (ne_i33 x h)) (Ok.app (fun _ h => .inl (ml h)) (Ok.app (fun _ h => .inl (mr (ml h))) (fun _ h => .inl (mr (mr (h)))))))
  have f16 := f16.chg hc32 o1 o2
  have f31 := f31.chg hc32 o1 o2
  have f19 := f19.chg hc32 o1 o2
  have hBg4 := hBg4.chg hc32 (fun h => nomatch h)
  have hBg21 := hBg21.chg hc32 (fun h => nomatch h)
  have nw : Ok (blkL ao33) ([g21] ++ ([g4] ++ (M))) w27.heap.size := (fun x h => .inr (ne_i33 x h))
  have p_i33_i23 : ∀ x ∈ blkL ao33, x ∉ ([g21]) := fun x hx hy => absurd (hM x (ml hy)) (Nat.not_lt.2 (ne_i33 x hx))
  have p_i33_i6 : ∀ x ∈ blkL ao33, x ∉ ([g4]) := fun x hx hy => absurd (hM x (mr (ml hy))) (Nat.not_lt.2 (ne_i33 x hx))
  have p_i33_M : ∀ x ∈ blkL ao33, x ∉ M := fun x hx hy => absurd (hM x (mr (mr (hy)))) (Nat.not_lt.2 (ne_i33 x hx))
  have e_i33 : ∀ x ∈ blkL ao33, w.heap.size ≤ x := fun x hx => Nat.le_trans hC.size (ne_i33 x hx)
  have hM : MS (blkL ao33 ++ ([g21] ++ ([g4] ++ (M)))) w32 := (MS.app (fun x h => hMn x (ml h)) (MS.app (fun x h => hM.chg hc32 x (ml h)) (MS.app (fun x h => hM.chg hc32 x (mr (ml h))) (fun x h => hM.chg hc32 x (mr (mr (h)))))))
  have hC := hC.trans hc32 (Ok.nil _ _)
  refine seg ha 5 [(1, .pointer (some ⟨g4, 0, none⟩)), (2, .slice ao16 t15.1.length cap16), (3, .int .i64 t15.2), (4, .pointer (some ⟨g21, 0, none⟩)), (5, .int .i64 t18.2), (7, .int .i64 t32.2)] (by kernel_rfl) fun a ha => ?_
  refine hK26 _ _ ?_; try clear hK26 K26
  refine wp_seq_k fun K34 hK34 => ?_
  refine wp_region_lit ?_
  obtain ⟨s35, H35, H⟩ := bind_some H
  have J35 : ∀ (a : Act) (w35 : World), Has a Tryd.f12.ntmps [(0, .bool s35)] → (RSl (rInt .u8) 5 w35 ([g21] ++ ([g4] ++ (M))) ao19 cap19 t18.1.Id) → (Box w35 g4 (cS_api_Addr (⟨(4 : Int), ([(10 : Int), (0 : Int), (0 : Int), (1 : Int), (0 : Int), (0 : Int), (0 : Int), (0 : Int), (0 : Int), (0 : Int), (0 : Int), (0 : Int), (0 : Int), (0 : Int), (0 : Int), (0 : Int)] : List Int)⟩ : S_api_Addr))) → (Box w35 g21 (cS_api_Tunnel t18.1 ao19 cap19)) → (Chg [] w w35) → (MS ([g21] ++ ([g4] ++ (M))) w35) → K34 a w35 := by
    intro a w35 ha f19 hBg4 hBg21 hC hM
    refine hK34 _ _ ?_; try clear hK34 K34
    refine wp_ret ?_
    try simp only [Exit.then, Exit.inBlock]
    have o1 : Ok [] ([g21] ++ ([g4] ++ (M))) w35.heap.size := Ok.nil _ _
    have o2 : Ok (M) ([g21] ++ ([g4] ++ (M))) w35.heap.size := (fun _ h => .inl (mr (mr (h))))
    have f19 := f19.chg (Chg.refl [] _) o1 o2
    have hBg4 := hBg4.chg (Chg.refl [] _) (fun h => nomatch h)
    have hBg21 := hBg21.chg (Chg.refl [] _) (fun h => nomatch h)
    have hM : MS (M) w35 := (fun x h => hM.chg (Chg.refl [] _) x (mr (mr (h))))
    have hC := hC.trans (Chg.refl [] _) (Ok.nil _ _)
    obtain rfl := Option.some.inj H
    refine rt1 ha rfl rfl ?_
    exact ⟨rfl, hC, hM⟩
  have H := H35
  refine seg ha 3 [(31, .bool (t15.2 == (0 : Int))), (1, .pointer (some ⟨g4, 0, none⟩)), (2, .slice ao16 t15.1.length cap16), (4, .pointer (some ⟨g21, 0, none⟩)), (5, .int .i64 t18.2), (7, .int .i64 t32.2)] (by kernel_rfl) fun a ha => ?_
  rcases Bool.eq_false_or_eq_true (t15.2 == (0 : Int)) with hb36 | hb36
  · have ha := ha.lit hb36
    have H := ite_t hb36 H
    refine sgh ha 1 [2] [(1, .pointer (some ⟨g4, 0, none⟩)), (4, .pointer (some ⟨g21, 0, none⟩)), (5, .int .i64 t18.2), (7, .int .i64 t32.2), (31, .bool true), (32, .slice ao16 t15.1.length cap16)] (by kernel_rfl) fun a ha => ?_
    refine cvs ha rfl (by kernel_rfl) (by kernel_rfl) (by kernel_rfl) rfl rfl rfl f16 fun a ha => ?_
    refine sgh ha 3 [2, 3, 0] [(36, .bool ((bstr (b2s t15.1)).toList == (bstr ([1, 2, 0, 0, 0, 6, 0, 1, 4, 10, 0, 0, 1, 0, 2, 1, 2] : List UInt8)).toList)), (1, .pointer (some ⟨g4, 0, none⟩)), (4, .pointer (some ⟨g21, 0, none⟩)), (5, .int .i64 t18.2), (7, .int .i64 t32.2)] (by kernel_rfl) fun a ha => ?_
    rcases Bool.eq_false_or_eq_true ((bstr (b2s t15.1)).toList == (bstr ([1, 2, 0, 0, 0, 6, 0, 1, 4, 10, 0, 0, 1, 0, 2, 1, 2] : List UInt8)).toList) with hb37 | hb37
    · have ha := ha.lit hb37
      have H := ite_t hb37 H
      refine sgh ha 4 [2, 2, 3, 0] [(40, .bool (t18.2 == (0 : Int))), (1, .pointer (some ⟨g4, 0, none⟩)), (4, .pointer (some ⟨g21, 0, none⟩)), (7, .int .i64 t32.2)] (by kernel_rfl) fun a ha => ?_
      rcases Bool.eq_false_or_eq_true (t18.2 == (0 : Int)) with hb38 | hb38
      · have ha := ha.lit hb38
        have H := ite_t hb38 H
        refine sgh ha 1 [2] [(1, .pointer (some ⟨g4, 0, none⟩)), (4, .pointer (some ⟨g21, 0, none⟩)), (7, .int .i64 t32.2), (40, .bool true), (41, .pointer (some ⟨g21, 0, none⟩))] (by kernel_rfl) fun a ha => ?_
        refine ld (v := .bool t18.1.Leaf) ha rfl (by kernel_rfl) rfl rfl rfl (hBg21.cell' (o := 0) rfl (by kernel_rfl)) fun a ha => ?_
        refine sgh ha 2 [3, 0] [(44, .bool t18.1.Leaf), (1, .pointer (some ⟨g4, 0, none⟩)), (4, .pointer (some ⟨g21, 0, none⟩)), (7, .int .i64 t32.2)] (by kernel_rfl) fun a ha => ?_
        rcases Bool.eq_false_or_eq_true (t18.1.Leaf) with hb39 | hb39
        · have ha := ha.lit hb39
          have H := ite_t hb39 H
          refine sgh ha 1 [2] [(1, .pointer (some ⟨g4, 0, none⟩)), (4, .pointer (some ⟨g21, 0, none⟩)), (7, .int .i64 t32.2), (44, .bool true), (45, .pointer (some ⟨g21, 3, none⟩))] (by kernel_rfl) fun a ha => ?_
          refine ldA (cs := (cS_api_Addr t18.1.Root)) ha rfl (by kernel_rfl) rfl rfl rfl (cells_sub (Box.cells hBg21) (all := (cS_api_Tunnel t18.1 ao19 cap19)) [.bool t18.1.Leaf, .int .i64 t18.1.Kind, .int .i64 t18.1.Label] [.slice ao19 t18.1.Id.length cap19] (by kernel_rfl)) fun a ha => ?_
          refine ldA (cs := (cS_api_Addr (⟨(4 : Int), ([(10 : Int), (0 : Int), (0 : Int), (1 : Int), (0 : Int), (0 : Int), (0 : Int), (0 : Int), (0 : Int), (0 : Int), (0 : Int), (0 : Int), (0 : Int), (0 : Int), (0 : Int), (0 : Int)] : List Int)⟩ : S_api_Addr))) ha rfl (by kernel_rfl) rfl rfl rfl (cells_sub (Box.cells hBg4) (all := (cS_api_Addr (⟨(4 : Int), ([(10 : Int), (0 : Int), (0 : Int), (1 : Int), (0 : Int), (0 : Int), (0 : Int), (0 : Int), (0 : Int), (0 : Int), (0 : Int), (0 : Int), (0 : Int), (0 : Int), (0 : Int), (0 : Int)] : List Int)⟩ : S_api_Addr))) [] [] (by kernel_rfl)) fun a ha => ?_
          refine hop (v := .bool ((t18.1.Root.Size == (4 : Int)) && ((eqA 16 t18.1.Root.B ([(10 : Int), (0 : Int), (0 : Int), (1 : Int), (0 : Int), (0 : Int), (0 : Int), (0 : Int), (0 : Int), (0 : Int), (0 : Int), (0 : Int), (0 : Int), (0 : Int), (0 : Int), (0 : Int)] : List Int)) && true))) (w' := w32) ha rfl rfl rfl (eqs_run (r := ((t18.1.Root.Size == (4 : Int)) && ((eqA 16 t18.1.Root.B ([(10 : Int), (0 : Int), (0 : Int), (1 : Int), (0 : Int), (0 : Int), (0 : Int), (0 : Int), (0 : Int), (0 : Int), (0 : Int), (0 : Int), (0 : Int), (0 : Int), (0 : Int), (0 : Int)] : List Int)) && true))) (m := 9) ha rfl rfl (by kernel_rfl) rfl (by kernel_rfl) _) fun a ha => ?_
          refine sgh ha 2 [3, 0] [(50, .bool ((t18.1.Root.Size == (4 : Int)) && ((eqA 16 t18.1.Root.B ([(10 : Int), (0 : Int), (0 : Int), (1 : Int), (0 : Int), (0 : Int), (0 : Int), (0 : Int), (0 : Int), (0 : Int), (0 : Int), (0 : Int), (0 : Int), (0 : Int), (0 : Int), (0 : Int)] : List Int)) && true))), (1, .pointer (some ⟨g4, 0, none⟩)), (4, .pointer (some ⟨g21, 0, none⟩)), (7, .int .i64 t32.2)] (by kernel_rfl) fun a ha => ?_
          rcases Bool.eq_false_or_eq_true (((t18.1.Root.Size == (4 : Int)) && ((eqA 16 t18.1.Root.B ([(10 : Int), (0 : Int), (0 : Int), (1 : Int), (0 : Int), (0 : Int), (0 : Int), (0 : Int), (0 : Int), (0 : Int), (0 : Int), (0 : Int), (0 : Int), (0 : Int), (0 : Int), (0 : Int)] : List Int)) && true))) with hb40 | hb40
          · have ha := ha.lit hb40
            have H := ite_t hb40 H
            refine ldA (cs := (cS_api_Tunnel t18.1 ao19 cap19)) ha rfl (by kernel_rfl) rfl rfl rfl (cells_sub (Box.cells hBg21) (all := (cS_api_Tunnel t18.1 ao19 cap19)) [] [] (by kernel_rfl)) fun a ha => ?_
            refine ldA (cs := (cS_api_Addr (⟨(4 : Int), ([(10 : Int), (0 : Int), (0 : Int), (1 : Int), (0 : Int), (0 : Int), (0 : Int), (0 : Int), (0 : Int), (0 : Int), (0 : Int), (0 : Int), (0 : Int), (0 : Int), (0 : Int), (0 : Int)] : List Int)⟩ : S_api_Addr))) ha rfl (by kernel_rfl) rfl rfl rfl (cells_sub (Box.cells hBg4) (all := (cS_api_Addr (⟨(4 : Int), ([(10 : Int), (0 : Int), (0 : Int), (1 : Int), (0 : Int), (0 : Int), (0 : Int), (0 : Int), (0 : Int), (0 : Int), (0 : Int), (0 : Int), (0 : Int), (0 : Int), (0 : Int), (0 : Int)] : List Int)⟩ : S_api_Addr))) [] [] (by kernel_rfl)) fun a ha => ?_
            refine bsl (vals := ([.int .u8 (1 : Int), .int .u8 (2 : Int)] : List Value)) (T := 5) ha rfl (([.int .u8 (1 : Int)] : List Value) ++ (([.int .u8 (2 : Int)] : List Value) ++ ([] : List Value))) (fun w => by kernel_rfl) rfl rfl rfl fun a w41 g42 hN43 ha => ?_
            have o1 : Ok [] (blkL ao33 ++ ([g21] ++ ([g4] ++ (M)))) w32.heap.size := Ok.nil _ _
            have o2 : Ok ([g42] ++ (blkL ao33 ++ ([g21] ++ ([g4] ++ (M))))) (blkL ao33 ++ ([g21] ++ ([g4] ++ (M)))) w32.heap.size := (Ok.app (hN43.ok _) (Ok.app (fun _ h => .inl (ml h)) (Ok.app (fun _ h => .inl (mr (ml h))) (Ok.app (fun _ h => .inl (mr (mr (ml h)))) (fun _ h => .inl (mr (mr (mr (h)))))))))
            have f19 := f19.chg hN43.chg o1 o2
            have hBg4 := hBg4.chg hN43.chg (fun h => nomatch h)
            have hBg21 := hBg21.chg hN43.chg (fun h => nomatch h)
            have nw : Ok ([g42]) (blkL ao33 ++ ([g21] ++ ([g4] ++ (M)))) w32.heap.size := (hN43.ok _)
            have p_i44_i33 : ∀ x ∈ [g42], x ∉ (blkL ao33) := fun x hx hy => absurd (hM x (ml hy)) (Nat.not_lt.2 ((hN43.ge1) x hx))
            have p_i44_i23 : ∀ x ∈ [g42], x ∉ ([g21]) := fun x hx hy => absurd (hM x (mr (ml hy))) (Nat.not_lt.2 ((hN43.ge1) x hx))
            have p_i44_i6 : ∀ x ∈ [g42], x ∉ ([g4]) := fun x hx hy => absurd (hM x (mr (mr (ml hy)))) (Nat.not_lt.2 ((hN43.ge1) x hx))
            have p_i44_M : ∀ x ∈ [g42], x ∉ M := fun x hx hy => absurd (hM x (mr (mr (mr (hy))))) (Nat.not_lt.2 ((hN43.ge1) x hx))
            have e_i44 : ∀ x ∈ [g42], w.heap.size ≤ x := fun x hx => Nat.le_trans hC.size ((hN43.ge1) x hx)
            have hM : MS ([g42] ++ (blkL ao33 ++ ([g21] ++ ([g4] ++ (M))))) w41 := (MS.app hN43.ms (MS.app (fun x h => hM.chg hN43.chg x (ml h)) (MS.app (fun x h => hM.chg hN43.chg x (mr (ml h))) (MS.app (fun x h => hM.chg hN43.chg x (mr (mr (ml h)))) (fun x h => hM.chg hN43.chg x (mr (mr (mr (h)))))))))
            have hC := hC.trans hN43.chg (Ok.nil _ _)
            have f45 : Own (rInt .u8) 5 w41 ([g42] ++ (blkL ao33 ++ ([g21] ++ ([g4] ++ (M))))) (some ⟨g42, 0, none⟩) 2 ([(1 : Int), (2 : Int)] : List Int) := hN43.own ⟨([.int .u8 (1 : Int)] : List Value), _, rfl, rfl, ⟨([.int .u8 (2 : Int)] : List Value), _, rfl, rfl, rfl⟩⟩ (Nat.le_of_ble_eq_true rfl)
            refine opk (v := .agg (cS_api_Tunnel (⟨false, (2 : Int), (0 : Int), (⟨(4 : Int), ([(10 : Int), (0 : Int), (0 : Int), (1 : Int), (0 : Int), (0 : Int), (0 : Int), (0 : Int), (0 : Int), (0 : Int), (0 : Int), (0 : Int), (0 : Int), (0 : Int), (0 : Int), (0 : Int)] : List Int)⟩ : S_api_Addr), ([(1 : Int), (2 : Int)] : List Int)⟩ : S_api_Tunnel) (some ⟨g42, 0, none⟩) 2).toArray) ha rfl rfl rfl rfl rfl (fun w => by kernel_rfl) fun a ha => ?_
            have fz := f45.toRSl (M' := blkL ao33 ++ ([g21] ++ ([g4] ++ (M)))) (Ok.app (fun _ h => .inl (mr (ml h))) (Ok.app (fun _ h => .inl (mr (mr (ml h)))) (Ok.app (fun _ h => .inl (mr (mr (mr (ml h))))) (fun _ h => .inl (mr (mr (mr (mr (h))))))))) (fun x hx hm => (List.mem_append.1 hm).elim (fun h => p_i44_i33 x hx h) (fun h => (List.mem_append.1 h).elim (fun h => p_i44_i23 x hx h) (fun h => (List.mem_append.1 h).elim (fun h => p_i44_i6 x hx h) (fun h => p_i44_M x hx h))))
            have o1 : Ok [] ([g42] ++ (blkL ao33 ++ ([g21] ++ ([g4] ++ (M))))) w41.heap.size := Ok.nil _ _
            have o2 : Ok (blkL ao33 ++ ([g21] ++ ([g4] ++ (M)))) ([g42] ++ (blkL ao33 ++ ([g21] ++ ([g4] ++ (M))))) w41.heap.size := (Ok.app (fun _ h => .inl (mr (ml h))) (Ok.app (fun _ h => .inl (mr (mr (ml h)))) (Ok.app (fun _ h => .inl (mr (mr (mr (ml h))))) (fun _ h => .inl (mr (mr (mr (mr (h)))))))))
            have f19 := f19.chg (Chg.refl [] _) o1 o2
            have hBg4 := hBg4.chg (Chg.refl [] _) (fun h => nomatch h)
            have hBg21 := hBg21.chg (Chg.refl [] _) (fun h => nomatch h)
            have hM : MS (blkL ao33 ++ ([g21] ++ ([g4] ++ (M)))) w41 := (MS.app (fun x h => hM.chg (Chg.refl [] _) x (mr (ml h))) (MS.app (fun x h => hM.chg (Chg.refl [] _) x (mr (mr (ml h)))) (MS.app (fun x h => hM.chg (Chg.refl [] _) x (mr (mr (mr (ml h))))) (fun x h => hM.chg (Chg.refl [] _) x (mr (mr (mr (mr (h)))))))))
            have hC := hC.trans (Chg.refl [] _) (Ok.nil _ _)
            have f45 := fz
            obtain ⟨t46, H46, H⟩ := bind_some H
            refine cl ha (by rfl) (by kernel_rfl) (by rfl) (by rfl) (by rfl) (pmsi_Same.walk w41 _ hM t18.1 ao19 cap19 f19 (⟨false, (2 : Int), (0 : Int), (⟨(4 : Int), ([(10 : Int), (0 : Int), (0 : Int), (1 : Int), (0 : Int), (0 : Int), (0 : Int), (0 : Int), (0 : Int), (0 : Int), (0 : Int), (0 : Int), (0 : Int), (0 : Int), (0 : Int), (0 : Int)] : List Int)⟩ : S_api_Addr), ([(1 : Int), (2 : Int)] : List Int)⟩ : S_api_Tunnel) (some ⟨g42, 0, none⟩) 2 f45 _ H46) ?_
            rintro _ w46 ⟨rfl, hc46, hMn⟩ a ha
            have o1 : Ok [] (blkL ao33 ++ ([g21] ++ ([g4] ++ (M)))) w41.heap.size := Ok.nil _ _
            have o2 : Ok (blkL ao33 ++ ([g21] ++ ([g4] ++ (M)))) (blkL ao33 ++ ([g21] ++ ([g4] ++ (M)))) w41.heap.size := (Ok.app (fun _ h => .inl (ml h)) (Ok.app (fun _ h => .inl (mr (ml h))) (Ok.app (fun _ h => .inl (mr (mr (ml h)))) (fun _ h => .inl (mr (mr (mr (h))))))))
            have f19 := f19.chg hc46 o1 o2
            have f45 := f45.chg hc46 o1 o2
            have hBg4 := hBg4.chg hc46 (fun h => nomatch h)
            have hBg21 := hBg21.chg hc46 (fun h => nomatch h)
            have hM : MS (blkL ao33 ++ ([g21] ++ ([g4] ++ (M)))) w46 := (MS.app (fun x h => hM.chg hc46 x (ml h)) (MS.app (fun x h => hM.chg hc46 x (mr (ml h))) (MS.app (fun x h => hM.chg hc46 x (mr (mr (ml h)))) (fun x h => hM.chg hc46 x (mr (mr (mr (h))))))))
            have hC := hC.trans hc46 (Ok.nil _ _)
            refine sgh ha 2 [3, 0] [(57, .bool t46), (7, .int .i64 t32.2)] (by kernel_rfl) fun a ha => ?_
            rcases Bool.eq_false_or_eq_true (t46) with hb47 | hb47
            · have ha := ha.lit hb47
              have H := ite_t hb47 H
              refine sgh ha 4 [2, 2, 3, 0] [(0, .bool (t32.2 == (1 : Int)))] (by kernel_rfl) fun a ha => ?_
              obtain rfl := Option.some.inj H
              have o1 : Ok [] (blkL ao33 ++ ([g21] ++ ([g4] ++ (M)))) w46.heap.size := Ok.nil _ _
              have o2 : Ok ([g21] ++ ([g4] ++ (M))) (blkL ao33 ++ ([g21] ++ ([g4] ++ (M)))) w46.heap.size := (Ok.app (fun _ h => .inl (mr (ml h))) (Ok.app (fun _ h => .inl (mr (mr (ml h)))) (fun _ h => .inl (mr (mr (mr (h)))))))
              have f19 := f19.chg (Chg.refl [] _) o1 o2
              have hBg4 := hBg4.chg (Chg.refl [] _) (fun h => nomatch h)
              have hBg21 := hBg21.chg (Chg.refl [] _) (fun h => nomatch h)
              have hM : MS ([g21] ++ ([g4] ++ (M))) w46 := (MS.app (fun x h => hM.chg (Chg.refl [] _) x (mr (ml h))) (MS.app (fun x h => hM.chg (Chg.refl [] _) x (mr (mr (ml h)))) (fun x h => hM.chg (Chg.refl [] _) x (mr (mr (mr (h)))))))
              have hC := hC.trans (Chg.refl [] _) (Ok.nil _ _)
              exact J35 _ _ (ha.sel (by kernel_rfl)) f19 hBg4 hBg21 hC hM
            · have ha := ha.lit hb47
              have H := ite_f hb47 H
              refine sgh ha 4 [1, 1, 4, 0] [(0, .bool false)] (by kernel_rfl) fun a ha => ?_
              obtain rfl := Option.some.inj H
              have o1 : Ok [] (blkL ao33 ++ ([g21] ++ ([g4] ++ (M)))) w46.heap.size := Ok.nil _ _
              have o2 : Ok ([g21] ++ ([g4] ++ (M))) (blkL ao33 ++ ([g21] ++ ([g4] ++ (M)))) w46.heap.size := (Ok.app (fun _ h => .inl (mr (ml h))) (Ok.app (fun _ h => .inl (mr (mr (ml h)))) (fun _ h => .inl (mr (mr (mr (h)))))))
              have f19 := f19.chg (Chg.refl [] _) o1 o2
              have hBg4 := hBg4.chg (Chg.refl [] _) (fun h => nomatch h)
              have hBg21 := hBg21.chg (Chg.refl [] _) (fun h => nomatch h)
              have hM : MS ([g21] ++ ([g4] ++ (M))) w46 := (MS.app (fun x h => hM.chg (Chg.refl [] _) x (mr (ml h))) (MS.app (fun x h => hM.chg (Chg.refl [] _) x (mr (mr (ml h)))) (fun x h => hM.chg (Chg.refl [] _) x (mr (mr (mr (h)))))))
              have hC := hC.trans (Chg.refl [] _) (Ok.nil _ _)
              exact J35 _ _ (ha.sel (by kernel_rfl)) f19 hBg4 hBg21 hC hM
          · have ha := ha.lit hb40
            have H := ite_f hb40 H
            refine sgh ha 11 [1, 1, 1, 1, 1, 4, 0, 1, 1, 4, 0] [(0, .bool false)] (by kernel_rfl) fun a ha => ?_
            obtain rfl := Option.some.inj H
            have o1 : Ok [] (blkL ao33 ++ ([g21] ++ ([g4] ++ (M)))) w32.heap.size := Ok.nil _ _
            have o2 : Ok ([g21] ++ ([g4] ++ (M))) (blkL ao33 ++ ([g21] ++ ([g4] ++ (M)))) w32.heap.size := (Ok.app (fun _ h => .inl (mr (ml h))) (Ok.app (fun _ h => .inl (mr (mr (ml h)))) (fun _ h => .inl (mr (mr (mr (h)))))))
            have f19 := f19.chg (Chg.refl [] _) o1 o2
            have hBg4 := hBg4.chg (Chg.refl [] _) (fun h => nomatch h)
            have hBg21 := hBg21.chg (Chg.refl [] _) (fun h => nomatch h)
            have hM : MS ([g21] ++ ([g4] ++ (M))) w32 := (MS.app (fun x h => hM.chg (Chg.refl [] _) x (mr (ml h))) (MS.app (fun x h => hM.chg (Chg.refl [] _) x (mr (mr (ml h)))) (fun x h => hM.chg (Chg.refl [] _) x (mr (mr (mr (h)))))))
            have hC := hC.trans (Chg.refl [] _) (Ok.nil _ _)
            exact J35 _ _ (ha.sel (by kernel_rfl)) f19 hBg4 hBg21 hC hM
        · have ha := ha.lit hb39
          have H := ite_f hb39 H
          refine sgh ha 17 [1, 1, 1, 1, 4, 0, 1, 1, 1, 1, 1, 4, 0, 1, 1, 4, 0] [(0, .bool false)] (by kernel_rfl) fun a ha => ?_
          obtain rfl := Option.some.inj H
          have o1 : Ok [] (blkL ao33 ++ ([g21] ++ ([g4] ++ (M)))) w32.heap.size := Ok.nil _ _
          have o2 : Ok ([g21] ++ ([g4] ++ (M))) (blkL ao33 ++ ([g21] ++ ([g4] ++ (M)))) w32.heap.size := (Ok.app (fun _ h => .inl (mr (ml h))) (Ok.app (fun _ h => .inl (mr (mr (ml h)))) (fun _ h => .inl (mr (mr (mr (h)))))))
          have f19 := f19.chg (Chg.refl [] _) o1 o2
          have hBg4 := hBg4.chg (Chg.refl [] _) (fun h => nomatch h)
          have hBg21 := hBg21.chg (Chg.refl [] _) (fun h => nomatch h)
          have hM : MS ([g21] ++ ([g4] ++ (M))) w32 := (MS.app (fun x h => hM.chg (Chg.refl [] _) x (mr (ml h))) (MS.app (fun x h => hM.chg (Chg.refl [] _) x (mr (mr (ml h)))) (fun x h => hM.chg (Chg.refl [] _) x (mr (mr (mr (h)))))))
          have hC := hC.trans (Chg.refl [] _) (Ok.nil _ _)
          exact J35 _ _ (ha.sel (by kernel_rfl)) f19 hBg4 hBg21 hC hM
      · have ha := ha.lit hb38
        have H := ite_f hb38 H
        refine sgh ha 21 [1, 1, 4, 0, 1, 1, 1, 1, 4, 0, 1, 1, 1, 1, 1, 4, 0, 1, 1, 4, 0] [(0, .bool false)] (by kernel_rfl) fun a ha => ?_
        obtain rfl := Option.some.inj H
        have o1 : Ok [] (blkL ao33 ++ ([g21] ++ ([g4] ++ (M)))) w32.heap.size := Ok.nil _ _
        have o2 : Ok ([g21] ++ ([g4] ++ (M))) (blkL ao33 ++ ([g21] ++ ([g4] ++ (M)))) w32.heap.size := (Ok.app (fun _ h => .inl (mr (ml h))) (Ok.app (fun _ h => .inl (mr (mr (ml h)))) (fun _ h => .inl (mr (mr (mr (h)))))))
        have f19 := f19.chg (Chg.refl [] _) o1 o2
        have hBg4 := hBg4.chg (Chg.refl [] _) (fun h => nomatch h)
        have hBg21 := hBg21.chg (Chg.refl [] _) (fun h => nomatch h)
        have hM : MS ([g21] ++ ([g4] ++ (M))) w32 := (MS.app (fun x h => hM.chg (Chg.refl [] _) x (mr (ml h))) (MS.app (fun x h => hM.chg (Chg.refl [] _) x (mr (mr (ml h)))) (fun x h => hM.chg (Chg.refl [] _) x (mr (mr (mr (h)))))))
        have hC := hC.trans (Chg.refl [] _) (Ok.nil _ _)
        exact J35 _ _ (ha.sel (by kernel_rfl)) f19 hBg4 hBg21 hC hM
    · have ha := ha.lit hb37
      have H := ite_f hb37 H
      refine sgh ha 25 [1, 1, 4, 0, 1, 1, 4, 0, 1, 1, 1, 1, 4, 0, 1, 1, 1, 1, 1, 4, 0, 1, 1, 4, 0] [(0, .bool false)] (by kernel_rfl) fun a ha => ?_
      obtain rfl := Option.some.inj H
      have o1 : Ok [] (blkL ao33 ++ ([g21] ++ ([g4] ++ (M)))) w32.heap.size := Ok.nil _ _
      have o2 : Ok ([g21] ++ ([g4] ++ (M))) (blkL ao33 ++ ([g21] ++ ([g4] ++ (M)))) w32.heap.size := (Ok.app (fun _ h => .inl (mr (ml h))) (Ok.app (fun _ h => .inl (mr (mr (ml h)))) (fun _ h => .inl (mr (mr (mr (h)))))))
      have f19 := f19.chg (Chg.refl [] _) o1 o2
      have hBg4 := hBg4.chg (Chg.refl [] _) (fun h => nomatch h)
      have hBg21 := hBg21.chg (Chg.refl [] _) (fun h => nomatch h)
      have hM : MS ([g21] ++ ([g4] ++ (M))) w32 := (MS.app (fun x h => hM.chg (Chg.refl [] _) x (mr (ml h))) (MS.app (fun x h => hM.chg (Chg.refl [] _) x (mr (mr (ml h)))) (fun x h => hM.chg (Chg.refl [] _) x (mr (mr (mr (h)))))))
      have hC := hC.trans (Chg.refl [] _) (Ok.nil _ _)
      exact J35 _ _ (ha.sel (by kernel_rfl)) f19 hBg4 hBg21 hC hM
  · have ha := ha.lit hb36
    have H := ite_f hb36 H
    refine sgh ha 30 [1, 1, 1, 4, 0, 1, 1, 4, 0, 1, 1, 4, 0, 1, 1, 1, 1, 4, 0, 1, 1, 1, 1, 1, 4, 0, 1, 1, 4, 0] [(0, .bool false)] (by kernel_rfl) fun a ha => ?_
    obtain rfl := Option.some.inj H
    have o1 : Ok [] (blkL ao33 ++ ([g21] ++ ([g4] ++ (M)))) w32.heap.size := Ok.nil _ _
    have o2 : Ok ([g21] ++ ([g4] ++ (M))) (blkL ao33 ++ ([g21] ++ ([g4] ++ (M)))) w32.heap.size := (Ok.app (fun _ h => .inl (mr (ml h))) (Ok.app (fun _ h => .inl (mr (mr (ml h)))) (fun _ h => .inl (mr (mr (mr (h)))))))
    have f19 := f19.chg (Chg.refl [] _) o1 o2
    have hBg4 := hBg4.chg (Chg.refl [] _) (fun h => nomatch h)
    have hBg21 := hBg21.chg (Chg.refl [] _) (fun h => nomatch h)
    have hM : MS ([g21] ++ ([g4] ++ (M))) w32 := (MS.app (fun x h => hM.chg (Chg.refl [] _) x (mr (ml h))) (MS.app (fun x h => hM.chg (Chg.refl [] _) x (mr (mr (ml h)))) (fun x h => hM.chg (Chg.refl [] _) x (mr (mr (mr (h)))))))
    have hC := hC.trans (Chg.refl [] _) (Ok.nil _ _)
    exact J35 _ _ (ha.sel (by kernel_rfl)) f19 hBg4 hBg21 hC hM
end Go.E
