/- What the functions that the law reaches compute, and the walks that show it. -/
import Derived.Test.YtoeenagdbjppgaaDoorEngM
import Derived.Test.YtoeenagdbjppgaaDoorProg
import Derived.Test.YtoeenagdbjppgaaDoorGenPmsiBackP1
set_option linter.unusedVariables false
set_option linter.unusedSimpArgs false
namespace Go.E
open Go.RowKit Go.Proofs
def vineryref06_Same.f (a0 : S_api_Tunnel) (a1 : S_api_Tunnel) : Option (Bool) := ((if (a0.Kind == a1.Kind) = true then (if ((a0.Root.Size == a1.Root.Size) && ((eqA 16 a0.Root.B a1.Root.B) && true)) = true then some ((bstr (b2s a0.Id)).toList == (bstr (b2s a1.Id)).toList : Bool) else some (false : Bool)) else some (false : Bool))).bind fun s15 => some ((s15 : Bool))
set_option maxRecDepth 100000 in
theorem vineryref06_Same.walk (w : World) (M : List Nat) (hM : MS M w) (a0 : S_api_Tunnel) (ao1 : Option Addr) (cap1 : Nat) (f1 : RSl (rInt .u8) 5 w M ao1 cap1 a0.Id) (a1 : S_api_Tunnel) (ao2 : Option Addr) (cap2 : Nat) (f2 : RSl (rInt .u8) 5 w M ao2 cap2 a1.Id) (r : Bool) (H : vineryref06_Same.f a0 a1 = some r) :
    To Tryd.prog 24 [.agg (cS_api_Tunnel a0 ao1 cap1).toArray, .agg (cS_api_Tunnel a1 ao2 cap2).toArray] w fun v w' => v = .bool r ∧ Chg [] w w' ∧ MS (M) w' := by
  unfold vineryref06_Same.f at H
  refine ent Tryd.func24 rfl [(0, .agg (cS_api_Tunnel a0 ao1 cap1).toArray), (1, .agg (cS_api_Tunnel a1 ao2 cap2).toArray)] rfl (by rfl) fun a ha => ?_
  have hC : Chg [] w w := Chg.refl _ _
  refine wp_seq_k fun K3 hK3 => ?_
  refine wp_region_lit ?_
  refine bx (cs := (cS_api_Tunnel a0 ao1 cap1)) ha rfl rfl rfl rfl rfl fun a w4 g5 hN6 ha => ?_
  have hn8 := hN6.notin hM
  have o1 : Ok [] (M) w.heap.size := Ok.nil _ _
  have o2 : Ok (M) (M) w.heap.size := (fun _ h => .inl (h))
  have f1 := f1.chg hN6.chg o1 o2
  have f2 := f2.chg hN6.chg o1 o2
  have hM : MS (M) w4 := (fun x h => hM.chg hN6.chg x (h))
  have hC := hC.trans hN6.chg (Ok.nil _ _)
  have hE7 : ∀ j v, (cS_api_Tunnel a0 ao1 cap1)[j]? = some v → w4.cell? ⟨g5, 0 + j, none⟩ = some v := Box.cells (New.box hN6)
  refine bx (cs := (cS_api_Tunnel a1 ao2 cap2)) ha rfl rfl rfl rfl rfl fun a w9 g10 hN11 ha => ?_
  have hn13 := hN11.notin hM
  have o1 : Ok [] (M) w4.heap.size := Ok.nil _ _
  have o2 : Ok (M) (M) w4.heap.size := (fun _ h => .inl (h))
  have f2 := f2.chg hN11.chg o1 o2
  have f1 := f1.chg hN11.chg o1 o2
  have q_hn8 : g5 ∉ M := fun h => (o2 g5 h).elim hn8 (fun h => absurd (lt_cell (hE7 0 _ rfl)) (Nat.not_lt.2 h))
  have hE7 : ∀ j v, (cS_api_Tunnel a0 ao1 cap1)[j]? = some v → w9.cell? ⟨g5, 0 + j, none⟩ = some v := fun j v hv => (cell_keep hN11.chg o1 hn8 (hE7 j v hv))
  have hn8 := q_hn8
  have hM : MS (M) w9 := (fun x h => hM.chg hN11.chg x (h))
  have hC := hC.trans hN11.chg (Ok.nil _ _)
  have hE12 : ∀ j v, (cS_api_Tunnel a1 ao2 cap2)[j]? = some v → w9.cell? ⟨g10, 0 + j, none⟩ = some v := Box.cells (New.box hN11)
  refine seg ha 1 [(2, .pointer (some ⟨g5, 0, none⟩)), (3, .pointer (some ⟨g10, 0, none⟩))] (by kernel_rfl) fun a ha => ?_
  refine hK3 _ _ ?_; try clear hK3 K3
  refine wp_seq_k fun K14 hK14 => ?_
  refine wp_region_lit ?_
  obtain ⟨s15, H15, H⟩ := bind_some H
  have J15 : ∀ (a : Act) (w15 : World), Has a Tryd.f24.ntmps [(4, .bool s15)] → (Chg [] w w15) → (MS (M) w15) → K14 a w15 := by
    intro a w15 ha hC hM
    refine hK14 _ _ ?_; try clear hK14 K14
    refine wp_ret ?_
    try simp only [Exit.then, Exit.inBlock]
    obtain rfl := Option.some.inj H
    refine rt1 ha rfl rfl ?_
    exact ⟨rfl, hC, hM⟩
  have H := H15
  refine seg ha 1 [(2, .pointer (some ⟨g5, 0, none⟩)), (3, .pointer (some ⟨g10, 0, none⟩)), (5, .pointer (some ⟨g5, 0 + 1, none⟩))] (by kernel_rfl) fun a ha => ?_
  refine ld ha rfl (by kernel_rfl) rfl rfl rfl (hE7 1 (.int .i64 a0.Kind) (by kernel_rfl)) fun a ha => ?_
  refine seg ha 1 [(2, .pointer (some ⟨g5, 0, none⟩)), (3, .pointer (some ⟨g10, 0, none⟩)), (6, .int .i64 a0.Kind), (7, .pointer (some ⟨g10, 0 + 1, none⟩))] (by kernel_rfl) fun a ha => ?_
  refine ld ha rfl (by kernel_rfl) rfl rfl rfl (hE12 1 (.int .i64 a1.Kind) (by kernel_rfl)) fun a ha => ?_
  refine seg ha 2 [(10, .bool (a0.Kind == a1.Kind)), (2, .pointer (some ⟨g5, 0, none⟩)), (3, .pointer (some ⟨g10, 0, none⟩))] (by kernel_rfl) fun a ha => ?_
  rcases Bool.eq_false_or_eq_true (a0.Kind == a1.Kind) with hb16 | hb16
  · have ha := ha.lit hb16
    have H := ite_t hb16 H
    refine sgh ha 1 [2] [(2, .pointer (some ⟨g5, 0, none⟩)), (3, .pointer (some ⟨g10, 0, none⟩)), (10, .bool true), (11, .pointer (some ⟨g5, 0 + 3, none⟩))] (by kernel_rfl) fun a ha => ?_
    refine ldA (cs := (cS_api_Addr a0.Root)) ha rfl (by kernel_rfl) rfl rfl rfl (cells_sub hE7 (all := (cS_api_Tunnel a0 ao1 cap1)) [.bool a0.Leaf, .int .i64 a0.Kind, .int .i64 a0.Label] [.slice ao1 a0.Id.length cap1] (by kernel_rfl)) fun a ha => ?_
    refine sgh ha 1 [2] [(2, .pointer (some ⟨g5, 0, none⟩)), (3, .pointer (some ⟨g10, 0, none⟩)), (10, .bool true), (12, .agg (cS_api_Addr a0.Root).toArray), (13, .pointer (some ⟨g10, 0 + 3, none⟩))] (by kernel_rfl) fun a ha => ?_
    refine ldA (cs := (cS_api_Addr a1.Root)) ha rfl (by kernel_rfl) rfl rfl rfl (cells_sub hE12 (all := (cS_api_Tunnel a1 ao2 cap2)) [.bool a1.Leaf, .int .i64 a1.Kind, .int .i64 a1.Label] [.slice ao2 a1.Id.length cap2] (by kernel_rfl)) fun a ha => ?_
    refine hop (v := .bool ((a0.Root.Size == a1.Root.Size) && ((eqA 16 a0.Root.B a1.Root.B) && true))) (w' := w9) ha rfl rfl rfl (eqs_run (r := ((a0.Root.Size == a1.Root.Size) && ((eqA 16 a0.Root.B a1.Root.B) && true))) (m := 9) ha rfl rfl (by kernel_rfl) rfl (by kernel_rfl) _) fun a ha => ?_
    refine sgh ha 2 [3, 0] [(17, .bool ((a0.Root.Size == a1.Root.Size) && ((eqA 16 a0.Root.B a1.Root.B) && true))), (2, .pointer (some ⟨g5, 0, none⟩)), (3, .pointer (some ⟨g10, 0, none⟩))] (by kernel_rfl) fun a ha => ?_
    rcases Bool.eq_false_or_eq_true (((a0.Root.Size == a1.Root.Size) && ((eqA 16 a0.Root.B a1.Root.B) && true))) with hb17 | hb17
    · have ha := ha.lit hb17
      have H := ite_t hb17 H
      refine sgh ha 1 [2] [(3, .pointer (some ⟨g10, 0, none⟩)), (17, .bool true), (18, .pointer (some ⟨g5, 0 + 20, none⟩))] (by kernel_rfl) fun a ha => ?_
      refine ld ha rfl (by kernel_rfl) rfl rfl rfl (hE7 20 (.slice ao1 a0.Id.length cap1) (by kernel_rfl)) fun a ha => ?_
      refine cvs ha rfl (by kernel_rfl) (by kernel_rfl) (by kernel_rfl) rfl rfl rfl f1 fun a ha => ?_
      refine sgh ha 1 [2] [(17, .bool true), (20, .string (bstr (b2s a0.Id))), (21, .pointer (some ⟨g10, 0 + 20, none⟩))] (by kernel_rfl) fun a ha => ?_
      refine ld ha rfl (by kernel_rfl) rfl rfl rfl (hE12 20 (.slice ao2 a1.Id.length cap2) (by kernel_rfl)) fun a ha => ?_
      refine cvs ha rfl (by kernel_rfl) (by kernel_rfl) (by kernel_rfl) rfl rfl rfl f2 fun a ha => ?_
      refine sgh ha 3 [2, 3, 0] [(4, .bool ((bstr (b2s a0.Id)).toList == (bstr (b2s a1.Id)).toList))] (by kernel_rfl) fun a ha => ?_
      obtain rfl := Option.some.inj H
      exact J15 _ _ (ha.sel (by kernel_rfl)) hC hM
    · have ha := ha.lit hb17
      have H := ite_f hb17 H
      refine sgh ha 9 [1, 1, 1, 1, 1, 1, 1, 4, 0] [(4, .bool false)] (by kernel_rfl) fun a ha => ?_
      obtain rfl := Option.some.inj H
      exact J15 _ _ (ha.sel (by kernel_rfl)) hC hM
  · have ha := ha.lit hb16
    have H := ite_f hb16 H
    refine sgh ha 16 [1, 1, 1, 1, 1, 4, 0, 1, 1, 1, 1, 1, 1, 1, 4, 0] [(4, .bool false)] (by kernel_rfl) fun a ha => ?_
    obtain rfl := Option.some.inj H
    exact J15 _ _ (ha.sel (by kernel_rfl)) hC hM
def vineryref06_Equal.f (a0 : S_api_Tunnel) (a1 : S_api_Tunnel) : Option (Bool) := (vineryref06_Same.f a0 a1).bind fun t15 => ((if t15 = true then (if (a0.Leaf == a1.Leaf) = true then some (a0.Label == a1.Label : Bool) else some (false : Bool)) else some (false : Bool))).bind fun s17 => some ((s17 : Bool))
set_option maxRecDepth 100000 in
theorem vineryref06_Equal.walk (w : World) (M : List Nat) (hM : MS M w) (a0 : S_api_Tunnel) (ao1 : Option Addr) (cap1 : Nat) (f1 : RSl (rInt .u8) 5 w M ao1 cap1 a0.Id) (a1 : S_api_Tunnel) (ao2 : Option Addr) (cap2 : Nat) (f2 : RSl (rInt .u8) 5 w M ao2 cap2 a1.Id) (r : Bool) (H : vineryref06_Equal.f a0 a1 = some r) :
    To Tryd.prog 19 [.agg (cS_api_Tunnel a0 ao1 cap1).toArray, .agg (cS_api_Tunnel a1 ao2 cap2).toArray] w fun v w' => v = .bool r ∧ Chg [] w w' ∧ MS (M) w' := by
  unfold vineryref06_Equal.f at H
  refine ent Tryd.func19 rfl [(0, .agg (cS_api_Tunnel a0 ao1 cap1).toArray), (1, .agg (cS_api_Tunnel a1 ao2 cap2).toArray)] rfl (by rfl) fun a ha => ?_
  have hC : Chg [] w w := Chg.refl _ _
  refine wp_seq_k fun K3 hK3 => ?_
  refine wp_region_lit ?_
  refine bx (cs := (cS_api_Tunnel a0 ao1 cap1)) ha rfl rfl rfl rfl rfl fun a w4 g5 hN6 ha => ?_
  have hn8 := hN6.notin hM
  have o1 : Ok [] (M) w.heap.size := Ok.nil _ _
  have o2 : Ok (M) (M) w.heap.size := (fun _ h => .inl (h))
  have f1 := f1.chg hN6.chg o1 o2
  have f2 := f2.chg hN6.chg o1 o2
  have hM : MS (M) w4 := (fun x h => hM.chg hN6.chg x (h))
  have hC := hC.trans hN6.chg (Ok.nil _ _)
  have hE7 : ∀ j v, (cS_api_Tunnel a0 ao1 cap1)[j]? = some v → w4.cell? ⟨g5, 0 + j, none⟩ = some v := Box.cells (New.box hN6)
  refine bx (cs := (cS_api_Tunnel a1 ao2 cap2)) ha rfl rfl rfl rfl rfl fun a w9 g10 hN11 ha => ?_
  have hn13 := hN11.notin hM
  have o1 : Ok [] (M) w4.heap.size := Ok.nil _ _
  have o2 : Ok (M) (M) w4.heap.size := (fun _ h => .inl (h))
  have f2 := f2.chg hN11.chg o1 o2
  have f1 := f1.chg hN11.chg o1 o2
  have q_hn8 : g5 ∉ M := fun h => (o2 g5 h).elim hn8 (fun h => absurd (lt_cell (hE7 0 _ rfl)) (Nat.not_lt.2 h))
  have hE7 : ∀ j v, (cS_api_Tunnel a0 ao1 cap1)[j]? = some v → w9.cell? ⟨g5, 0 + j, none⟩ = some v := fun j v hv => (cell_keep hN11.chg o1 hn8 (hE7 j v hv))
  have hn8 := q_hn8
  have hM : MS (M) w9 := (fun x h => hM.chg hN11.chg x (h))
  have hC := hC.trans hN11.chg (Ok.nil _ _)
  have hE12 : ∀ j v, (cS_api_Tunnel a1 ao2 cap2)[j]? = some v → w9.cell? ⟨g10, 0 + j, none⟩ = some v := Box.cells (New.box hN11)
  refine seg ha 1 [(2, .pointer (some ⟨g5, 0, none⟩)), (3, .pointer (some ⟨g10, 0, none⟩))] (by kernel_rfl) fun a ha => ?_
  refine hK3 _ _ ?_; try clear hK3 K3
  refine wp_seq_k fun K14 hK14 => ?_
  refine wp_region_lit ?_
  refine ldA (cs := (cS_api_Tunnel a0 ao1 cap1)) ha rfl (by kernel_rfl) rfl rfl rfl (cells_sub hE7 (all := (cS_api_Tunnel a0 ao1 cap1)) [] [] (by kernel_rfl)) fun a ha => ?_
  refine ldA (cs := (cS_api_Tunnel a1 ao2 cap2)) ha rfl (by kernel_rfl) rfl rfl rfl (cells_sub hE12 (all := (cS_api_Tunnel a1 ao2 cap2)) [] [] (by kernel_rfl)) fun a ha => ?_
  obtain ⟨t15, H15, H⟩ := bind_some H
  refine cl ha (by rfl) (by kernel_rfl) (by rfl) (by rfl) (by rfl) (vineryref06_Same.walk w9 _ hM a0 ao1 cap1 f1 a1 ao2 cap2 f2 _ H15) ?_
  rintro _ w15 ⟨rfl, hc15, hMn⟩ a ha
  have o1 : Ok [] (M) w9.heap.size := Ok.nil _ _
  have o2 : Ok (M) (M) w9.heap.size := (fun _ h => .inl (h))
  have f1 := f1.chg hc15 o1 o2
  have f2 := f2.chg hc15 o1 o2
  have q_hn8 : g5 ∉ M := fun h => (o2 g5 h).elim hn8 (fun h => absurd (lt_cell (hE7 0 _ rfl)) (Nat.not_lt.2 h))
  have hE7 : ∀ j v, (cS_api_Tunnel a0 ao1 cap1)[j]? = some v → w15.cell? ⟨g5, 0 + j, none⟩ = some v := fun j v hv => (cell_keep hc15 o1 hn8 (hE7 j v hv))
  have hn8 := q_hn8
  have q_hn13 : g10 ∉ M := fun h => (o2 g10 h).elim hn13 (fun h => absurd (lt_cell (hE12 0 _ rfl)) (Nat.not_lt.2 h))
  have hE12 : ∀ j v, (cS_api_Tunnel a1 ao2 cap2)[j]? = some v → w15.cell? ⟨g10, 0 + j, none⟩ = some v := fun j v hv => (cell_keep hc15 o1 hn13 (hE12 j v hv))
  have hn13 := q_hn13
  have hM : MS (M) w15 := (fun x h => hM.chg hc15 x (h))
  have hC := hC.trans hc15 (Ok.nil _ _)
  refine seg ha 1 [(2, .pointer (some ⟨g5, 0, none⟩)), (3, .pointer (some ⟨g10, 0, none⟩)), (5, .bool t15)] (by kernel_rfl) fun a ha => ?_
  refine hK14 _ _ ?_; try clear hK14 K14
  refine wp_seq_k fun K16 hK16 => ?_
  refine wp_region_lit ?_
  obtain ⟨s17, H17, H⟩ := bind_some H
  have J17 : ∀ (a : Act) (w17 : World), Has a Tryd.f19.ntmps [(4, .bool s17)] → (Chg [] w w17) → (MS (M) w17) → K16 a w17 := by
    intro a w17 ha hC hM
    refine hK16 _ _ ?_; try clear hK16 K16
    refine wp_ret ?_
    try simp only [Exit.then, Exit.inBlock]
    obtain rfl := Option.some.inj H
    refine rt1 ha rfl rfl ?_
    exact ⟨rfl, hC, hM⟩
  have H := H17
  refine seg ha 2 [(10, .bool t15), (2, .pointer (some ⟨g5, 0, none⟩)), (3, .pointer (some ⟨g10, 0, none⟩))] (by kernel_rfl) fun a ha => ?_
  rcases Bool.eq_false_or_eq_true (t15) with hb18 | hb18
  · have ha := ha.lit hb18
    have H := ite_t hb18 H
    refine sgh ha 1 [2] [(2, .pointer (some ⟨g5, 0, none⟩)), (3, .pointer (some ⟨g10, 0, none⟩)), (10, .bool true), (11, .pointer (some ⟨g5, 0, none⟩))] (by kernel_rfl) fun a ha => ?_
    refine ld ha rfl (by kernel_rfl) rfl rfl rfl (hE7 0 (.bool a0.Leaf) (by kernel_rfl)) fun a ha => ?_
    refine sgh ha 1 [2] [(2, .pointer (some ⟨g5, 0, none⟩)), (3, .pointer (some ⟨g10, 0, none⟩)), (10, .bool true), (12, .bool a0.Leaf), (13, .pointer (some ⟨g10, 0, none⟩))] (by kernel_rfl) fun a ha => ?_
    refine ld ha rfl (by kernel_rfl) rfl rfl rfl (hE12 0 (.bool a1.Leaf) (by kernel_rfl)) fun a ha => ?_
    refine sgh ha 3 [2, 3, 0] [(17, .bool (a0.Leaf == a1.Leaf)), (2, .pointer (some ⟨g5, 0, none⟩)), (3, .pointer (some ⟨g10, 0, none⟩))] (by kernel_rfl) fun a ha => ?_
    rcases Bool.eq_false_or_eq_true (a0.Leaf == a1.Leaf) with hb19 | hb19
    · have ha := ha.lit hb19
      have H := ite_t hb19 H
      refine sgh ha 1 [2] [(3, .pointer (some ⟨g10, 0, none⟩)), (17, .bool true), (18, .pointer (some ⟨g5, 0 + 2, none⟩))] (by kernel_rfl) fun a ha => ?_
      refine ld ha rfl (by kernel_rfl) rfl rfl rfl (hE7 2 (.int .i64 a0.Label) (by kernel_rfl)) fun a ha => ?_
      refine sgh ha 1 [2] [(17, .bool true), (19, .int .i64 a0.Label), (20, .pointer (some ⟨g10, 0 + 2, none⟩))] (by kernel_rfl) fun a ha => ?_
      refine ld ha rfl (by kernel_rfl) rfl rfl rfl (hE12 2 (.int .i64 a1.Label) (by kernel_rfl)) fun a ha => ?_
      refine sgh ha 3 [2, 3, 0] [(4, .bool (a0.Label == a1.Label))] (by kernel_rfl) fun a ha => ?_
      obtain rfl := Option.some.inj H
      exact J17 _ _ (ha.sel (by kernel_rfl)) hC hM
    · have ha := ha.lit hb19
      have H := ite_f hb19 H
      refine sgh ha 7 [1, 1, 1, 1, 1, 4, 0] [(4, .bool false)] (by kernel_rfl) fun a ha => ?_
      obtain rfl := Option.some.inj H
      exact J17 _ _ (ha.sel (by kernel_rfl)) hC hM
  · have ha := ha.lit hb18
    have H := ite_f hb18 H
    refine sgh ha 14 [1, 1, 1, 1, 1, 4, 0, 1, 1, 1, 1, 1, 4, 0] [(4, .bool false)] (by kernel_rfl) fun a ha => ?_
    obtain rfl := Option.some.inj H
    exact J17 _ _ (ha.sel (by kernel_rfl)) hC hM
def vinerylaw06_PmsiBack.f (k : Nat) (a0 : S_api_Tunnel) (a1 : List Int) : Option (Bool) := (vinerylaw06_small.f k ).bind fun t10 => (pmsi_Bytes.f k a0).bind fun t12 => lv (S := Unit) ((if (t12.2 == (0 : Int)) = true then (pmsi_Parse.f k t12.1).bind fun t42 => ((if (t42.2 != (0 : Int)) = true then some (true : Bool) else (vineryref06_Equal.f t42.1 a0).bind fun t55 => (if (!t55) = true then some (true : Bool) else (pmsi_Right.f k a0).bind fun t57 => some (!t57 : Bool)))).bind fun s51 => (if s51 = true then some (.inl (some ((false : Bool)))) else some (.inr ((() : Unit)))) else some (.inr ((() : Unit))))) fun s15 => (pmsi_Parse.f k a1).bind fun t17 => (if (t17.2 != (0 : Int)) = true then ((if t10 = true then (vineryref06_Equal.f t17.1 (⟨false, (0 : Int), (0 : Int), (⟨(0 : Int), (List.replicate 16 (0 : Int))⟩ : S_api_Addr), ([] : List Int)⟩ : S_api_Tunnel)).bind fun t31 => some (t31 : Bool) else some (false : Bool))).bind fun s29 => some ((s29 : Bool)) else (pmsi_Bytes.f k t17.1).bind fun t33 => ((if t10 = true then (if (t33.2 == (0 : Int)) = true then some ((bstr (b2s t33.1)).toList == (bstr (b2s a1)).toList : Bool) else some (false : Bool)) else some (false : Bool))).bind fun s36 => some ((s36 : Bool)))
set_option maxRecDepth 100000 in
theorem vinerylaw06_PmsiBack.walk (w : World) (M : List Nat) (hM : MS M w) (a0 : S_api_Tunnel) (ao1 : Option Addr) (cap1 : Nat) (f1 : RSl (rInt .u8) 5 w M ao1 cap1 a0.Id) (a1 : List Int) (ao2 : Option Addr) (cap2 : Nat) (f2 : RSl (rInt .u8) 5 w M ao2 cap2 a1) (k : Nat) (r : Bool) (H : vinerylaw06_PmsiBack.f k a0 a1 = some r) :
    To Tryd.prog 5 [.agg (cS_api_Tunnel a0 ao1 cap1).toArray, .slice ao2 a1.length cap2] w fun v w' => v = .bool r ∧ Chg [] w w' ∧ MS (M) w' := by
  unfold vinerylaw06_PmsiBack.f at H
  refine ent Tryd.func5 rfl [(0, .agg (cS_api_Tunnel a0 ao1 cap1).toArray), (1, .slice ao2 a1.length cap2)] rfl (by rfl) fun a ha => ?_
  have hC : Chg [] w w := Chg.refl _ _
  refine wp_seq_k fun K3 hK3 => ?_
  refine wp_region_lit ?_
  refine bx (cs := (cS_api_Tunnel a0 ao1 cap1)) ha rfl rfl rfl rfl rfl fun a w4 g5 hN6 ha => ?_
  have hn8 := hN6.notin hM
  have o1 : Ok [] (M) w.heap.size := Ok.nil _ _
  have o2 : Ok (M) (M) w.heap.size := (fun _ h => .inl (h))
  have f1 := f1.chg hN6.chg o1 o2
  have f2 := f2.chg hN6.chg o1 o2
  have hM : MS (M) w4 := (fun x h => hM.chg hN6.chg x (h))
  have hC := hC.trans hN6.chg (Ok.nil _ _)
  have hE7 : ∀ j v, (cS_api_Tunnel a0 ao1 cap1)[j]? = some v → w4.cell? ⟨g5, 0 + j, none⟩ = some v := Box.cells (New.box hN6)
  refine seg ha 1 [(1, .slice ao2 a1.length cap2), (2, .pointer (some ⟨g5, 0, none⟩))] (by kernel_rfl) fun a ha => ?_
  refine hK3 _ _ ?_; try clear hK3 K3
  refine wp_seq_k fun K9 hK9 => ?_
  refine wp_region_lit ?_
  obtain ⟨t10, H10, H⟩ := bind_some H
  refine cl ha (by rfl) (by kernel_rfl) (by rfl) (by rfl) (by rfl) (vinerylaw06_small.walk w4 _ hM  k _ H10) ?_
  rintro _ w10 ⟨rfl, hc10, hMn⟩ a ha
  have o1 : Ok [] (M) w4.heap.size := Ok.nil _ _
  have o2 : Ok (M) (M) w4.heap.size := (fun _ h => .inl (h))
  have f2 := f2.chg hc10 o1 o2
  have f1 := f1.chg hc10 o1 o2
  have q_hn8 : g5 ∉ M := fun h => (o2 g5 h).elim hn8 (fun h => absurd (lt_cell (hE7 0 _ rfl)) (Nat.not_lt.2 h))
  have hE7 : ∀ j v, (cS_api_Tunnel a0 ao1 cap1)[j]? = some v → w10.cell? ⟨g5, 0 + j, none⟩ = some v := fun j v hv => (cell_keep hc10 o1 hn8 (hE7 j v hv))
  have hn8 := q_hn8
  have hM : MS (M) w10 := (fun x h => hM.chg hc10 x (h))
  have hC := hC.trans hc10 (Ok.nil _ _)
  refine seg ha 1 [(1, .slice ao2 a1.length cap2), (2, .pointer (some ⟨g5, 0, none⟩)), (5, .bool t10)] (by kernel_rfl) fun a ha => ?_
  refine hK9 _ _ ?_; try clear hK9 K9
  refine wp_seq_k fun K11 hK11 => ?_
  refine wp_region_lit ?_
  refine ldA (cs := (cS_api_Tunnel a0 ao1 cap1)) ha rfl (by kernel_rfl) rfl rfl rfl (cells_sub hE7 (all := (cS_api_Tunnel a0 ao1 cap1)) [] [] (by kernel_rfl)) fun a ha => ?_
  obtain ⟨t12, H12, H⟩ := bind_some H
  refine cl ha (by rfl) (by kernel_rfl) (by rfl) (by rfl) (by rfl) (pmsi_Bytes.walk w10 _ hM a0 ao1 cap1 f1 k _ H12) ?_
  rintro _ w12 ⟨ao13, cap13, rfl, f13, ne_i13, hc12, hMn⟩ a ha
  have o1 : Ok [] (M) w10.heap.size := Ok.nil _ _
  have o2 : Ok (blkL ao13 ++ (M)) (M) w10.heap.size := (Ok.app (fun x h => .inr (ne_i13 x h)) (fun _ h => .inl (h)))
  have f2 := f2.chg hc12 o1 o2
  have f1 := f1.chg hc12 o1 o2
  have q_hn8 : g5 ∉ blkL ao13 ++ (M) := fun h => (o2 g5 h).elim hn8 (fun h => absurd (lt_cell (hE7 0 _ rfl)) (Nat.not_lt.2 h))
  have hE7 : ∀ j v, (cS_api_Tunnel a0 ao1 cap1)[j]? = some v → w12.cell? ⟨g5, 0 + j, none⟩ = some v := fun j v hv => (cell_keep hc12 o1 hn8 (hE7 j v hv))
  have hn8 := q_hn8
  have nw : Ok (blkL ao13) (M) w10.heap.size := (fun x h => .inr (ne_i13 x h))
  have p_i13_M : ∀ x ∈ blkL ao13, x ∉ M := fun x hx hy => absurd (hM x (hy)) (Nat.not_lt.2 (ne_i13 x hx))
  have e_i13 : ∀ x ∈ blkL ao13, w.heap.size ≤ x := fun x hx => Nat.le_trans hC.size (ne_i13 x hx)
  have hM : MS (blkL ao13 ++ (M)) w12 := (MS.app (fun x h => hMn x (ml h)) (fun x h => hM.chg hc12 x (h)))
  have hC := hC.trans hc12 (Ok.nil _ _)
  refine seg ha 5 [(1, .slice ao2 a1.length cap2), (2, .pointer (some ⟨g5, 0, none⟩)), (5, .bool t10), (6, .slice ao13 t12.1.length cap13), (7, .int .i64 t12.2)] (by kernel_rfl) fun a ha => ?_
  refine hK11 _ _ ?_; try clear hK11 K11
  refine wp_seq_k fun K14 hK14 => ?_
  obtain ⟨s15o, H15, H⟩ := lv_some H
  have J15 : ∀ (s15 : Unit) (a : Act) (w15 : World), s15o = .inr s15 → Has a Tryd.f5.ntmps [(1, .slice ao2 a1.length cap2), (5, .bool t10)] → (RSl (rInt .u8) 5 w15 (M) ao2 cap2 a1) → (Chg [] w w15) → (MS (M) w15) → K14 a w15 := by
    intro s15 a w15 hs ha f2 hC hM
    subst hs
    refine hK14 _ _ ?_; try clear hK14 K14
    refine wp_seq_k fun K16 hK16 => ?_
    refine wp_region_lit ?_
    refine seg ha 1 [(1, .slice ao2 a1.length cap2), (5, .bool t10), (41, .slice ao2 a1.length cap2)] (by kernel_rfl) fun a ha => ?_
    obtain ⟨t17, H17, H⟩ := bind_some H
    refine cl ha (by rfl) (by kernel_rfl) (by rfl) (by rfl) (by rfl) (pmsi_Parse.walk w15 _ hM a1 ao2 cap2 f2 k _ H17) ?_
    rintro _ w17 ⟨ao18, cap18, rfl, f18, hc17, hMn⟩ a ha
    have o1 : Ok [] (M) w15.heap.size := Ok.nil _ _
    have o2 : Ok (M) (M) w15.heap.size := (fun _ h => .inl (h))
    have f2 := f2.chg hc17 o1 o2
    have hM : MS (M) w17 := (fun x h => hM.chg hc17 x (h))
    have hC := hC.trans hc17 (Ok.nil _ _)
    refine seg ha 3 [(1, .slice ao2 a1.length cap2), (5, .bool t10), (43, .agg (cS_api_Tunnel t17.1 ao18 cap18).toArray), (44, .int .i64 t17.2)] (by kernel_rfl) fun a ha => ?_
    refine al (cs := (cS_api_Tunnel (⟨false, (0 : Int), (0 : Int), (⟨(0 : Int), (List.replicate 16 (0 : Int))⟩ : S_api_Addr), ([] : List Int)⟩ : S_api_Tunnel) none 0)) (z := .agg (cS_api_Tunnel (⟨false, (0 : Int), (0 : Int), (⟨(0 : Int), (List.replicate 16 (0 : Int))⟩ : S_api_Addr), ([] : List Int)⟩ : S_api_Tunnel) none 0).toArray) ha (fun w => by kernel_rfl) rfl rfl rfl rfl fun a w19 g20 hN21 ha => ?_
    have o1 : Ok [] (M) w17.heap.size := Ok.nil _ _
    have o2 : Ok ([g20] ++ (M)) (M) w17.heap.size := (Ok.app (hN21.ok _) (fun _ h => .inl (h)))
    have f2 := f2.chg hN21.chg o1 o2
    have f18 := f18.chg hN21.chg o1 o2
    have nw : Ok ([g20]) (M) w17.heap.size := (hN21.ok _)
    have p_i22_M : ∀ x ∈ [g20], x ∉ M := fun x hx hy => absurd (hM x (hy)) (Nat.not_lt.2 ((hN21.ge1) x hx))
    have e_i22 : ∀ x ∈ [g20], w.heap.size ≤ x := fun x hx => Nat.le_trans hC.size ((hN21.ge1) x hx)
    have hM : MS ([g20] ++ (M)) w19 := (MS.app hN21.ms (fun x h => hM.chg hN21.chg x (h)))
    have hC := hC.trans hN21.chg (Ok.nil _ _)
    have hBg20 : Box w19 g20 (cS_api_Tunnel (⟨false, (0 : Int), (0 : Int), (⟨(0 : Int), (List.replicate 16 (0 : Int))⟩ : S_api_Addr), ([] : List Int)⟩ : S_api_Tunnel) none 0) := hN21.box
    refine stA (l := (cS_api_Tunnel t17.1 ao18 cap18)) ha rfl rfl rfl (by kernel_rfl) rfl rfl hBg20 rfl fun a w23 ha hb2 hc24 _ => ?_
    have o1 : Ok [g20] ([g20] ++ (M)) w19.heap.size := (fun _ h => .inl (ml h))
    have o2 : Ok ([g20] ++ (M)) ([g20] ++ (M)) w19.heap.size := (Ok.app (fun _ h => .inl (ml h)) (fun _ h => .inl (mr (h))))
    have f2 := f2.chg hc24 o1 o2
    have f18 := f18.chg hc24 o1 o2
    have hM : MS ([g20] ++ (M)) w23 := (MS.app (fun x h => hM.chg hc24 x (ml h)) (fun x h => hM.chg hc24 x (mr (h))))
    have hC := hC.trans hc24 (fun x h => .inr (e_i22 x h))
    have hBg20 : Box w23 g20 (cS_api_Tunnel t17.1 ao18 cap18) := hb2
    refine seg ha 1 [(1, .slice ao2 a1.length cap2), (5, .bool t10), (10, .pointer (some ⟨g20, 0, none⟩)), (11, .int .i64 t17.2)] (by kernel_rfl) fun a ha => ?_
    refine hK16 _ _ ?_; try clear hK16 K16
    refine wp_seq_k fun K25 hK25 => ?_
    refine wp_seq_k fun K26 hK26 => ?_
    refine wp_region_lit ?_
    refine seg ha 2 [(1, .slice ao2 a1.length cap2), (5, .bool t10), (10, .pointer (some ⟨g20, 0, none⟩)), (46, .bool (t17.2 != (0 : Int)))] (by kernel_rfl) fun a ha => ?_
    refine hK26 _ _ ?_; try clear hK26 K26
    refine cnd ha rfl (fun hc27 => ?_) (fun hc27 => ?_)
    · have H := ite_t hc27 H
      refine wp_seq_k fun K28 hK28 => ?_
      refine wp_region_lit ?_
      obtain ⟨s29, H29, H⟩ := bind_some H
      have J29 : ∀ (a : Act) (w29 : World), Has a Tryd.f5.ntmps [(4, .bool s29)] → (RSl (rInt .u8) 5 w29 ([g20] ++ (M)) ao18 cap18 t17.1.Id) → (Box w29 g20 (cS_api_Tunnel t17.1 ao18 cap18)) → (Chg [] w w29) → (MS ([g20] ++ (M)) w29) → K28 a w29 := by
        intro a w29 ha f18 hBg20 hC hM
        refine hK28 _ _ ?_; try clear hK28 K28
        refine wp_ret ?_
        try simp only [Exit.then, Exit.inBlock]
        have o1 : Ok [] ([g20] ++ (M)) w29.heap.size := Ok.nil _ _
        have o2 : Ok (M) ([g20] ++ (M)) w29.heap.size := (fun _ h => .inl (mr (h)))
        have f18 := f18.chg (Chg.refl [] _) o1 o2
        have hBg20 := hBg20.chg (Chg.refl [] _) (fun h => nomatch h)
        have hM : MS (M) w29 := (fun x h => hM.chg (Chg.refl [] _) x (mr (h)))
        have hC := hC.trans (Chg.refl [] _) (Ok.nil _ _)
        obtain rfl := Option.some.inj H
        refine rt1 ha rfl rfl ?_
        exact ⟨rfl, hC, hM⟩
      have H := H29
      refine seg ha 2 [(48, .bool t10), (10, .pointer (some ⟨g20, 0, none⟩))] (by kernel_rfl) fun a ha => ?_
      rcases Bool.eq_false_or_eq_true (t10) with hb30 | hb30
      · have ha := ha.lit hb30
        have H := ite_t hb30 H
        refine ldA (cs := (cS_api_Tunnel t17.1 ao18 cap18)) ha rfl (by kernel_rfl) rfl rfl rfl (cells_sub (Box.cells hBg20) (all := (cS_api_Tunnel t17.1 ao18 cap18)) [] [] (by kernel_rfl)) fun a ha => ?_
        refine opk (v := .agg (cS_api_Tunnel (⟨false, (0 : Int), (0 : Int), (⟨(0 : Int), (List.replicate 16 (0 : Int))⟩ : S_api_Addr), ([] : List Int)⟩ : S_api_Tunnel) none 0).toArray) ha rfl rfl rfl rfl rfl (fun w => by kernel_rfl) fun a ha => ?_
        obtain ⟨t31, H31, H⟩ := bind_some H
        refine cl ha (by rfl) (by kernel_rfl) (by rfl) (by rfl) (by rfl) (vineryref06_Equal.walk w23 _ hM t17.1 ao18 cap18 f18 (⟨false, (0 : Int), (0 : Int), (⟨(0 : Int), (List.replicate 16 (0 : Int))⟩ : S_api_Addr), ([] : List Int)⟩ : S_api_Tunnel) none 0 (RSl.nil (Nat.zero_le _)) _ H31) ?_
        rintro _ w31 ⟨rfl, hc31, hMn⟩ a ha
        have o1 : Ok [] ([g20] ++ (M)) w23.heap.size := Ok.nil _ _
        have o2 : Ok ([g20] ++ (M)) ([g20] ++ (M)) w23.heap.size := (Ok.app (fun _ h => .inl (ml h)) (fun _ h => .inl (mr (h))))
        have f18 := f18.chg hc31 o1 o2
        have hBg20 := hBg20.chg hc31 (fun h => nomatch h)
        have hM : MS ([g20] ++ (M)) w31 := (MS.app (fun x h => hM.chg hc31 x (ml h)) (fun x h => hM.chg hc31 x (mr (h))))
        have hC := hC.trans hc31 (Ok.nil _ _)
        refine sgh ha 2 [3, 0] [(4, .bool t31)] (by kernel_rfl) fun a ha => ?_
        obtain rfl := Option.some.inj H
        exact J29 _ _ (ha.sel (by kernel_rfl)) f18 hBg20 hC hM
      · have ha := ha.lit hb30
        have H := ite_f hb30 H
        refine sgh ha 5 [1, 1, 1, 4, 0] [(4, .bool false)] (by kernel_rfl) fun a ha => ?_
        obtain rfl := Option.some.inj H
        exact J29 _ _ (ha.sel (by kernel_rfl)) f18 hBg20 hC hM
    · have H := ite_f hc27 H
      refine wp_skip ?_
      refine hK25 _ _ ?_; try clear hK25 K25
      refine wp_seq_k fun K32 hK32 => ?_
      refine wp_region_lit ?_
      refine ldA (cs := (cS_api_Tunnel t17.1 ao18 cap18)) ha rfl (by kernel_rfl) rfl rfl rfl (cells_sub (Box.cells hBg20) (all := (cS_api_Tunnel t17.1 ao18 cap18)) [] [] (by kernel_rfl)) fun a ha => ?_
      obtain ⟨t33, H33, H⟩ := bind_some H
      refine cl ha (by rfl) (by kernel_rfl) (by rfl) (by rfl) (by rfl) (pmsi_Bytes.walk w23 _ hM t17.1 ao18 cap18 f18 k _ H33) ?_
      rintro _ w33 ⟨ao34, cap34, rfl, f34, ne_i34, hc33, hMn⟩ a ha
      have o1 : Ok [] ([g20] ++ (M)) w23.heap.size := Ok.nil _ _
      have o2 : Ok (blkL ao34 ++ ([g20] ++ (M))) ([g20] ++ (M)) w23.heap.size := (Ok.app (fun x h => .inr (ne_i34 x h)) (Ok.app (fun _ h => .inl (ml h)) (fun _ h => .inl (mr (h)))))
      have f2 := f2.chg hc33 o1 o2
      have f18 := f18.chg hc33 o1 o2
      have hBg20 := hBg20.chg hc33 (fun h => nomatch h)
      have nw : Ok (blkL ao34) ([g20] ++ (M)) w23.heap.size := (fun x h => .inr (ne_i34 x h))
      have p_i34_i22 : ∀ x ∈ blkL ao34, x ∉ ([g20]) := fun x hx hy => absurd (hM x (ml hy)) (Nat.not_lt.2 (ne_i34 x hx))
      have p_i34_M : ∀ x ∈ blkL ao34, x ∉ M := fun x hx hy => absurd (hM x (mr (hy))) (Nat.not_lt.2 (ne_i34 x hx))
      have e_i34 : ∀ x ∈ blkL ao34, w.heap.size ≤ x := fun x hx => Nat.le_trans hC.size (ne_i34 x hx)
      have hM : MS (blkL ao34 ++ ([g20] ++ (M))) w33 := (MS.app (fun x h => hMn x (ml h)) (MS.app (fun x h => hM.chg hc33 x (ml h)) (fun x h => hM.chg hc33 x (mr (h)))))
      have hC := hC.trans hc33 (Ok.nil _ _)
      refine seg ha 5 [(1, .slice ao2 a1.length cap2), (5, .bool t10), (12, .slice ao34 t33.1.length cap34), (13, .int .i64 t33.2)] (by kernel_rfl) fun a ha => ?_
      refine hK32 _ _ ?_; try clear hK32 K32
      refine wp_seq_k fun K35 hK35 => ?_
      refine wp_region_lit ?_
      obtain ⟨s36, H36, H⟩ := bind_some H
      have J36 : ∀ (a : Act) (w36 : World), Has a Tryd.f5.ntmps [(4, .bool s36)] → (RSl (rInt .u8) 5 w36 ([g20] ++ (M)) ao18 cap18 t17.1.Id) → (Box w36 g20 (cS_api_Tunnel t17.1 ao18 cap18)) → (Chg [] w w36) → (MS ([g20] ++ (M)) w36) → K35 a w36 := by
        intro a w36 ha f18 hBg20 hC hM
        refine hK35 _ _ ?_; try clear hK35 K35
        refine wp_ret ?_
        try simp only [Exit.then, Exit.inBlock]
        have o1 : Ok [] ([g20] ++ (M)) w36.heap.size := Ok.nil _ _
        have o2 : Ok (M) ([g20] ++ (M)) w36.heap.size := (fun _ h => .inl (mr (h)))
        have f18 := f18.chg (Chg.refl [] _) o1 o2
        have hBg20 := hBg20.chg (Chg.refl [] _) (fun h => nomatch h)
        have hM : MS (M) w36 := (fun x h => hM.chg (Chg.refl [] _) x (mr (h)))
        have hC := hC.trans (Chg.refl [] _) (Ok.nil _ _)
        obtain rfl := Option.some.inj H
        refine rt1 ha rfl rfl ?_
        exact ⟨rfl, hC, hM⟩
      have H := H36
      refine seg ha 2 [(59, .bool t10), (1, .slice ao2 a1.length cap2), (12, .slice ao34 t33.1.length cap34), (13, .int .i64 t33.2)] (by kernel_rfl) fun a ha => ?_
      rcases Bool.eq_false_or_eq_true (t10) with hb37 | hb37
      · have ha := ha.lit hb37
        have H := ite_t hb37 H
        refine sgh ha 4 [2, 2, 3, 0] [(63, .bool (t33.2 == (0 : Int))), (1, .slice ao2 a1.length cap2), (12, .slice ao34 t33.1.length cap34)] (by kernel_rfl) fun a ha => ?_
        rcases Bool.eq_false_or_eq_true (t33.2 == (0 : Int)) with hb38 | hb38
        · have ha := ha.lit hb38
          have H := ite_t hb38 H
          refine sgh ha 1 [2] [(1, .slice ao2 a1.length cap2), (63, .bool true), (64, .slice ao34 t33.1.length cap34)] (by kernel_rfl) fun a ha => ?_
          refine cvs ha rfl (by kernel_rfl) (by kernel_rfl) (by kernel_rfl) rfl rfl rfl (Own.toRSl (M' := []) f34 (Ok.nil _ _) (fun _ _ h => nomatch h)) fun a ha => ?_
          refine sgh ha 1 [2] [(63, .bool true), (65, .string (bstr (b2s t33.1))), (66, .slice ao2 a1.length cap2)] (by kernel_rfl) fun a ha => ?_
          refine cvs ha rfl (by kernel_rfl) (by kernel_rfl) (by kernel_rfl) rfl rfl rfl f2 fun a ha => ?_
          refine sgh ha 3 [2, 3, 0] [(4, .bool ((bstr (b2s t33.1)).toList == (bstr (b2s a1)).toList))] (by kernel_rfl) fun a ha => ?_
          obtain rfl := Option.some.inj H
          have o1 : Ok [] (blkL ao34 ++ ([g20] ++ (M))) w33.heap.size := Ok.nil _ _
          have o2 : Ok ([g20] ++ (M)) (blkL ao34 ++ ([g20] ++ (M))) w33.heap.size := (Ok.app (fun _ h => .inl (mr (ml h))) (fun _ h => .inl (mr (mr (h)))))
          have f18 := f18.chg (Chg.refl [] _) o1 o2
          have hBg20 := hBg20.chg (Chg.refl [] _) (fun h => nomatch h)
          have hM : MS ([g20] ++ (M)) w33 := (MS.app (fun x h => hM.chg (Chg.refl [] _) x (mr (ml h))) (fun x h => hM.chg (Chg.refl [] _) x (mr (mr (h)))))
          have hC := hC.trans (Chg.refl [] _) (Ok.nil _ _)
          exact J36 _ _ (ha.sel (by kernel_rfl)) f18 hBg20 hC hM
        · have ha := ha.lit hb38
          have H := ite_f hb38 H
          refine sgh ha 7 [1, 1, 1, 1, 1, 4, 0] [(4, .bool false)] (by kernel_rfl) fun a ha => ?_
          obtain rfl := Option.some.inj H
          have o1 : Ok [] (blkL ao34 ++ ([g20] ++ (M))) w33.heap.size := Ok.nil _ _
          have o2 : Ok ([g20] ++ (M)) (blkL ao34 ++ ([g20] ++ (M))) w33.heap.size := (Ok.app (fun _ h => .inl (mr (ml h))) (fun _ h => .inl (mr (mr (h)))))
          have f18 := f18.chg (Chg.refl [] _) o1 o2
          have hBg20 := hBg20.chg (Chg.refl [] _) (fun h => nomatch h)
          have hM : MS ([g20] ++ (M)) w33 := (MS.app (fun x h => hM.chg (Chg.refl [] _) x (mr (ml h))) (fun x h => hM.chg (Chg.refl [] _) x (mr (mr (h)))))
          have hC := hC.trans (Chg.refl [] _) (Ok.nil _ _)
          exact J36 _ _ (ha.sel (by kernel_rfl)) f18 hBg20 hC hM
      · have ha := ha.lit hb37
        have H := ite_f hb37 H
        refine sgh ha 11 [1, 1, 4, 0, 1, 1, 1, 1, 1, 4, 0] [(4, .bool false)] (by kernel_rfl) fun a ha => ?_
        obtain rfl := Option.some.inj H
        have o1 : Ok [] (blkL ao34 ++ ([g20] ++ (M))) w33.heap.size := Ok.nil _ _
        have o2 : Ok ([g20] ++ (M)) (blkL ao34 ++ ([g20] ++ (M))) w33.heap.size := (Ok.app (fun _ h => .inl (mr (ml h))) (fun _ h => .inl (mr (mr (h)))))
        have f18 := f18.chg (Chg.refl [] _) o1 o2
        have hBg20 := hBg20.chg (Chg.refl [] _) (fun h => nomatch h)
        have hM : MS ([g20] ++ (M)) w33 := (MS.app (fun x h => hM.chg (Chg.refl [] _) x (mr (ml h))) (fun x h => hM.chg (Chg.refl [] _) x (mr (mr (h)))))
        have hC := hC.trans (Chg.refl [] _) (Ok.nil _ _)
        exact J36 _ _ (ha.sel (by kernel_rfl)) f18 hBg20 hC hM
  have Hc15 := H
  have H := H15
  refine wp_seq_k fun K39 hK39 => ?_
  refine wp_region_lit ?_
  refine seg ha 2 [(1, .slice ao2 a1.length cap2), (2, .pointer (some ⟨g5, 0, none⟩)), (5, .bool t10), (6, .slice ao13 t12.1.length cap13), (21, .bool (t12.2 == (0 : Int)))] (by kernel_rfl) fun a ha => ?_
  refine hK39 _ _ ?_; try clear hK39 K39
  refine cnd ha rfl (fun hc40 => ?_) (fun hc40 => ?_)
  · have H := ite_t hc40 H
    refine wp_seq_k fun K41 hK41 => ?_
    refine wp_region_lit ?_
    refine seg ha 1 [(1, .slice ao2 a1.length cap2), (2, .pointer (some ⟨g5, 0, none⟩)), (5, .bool t10), (23, .slice ao13 t12.1.length cap13)] (by kernel_rfl) fun a ha => ?_
    have fz := f13.toRSl (M' := M) (fun _ h => .inl (mr (h))) (fun x hx hm => p_i13_M x hx hm)
    have o1 : Ok [] (blkL ao13 ++ (M)) w12.heap.size := Ok.nil _ _
    have o2 : Ok (M) (blkL ao13 ++ (M)) w12.heap.size := (fun _ h => .inl (mr (h)))
    have f2 := f2.chg (Chg.refl [] _) o1 o2
    have f1 := f1.chg (Chg.refl [] _) o1 o2
    have q_hn8 : g5 ∉ M := fun h => (o2 g5 h).elim hn8 (fun h => absurd (lt_cell (hE7 0 _ rfl)) (Nat.not_lt.2 h))
    have hE7 : ∀ j v, (cS_api_Tunnel a0 ao1 cap1)[j]? = some v → w12.cell? ⟨g5, 0 + j, none⟩ = some v := fun j v hv => (cell_keep (Chg.refl [] _) o1 hn8 (hE7 j v hv))
    have hn8 := q_hn8
    have hM : MS (M) w12 := (fun x h => hM.chg (Chg.refl [] _) x (mr (h)))
    have hC := hC.trans (Chg.refl [] _) (Ok.nil _ _)
    have f13 := fz
    obtain ⟨t42, H42, H⟩ := bind_some H
    refine cl ha (by rfl) (by kernel_rfl) (by rfl) (by rfl) (by rfl) (pmsi_Parse.walk w12 _ hM t12.1 ao13 cap13 f13 k _ H42) ?_
    rintro _ w42 ⟨ao43, cap43, rfl, f43, hc42, hMn⟩ a ha
    have o1 : Ok [] (M) w12.heap.size := Ok.nil _ _
    have o2 : Ok (M) (M) w12.heap.size := (fun _ h => .inl (h))
    have f2 := f2.chg hc42 o1 o2
    have f1 := f1.chg hc42 o1 o2
    have f13 := f13.chg hc42 o1 o2
    have q_hn8 : g5 ∉ M := fun h => (o2 g5 h).elim hn8 (fun h => absurd (lt_cell (hE7 0 _ rfl)) (Nat.not_lt.2 h))
    have hE7 : ∀ j v, (cS_api_Tunnel a0 ao1 cap1)[j]? = some v → w42.cell? ⟨g5, 0 + j, none⟩ = some v := fun j v hv => (cell_keep hc42 o1 hn8 (hE7 j v hv))
    have hn8 := q_hn8
    have hM : MS (M) w42 := (fun x h => hM.chg hc42 x (h))
    have hC := hC.trans hc42 (Ok.nil _ _)
    refine seg ha 3 [(1, .slice ao2 a1.length cap2), (2, .pointer (some ⟨g5, 0, none⟩)), (5, .bool t10), (25, .agg (cS_api_Tunnel t42.1 ao43 cap43).toArray), (26, .int .i64 t42.2)] (by kernel_rfl) fun a ha => ?_
    refine al (cs := (cS_api_Tunnel (⟨false, (0 : Int), (0 : Int), (⟨(0 : Int), (List.replicate 16 (0 : Int))⟩ : S_api_Addr), ([] : List Int)⟩ : S_api_Tunnel) none 0)) (z := .agg (cS_api_Tunnel (⟨false, (0 : Int), (0 : Int), (⟨(0 : Int), (List.replicate 16 (0 : Int))⟩ : S_api_Addr), ([] : List Int)⟩ : S_api_Tunnel) none 0).toArray) ha (fun w => by kernel_rfl) rfl rfl rfl rfl fun a w44 g45 hN46 ha => ?_
    have o1 : Ok [] (M) w42.heap.size := Ok.nil _ _
    have o2 : Ok ([g45] ++ (M)) (M) w42.heap.size := (Ok.app (hN46.ok _) (fun _ h => .inl (h)))
    have f2 := f2.chg hN46.chg o1 o2
    have f1 := f1.chg hN46.chg o1 o2
    have f43 := f43.chg hN46.chg o1 o2
    have q_hn8 : g5 ∉ [g45] ++ (M) := fun h => (o2 g5 h).elim hn8 (fun h => absurd (lt_cell (hE7 0 _ rfl)) (Nat.not_lt.2 h))
    have hE7 : ∀ j v, (cS_api_Tunnel a0 ao1 cap1)[j]? = some v → w44.cell? ⟨g5, 0 + j, none⟩ = some v := fun j v hv => (cell_keep hN46.chg o1 hn8 (hE7 j v hv))
    have hn8 := q_hn8
    have nw : Ok ([g45]) (M) w42.heap.size := (hN46.ok _)
    have p_i47_M : ∀ x ∈ [g45], x ∉ M := fun x hx hy => absurd (hM x (hy)) (Nat.not_lt.2 ((hN46.ge1) x hx))
    have e_i47 : ∀ x ∈ [g45], w.heap.size ≤ x := fun x hx => Nat.le_trans hC.size ((hN46.ge1) x hx)
    have hM : MS ([g45] ++ (M)) w44 := (MS.app hN46.ms (fun x h => hM.chg hN46.chg x (h)))
    have hC := hC.trans hN46.chg (Ok.nil _ _)
    have hBg45 : Box w44 g45 (cS_api_Tunnel (⟨false, (0 : Int), (0 : Int), (⟨(0 : Int), (List.replicate 16 (0 : Int))⟩ : S_api_Addr), ([] : List Int)⟩ : S_api_Tunnel) none 0) := hN46.box
    refine stA (l := (cS_api_Tunnel t42.1 ao43 cap43)) ha rfl rfl rfl (by kernel_rfl) rfl rfl hBg45 rfl fun a w48 ha hb2 hc49 _ => ?_
    have o1 : Ok [g45] ([g45] ++ (M)) w44.heap.size := (fun _ h => .inl (ml h))
    have o2 : Ok ([g45] ++ (M)) ([g45] ++ (M)) w44.heap.size := (Ok.app (fun _ h => .inl (ml h)) (fun _ h => .inl (mr (h))))
    have f2 := f2.chg hc49 o1 o2
    have f1 := f1.chg hc49 o1 o2
    have f43 := f43.chg hc49 o1 o2
    have q_hn8 : g5 ∉ [g45] ++ (M) := fun h => (o2 g5 h).elim hn8 (fun h => absurd (lt_cell (hE7 0 _ rfl)) (Nat.not_lt.2 h))
    have hE7 : ∀ j v, (cS_api_Tunnel a0 ao1 cap1)[j]? = some v → w48.cell? ⟨g5, 0 + j, none⟩ = some v := fun j v hv => (cell_keep hc49 o1 hn8 (hE7 j v hv))
    have hn8 := q_hn8
    have hM : MS ([g45] ++ (M)) w48 := (MS.app (fun x h => hM.chg hc49 x (ml h)) (fun x h => hM.chg hc49 x (mr (h))))
    have hC := hC.trans hc49 (fun x h => .inr (e_i47 x h))
    have hBg45 : Box w48 g45 (cS_api_Tunnel t42.1 ao43 cap43) := hb2
    refine seg ha 1 [(1, .slice ao2 a1.length cap2), (2, .pointer (some ⟨g5, 0, none⟩)), (5, .bool t10), (8, .pointer (some ⟨g45, 0, none⟩)), (9, .int .i64 t42.2)] (by kernel_rfl) fun a ha => ?_
    refine hK41 _ _ ?_; try clear hK41 K41
    refine wp_seq_k fun K50 hK50 => ?_
    refine wp_region_lit ?_
    obtain ⟨s51, H51, H⟩ := bind_some H
    have J51 : ∀ (a : Act) (w51 : World), Has a Tryd.f5.ntmps [(1, .slice ao2 a1.length cap2), (5, .bool t10), (39, .bool s51)] → (RSl (rInt .u8) 5 w51 ([g45] ++ (M)) ao2 cap2 a1) → (RSl (rInt .u8) 5 w51 ([g45] ++ (M)) ao43 cap43 t42.1.Id) → (Box w51 g45 (cS_api_Tunnel t42.1 ao43 cap43)) → (Chg [] w w51) → (MS ([g45] ++ (M)) w51) → K50 a w51 := by
      intro a w51 ha f2 f43 hBg45 hC hM
      refine hK50 _ _ ?_; try clear hK50 K50
      refine cnd ha rfl (fun hc52 => ?_) (fun hc52 => ?_)
      · have H := ite_t hc52 H
        refine wp_seq_k fun K53 hK53 => ?_
        refine wp_region_lit ?_
        refine seg ha 1 [(4, .bool false)] (by kernel_rfl) fun a ha => ?_
        refine hK53 _ _ ?_; try clear hK53 K53
        refine wp_ret ?_
        obtain rfl := Option.some.inj H
        have H := Hc15
        try simp only [Exit.then, Exit.inBlock]
        have o1 : Ok [] ([g45] ++ (M)) w51.heap.size := Ok.nil _ _
        have o2 : Ok (M) ([g45] ++ (M)) w51.heap.size := (fun _ h => .inl (mr (h)))
        have f43 := f43.chg (Chg.refl [] _) o1 o2
        have hBg45 := hBg45.chg (Chg.refl [] _) (fun h => nomatch h)
        have hM : MS (M) w51 := (fun x h => hM.chg (Chg.refl [] _) x (mr (h)))
        have hC := hC.trans (Chg.refl [] _) (Ok.nil _ _)
        obtain rfl := Option.some.inj H
        refine rt1 ha rfl rfl ?_
        exact ⟨rfl, hC, hM⟩
      · have H := ite_f hc52 H
        refine wp_skip ?_
        obtain rfl := Option.some.inj H
        have o1 : Ok [] ([g45] ++ (M)) w51.heap.size := Ok.nil _ _
        have o2 : Ok (M) ([g45] ++ (M)) w51.heap.size := (fun _ h => .inl (mr (h)))
        have f2 := f2.chg (Chg.refl [] _) o1 o2
        have f43 := f43.chg (Chg.refl [] _) o1 o2
        have hBg45 := hBg45.chg (Chg.refl [] _) (fun h => nomatch h)
        have hM : MS (M) w51 := (fun x h => hM.chg (Chg.refl [] _) x (mr (h)))
        have hC := hC.trans (Chg.refl [] _) (Ok.nil _ _)
        exact J15 _ _ _ rfl (ha.sel (by kernel_rfl)) f2 hC hM
    have H := H51
    refine seg ha 3 [(29, .bool (t42.2 != (0 : Int))), (1, .slice ao2 a1.length cap2), (2, .pointer (some ⟨g5, 0, none⟩)), (5, .bool t10), (8, .pointer (some ⟨g45, 0, none⟩))] (by kernel_rfl) fun a ha => ?_
    rcases Bool.eq_false_or_eq_true (t42.2 != (0 : Int)) with hb54 | hb54
    · have ha := ha.lit hb54
      have H := ite_t hb54 H
      refine sgh ha 10 [1, 1, 1, 1, 3, 0, 1, 1, 1, 3] [(1, .slice ao2 a1.length cap2), (5, .bool t10), (39, .bool true)] (by kernel_rfl) fun a ha => ?_
      obtain rfl := Option.some.inj H
      exact J51 _ _ (ha.sel (by kernel_rfl)) f2 f43 hBg45 hC hM
    · have ha := ha.lit hb54
      have H := ite_f hb54 H
      refine ldA (cs := (cS_api_Tunnel t42.1 ao43 cap43)) ha rfl (by kernel_rfl) rfl rfl rfl (cells_sub (Box.cells hBg45) (all := (cS_api_Tunnel t42.1 ao43 cap43)) [] [] (by kernel_rfl)) fun a ha => ?_
      refine ldA (cs := (cS_api_Tunnel a0 ao1 cap1)) ha rfl (by kernel_rfl) rfl rfl rfl (cells_sub hE7 (all := (cS_api_Tunnel a0 ao1 cap1)) [] [] (by kernel_rfl)) fun a ha => ?_
      obtain ⟨t55, H55, H⟩ := bind_some H
      refine cl ha (by rfl) (by kernel_rfl) (by rfl) (by rfl) (by rfl) (vineryref06_Equal.walk w48 _ hM t42.1 ao43 cap43 f43 a0 ao1 cap1 f1 _ H55) ?_
      rintro _ w55 ⟨rfl, hc55, hMn⟩ a ha
      have o1 : Ok [] ([g45] ++ (M)) w48.heap.size := Ok.nil _ _
      have o2 : Ok ([g45] ++ (M)) ([g45] ++ (M)) w48.heap.size := (Ok.app (fun _ h => .inl (ml h)) (fun _ h => .inl (mr (h))))
      have f2 := f2.chg hc55 o1 o2
      have f1 := f1.chg hc55 o1 o2
      have f43 := f43.chg hc55 o1 o2
      have hBg45 := hBg45.chg hc55 (fun h => nomatch h)
      have q_hn8 : g5 ∉ [g45] ++ (M) := fun h => (o2 g5 h).elim hn8 (fun h => absurd (lt_cell (hE7 0 _ rfl)) (Nat.not_lt.2 h))
      have hE7 : ∀ j v, (cS_api_Tunnel a0 ao1 cap1)[j]? = some v → w55.cell? ⟨g5, 0 + j, none⟩ = some v := fun j v hv => (cell_keep hc55 o1 hn8 (hE7 j v hv))
      have hn8 := q_hn8
      have hM : MS ([g45] ++ (M)) w55 := (MS.app (fun x h => hM.chg hc55 x (ml h)) (fun x h => hM.chg hc55 x (mr (h))))
      have hC := hC.trans hc55 (Ok.nil _ _)
      refine sgh ha 3 [2, 4, 0] [(35, .bool (!t55)), (1, .slice ao2 a1.length cap2), (2, .pointer (some ⟨g5, 0, none⟩)), (5, .bool t10)] (by kernel_rfl) fun a ha => ?_
      rcases Bool.eq_false_or_eq_true (!t55) with hb56 | hb56
      · have ha := ha.lit hb56
        have H := ite_t hb56 H
        refine sgh ha 4 [1, 1, 1, 3] [(1, .slice ao2 a1.length cap2), (5, .bool t10), (39, .bool true)] (by kernel_rfl) fun a ha => ?_
        obtain rfl := Option.some.inj H
        exact J51 _ _ (ha.sel (by kernel_rfl)) f2 f43 hBg45 hC hM
      · have ha := ha.lit hb56
        have H := ite_f hb56 H
        refine ldA (cs := (cS_api_Tunnel a0 ao1 cap1)) ha rfl (by kernel_rfl) rfl rfl rfl (cells_sub hE7 (all := (cS_api_Tunnel a0 ao1 cap1)) [] [] (by kernel_rfl)) fun a ha => ?_
        obtain ⟨t57, H57, H⟩ := bind_some H
        refine cl ha (by rfl) (by kernel_rfl) (by rfl) (by rfl) (by rfl) (pmsi_Right.walk w55 _ hM a0 ao1 cap1 f1 k _ H57) ?_
        rintro _ w57 ⟨rfl, hc57, hMn⟩ a ha
        have o1 : Ok [] ([g45] ++ (M)) w55.heap.size := Ok.nil _ _
        have o2 : Ok ([g45] ++ (M)) ([g45] ++ (M)) w55.heap.size := (Ok.app (fun _ h => .inl (ml h)) (fun _ h => .inl (mr (h))))
        have f2 := f2.chg hc57 o1 o2
        have f1 := f1.chg hc57 o1 o2
        have f43 := f43.chg hc57 o1 o2
        have hBg45 := hBg45.chg hc57 (fun h => nomatch h)
        have hM : MS ([g45] ++ (M)) w57 := (MS.app (fun x h => hM.chg hc57 x (ml h)) (fun x h => hM.chg hc57 x (mr (h))))
        have hC := hC.trans hc57 (Ok.nil _ _)
        refine sgh ha 2 [2, 4] [(1, .slice ao2 a1.length cap2), (5, .bool t10), (39, .bool (!t57))] (by kernel_rfl) fun a ha => ?_
        obtain rfl := Option.some.inj H
        exact J51 _ _ (ha.sel (by kernel_rfl)) f2 f43 hBg45 hC hM
  · have H := ite_f hc40 H
    refine wp_skip ?_
    obtain rfl := Option.some.inj H
    have o1 : Ok [] (blkL ao13 ++ (M)) w12.heap.size := Ok.nil _ _
    have o2 : Ok (M) (blkL ao13 ++ (M)) w12.heap.size := (fun _ h => .inl (mr (h)))
    have f2 := f2.chg (Chg.refl [] _) o1 o2
    have f1 := f1.chg (Chg.refl [] _) o1 o2
    have q_hn8 : g5 ∉ M := fun h => (o2 g5 h).elim hn8 (fun h => absurd (lt_cell (hE7 0 _ rfl)) (Nat.not_lt.2 h))
    have hE7 : ∀ j v, (cS_api_Tunnel a0 ao1 cap1)[j]? = some v → w12.cell? ⟨g5, 0 + j, none⟩ = some v := fun j v hv => (cell_keep (Chg.refl [] _) o1 hn8 (hE7 j v hv))
    have hn8 := q_hn8
    have hM : MS (M) w12 := (fun x h => hM.chg (Chg.refl [] _) x (mr (h)))
    have hC := hC.trans (Chg.refl [] _) (Ok.nil _ _)
    exact J15 _ _ _ rfl (ha.sel (by kernel_rfl)) f2 hC hM
end Go.E
