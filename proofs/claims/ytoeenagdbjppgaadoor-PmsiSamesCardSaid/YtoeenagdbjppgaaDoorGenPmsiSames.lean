/- What the functions that the law reaches compute, and the walks that show it. -/
import Derived.Test.YtoeenagdbjppgaaDoorEngM
import Derived.Test.YtoeenagdbjppgaaDoorProg
import Derived.Test.YtoeenagdbjppgaaDoorGenPmsiSamesP1
set_option linter.unusedVariables false
set_option linter.unusedSimpArgs false
namespace Go.E
open Go.RowKit Go.Proofs
def vineryref06_Same.f (a0 : S_api_Tunnel) (a1 : S_api_Tunnel) : Option (Bool) := ((if (a0.Kind == a1.Kind) = true then (if ((a0.Root.Size == a1.Root.Size) && ((eqA 16 a0.Root.B a1.Root.B) && true)) = true then some ((bstr (b2s a0.Id)).toList == (bstr (b2s a1.Id)).toList : Bool) else some (false : Bool)) else some (false : Bool))).bind fun s15 => some ((s15 : Bool))
set_option maxRecDepth 100000 in
theorem vineryref06_Same.walk (w : World) (M : List Nat) (hM : MS M w) (a0 : S_api_Tunnel) (ao1 : Option Addr) (cap1 : Nat) (f1 : RSl (rInt .u8) 5 w M ao1 cap1 a0.Id) (a1 : S_api_Tunnel) (ao2 : Option Addr) (cap2 : Nat) (f2 : RSl (rInt .u8) 5 w M ao2 cap2 a1.Id) (r : Bool) (H : vineryref06_Same.f a0 a1 = some r) :
    To Tryd.prog 24 [.agg (cS_api_Tunnel a0 ao1 cap1).toArray, .agg (cS_api_Tunnel a1 ao2 cap2).toArray] w fun v w' => v = .bool r ∧ Chg [] w w' ∧ MS (M) w' := by
  unfold vineryref06_Same.f at H
  refine ent Tryd.func24 rfl [(0, .agg (cS_api_Tunnel a0 ao1 cap1).toArray), (1, .agg (cS_api_Tunnel a1 ao2 cap2).toArray)] rfl (by rfl) fun a ha => ?_
  have hC : Chg [] w w := Chg.refl _ _
  refine wp_seq_k fun K3 hK3 => ?_
  refine wp_region_lit ?_
  refine bx (cs := (cS_api_Tunnel a0 ao1 cap1)) ha rfl rfl rfl rfl rfl fun a w4 g5 hN6 ha => ?_
  have hn8 := hN6.notin hM
  have o1 : Ok [] (M) w.heap.size := Ok.nil _ _
  have o2 : Ok (M) (M) w.heap.size := (fun _ h => .inl (h))
  have f1 := f1.chg hN6.chg o1 o2
  have f2 := f2.chg hN6.chg o1 o2
  have hM : MS (M) w4 := (fun x h => hM.chg hN6.chg x (h))
  have hC := hC.trans hN6.chg (Ok.nil _ _)
  have hE7 : ∀ j v, (cS_api_Tunnel a0 ao1 cap1)[j]? = some v → w4.cell? ⟨g5, 0 + j, none⟩ = some v := Box.cells (New.box hN6)
  refine bx (cs := (cS_api_Tunnel a1 ao2 cap2)) ha rfl rfl rfl rfl rfl fun a w9 g10 hN11 ha => ?_
  have hn13 := hN11.notin hM
  have o1 : Ok [] (M) w4.heap.size := Ok.nil _ _
  have o2 : Ok (M) (M) w4.heap.size := (fun _ h => .inl (h))
  have f2 := f2.chg hN11.chg o1 o2
  have f1 := f1.chg hN11.chg o1 o2
  have q_hn8 : g5 ∉ M := fun h => (o2 g5 h).elim hn8 (fun h => absurd (lt_cell (hE7 0 _ rfl)) (Nat.not_lt.2 h))
  have hE7 : ∀ j v, (cS_api_Tunnel a0 ao1 cap1)[j]? = some v → w9.cell? ⟨g5, 0 + j, none⟩ = some v := fun j v hv => (cell_keep hN11.chg o1 hn8 (hE7 j v hv))
  have hn8 := q_hn8
  have hM : MS (M) w9 := (fun x h => hM.chg hN11.chg x (h))
  have hC := hC.trans hN11.chg (Ok.nil _ _)
  have hE12 : ∀ j v, (cS_api_Tunnel a1 ao2 cap2)[j]? = some v → w9.cell? ⟨g10, 0 + j, none⟩ = some v := Box.cells (New.box hN11)
  refine seg ha 1 [(2, .pointer (some ⟨g5, 0, none⟩)), (3, .pointer (some ⟨g10, 0, none⟩))] (by kernel_rfl) fun a ha => ?_
  refine hK3 _ _ ?_; try clear hK3 K3
  refine wp_seq_k fun K14 hK14 => ?_
  refine wp_region_lit ?_
  obtain ⟨s15, H15, H⟩ := bind_some H
  have J15 : ∀ (a : Act) (w15 : World), Has a Tryd.f24.ntmps [(4, .bool s15)] → (Chg [] w w15) → (MS (M) w15) → K14 a w15 := by
    intro a w15 ha hC hM
    refine hK14 _ _ ?_; try clear hK14 K14
    refine wp_ret ?_
    try simp only [Exit.then, Exit.inBlock]
    obtain rfl := Option.some.inj H
    refine rt1 ha rfl rfl ?_
    exact ⟨rfl, hC, hM⟩
  have H := H15
  refine seg ha 1 [(2, .pointer (some ⟨g5, 0, none⟩)), (3, .pointer (some ⟨g10, 0, none⟩)), (5, .pointer (some ⟨g5, 0 + 1, none⟩))] (by kernel_rfl) fun a ha => ?_
  refine ld ha rfl (by kernel_rfl) rfl rfl rfl (hE7 1 (.int .i64 a0.Kind) (by kernel_rfl)) fun a ha => ?_
  refine seg ha 1 [(2, .pointer (some ⟨g5, 0, none⟩)), (3, .pointer (some ⟨g10, 0, none⟩)), (6, .int .i64 a0.Kind), (7, .pointer (some ⟨g10, 0 + 1, none⟩))] (by kernel_rfl) fun a ha => ?_
  refine ld ha rfl (by kernel_rfl) rfl rfl rfl (hE12 1 (.int .i64 a1.Kind) (by kernel_rfl)) fun a ha => ?_
  refine seg ha 2 [(10, .bool (a0.Kind == a1.Kind)), (2, .pointer (some ⟨g5, 0, none⟩)), (3, .pointer (some ⟨g10, 0, none⟩))] (by kernel_rfl) fun a ha => ?_
  rcases Bool.eq_false_or_eq_true (a0.Kind == a1.Kind) with hb16 | hb16
  · have ha := ha.lit hb16
    have H := ite_t hb16 H
    refine sgh ha 1 [2] [(2, .pointer (some ⟨g5, 0, none⟩)), (3, .pointer (some ⟨g10, 0, none⟩)), (10, .bool true), (11, .pointer (some ⟨g5, 0 + 3, none⟩))] (by kernel_rfl) fun a ha => ?_
    refine ldA (cs := (cS_api_Addr a0.Root)) ha rfl (by kernel_rfl) rfl rfl rfl (cells_sub hE7 (all := (cS_api_Tunnel a0 ao1 cap1)) [.bool a0.Leaf, .int .i64 a0.Kind, .int .i64 a0.Label] [.slice ao1 a0.Id.length cap1] (by kernel_rfl)) fun a ha => ?_
    refine sgh ha 1 [2] [(2, .pointer (some ⟨g5, 0, none⟩)), (3, .pointer (some ⟨g10, 0, none⟩)), (10, .bool true), (12, .agg (cS_api_Addr a0.Root).toArray), (13, .pointer (some ⟨g10, 0 + 3, none⟩))] (by kernel_rfl) fun a ha => ?_
    refine ldA (cs := (cS_api_Addr a1.Root)) ha rfl (by kernel_rfl) rfl rfl rfl (cells_sub hE12 (all := (cS_api_Tunnel a1 ao2 cap2)) [.bool a1.Leaf, .int .i64 a1.Kind, .int .i64 a1.Label] [.slice ao2 a1.Id.length cap2] (by kernel_rfl)) fun a ha => ?_
    refine hop (v := .bool ((a0.Root.Size == a1.Root.Size) && ((eqA 16 a0.Root.B a1.Root.B) && true))) (w' := w9) ha rfl rfl rfl (eqs_run (r := ((a0.Root.Size == a1.Root.Size) && ((eqA 16 a0.Root.B a1.Root.B) && true))) (m := 9) ha rfl rfl (by kernel_rfl) rfl (by kernel_rfl) _) fun a ha => ?_
    refine sgh ha 2 [3, 0] [(17, .bool ((a0.Root.Size == a1.Root.Size) && ((eqA 16 a0.Root.B a1.Root.B) && true))), (2, .pointer (some ⟨g5, 0, none⟩)), (3, .pointer (some ⟨g10, 0, none⟩))] (by kernel_rfl) fun a ha => ?_
    rcases Bool.eq_false_or_eq_true (((a0.Root.Size == a1.Root.Size) && ((eqA 16 a0.Root.B a1.Root.B) && true))) with hb17 | hb17
    · have ha := ha.lit hb17
      have H := ite_t hb17 H
      refine sgh ha 1 [2] [(3, .pointer (some ⟨g10, 0, none⟩)), (17, .bool true), (18, .pointer (some ⟨g5, 0 + 20, none⟩))] (by kernel_rfl) fun a ha => ?_
      refine ld ha rfl (by kernel_rfl) rfl rfl rfl (hE7 20 (.slice ao1 a0.Id.length cap1) (by kernel_rfl)) fun a ha => ?_
      refine cvs ha rfl (by kernel_rfl) (by kernel_rfl) (by kernel_rfl) rfl rfl rfl f1 fun a ha => ?_
      refine sgh ha 1 [2] [(17, .bool true), (20, .string (bstr (b2s a0.Id))), (21, .pointer (some ⟨g10, 0 + 20, none⟩))] (by kernel_rfl) fun a ha => ?_
      refine ld ha rfl (by kernel_rfl) rfl rfl rfl (hE12 20 (.slice ao2 a1.Id.length cap2) (by kernel_rfl)) fun a ha => ?_
      refine cvs ha rfl (by kernel_rfl) (by kernel_rfl) (by kernel_rfl) rfl rfl rfl f2 fun a ha => ?_
      refine sgh ha 3 [2, 3, 0] [(4, .bool ((bstr (b2s a0.Id)).toList == (bstr (b2s a1.Id)).toList))] (by kernel_rfl) fun a ha => ?_
      obtain rfl := Option.some.inj H
      exact J15 _ _ (ha.sel (by kernel_rfl)) hC hM
    · have ha := ha.lit hb17
      have H := ite_f hb17 H
      refine sgh ha 9 [1, 1, 1, 1, 1, 1, 1, 4, 0] [(4, .bool false)] (by kernel_rfl) fun a ha => ?_
      obtain rfl := Option.some.inj H
      exact J15 _ _ (ha.sel (by kernel_rfl)) hC hM
  · have ha := ha.lit hb16
    have H := ite_f hb16 H
    refine sgh ha 16 [1, 1, 1, 1, 1, 4, 0, 1, 1, 1, 1, 1, 1, 1, 4, 0] [(4, .bool false)] (by kernel_rfl) fun a ha => ?_
    obtain rfl := Option.some.inj H
    exact J15 _ _ (ha.sel (by kernel_rfl)) hC hM
def vinerylaw06_PmsiSames.f (k : Nat) (a0 : S_api_Tunnel) (a1 : S_api_Tunnel) : Option (Bool) := (vinerylaw06_small.f k ).bind fun t15 => ((if t15 = true then (pmsi_Same.f a0 a1).bind fun t19 => (vineryref06_Same.f a0 a1).bind fun t20 => some (t19 == t20 : Bool) else some (false : Bool))).bind fun s17 => some ((s17 : Bool))
set_option maxRecDepth 100000 in
theorem vinerylaw06_PmsiSames.walk (w : World) (M : List Nat) (hM : MS M w) (a0 : S_api_Tunnel) (ao1 : Option Addr) (cap1 : Nat) (f1 : RSl (rInt .u8) 5 w M ao1 cap1 a0.Id) (a1 : S_api_Tunnel) (ao2 : Option Addr) (cap2 : Nat) (f2 : RSl (rInt .u8) 5 w M ao2 cap2 a1.Id) (k : Nat) (r : Bool) (H : vinerylaw06_PmsiSames.f k a0 a1 = some r) :
    To Tryd.prog 4 [.agg (cS_api_Tunnel a0 ao1 cap1).toArray, .agg (cS_api_Tunnel a1 ao2 cap2).toArray] w fun v w' => v = .bool r ∧ Chg [] w w' ∧ MS (M) w' := by
  unfold vinerylaw06_PmsiSames.f at H
  refine ent Tryd.func4 rfl [(0, .agg (cS_api_Tunnel a0 ao1 cap1).toArray), (1, .agg (cS_api_Tunnel a1 ao2 cap2).toArray)] rfl (by rfl) fun a ha => ?_
  have hC : Chg [] w w := Chg.refl _ _
  refine wp_seq_k fun K3 hK3 => ?_
  refine wp_region_lit ?_
  refine bx (cs := (cS_api_Tunnel a0 ao1 cap1)) ha rfl rfl rfl rfl rfl fun a w4 g5 hN6 ha => ?_
  have hn8 := hN6.notin hM
  have o1 : Ok [] (M) w.heap.size := Ok.nil _ _
  have o2 : Ok (M) (M) w.heap.size := (fun _ h => .inl (h))
  have f1 := f1.chg hN6.chg o1 o2
  have f2 := f2.chg hN6.chg o1 o2
  have hM : MS (M) w4 := (fun x h => hM.chg hN6.chg x (h))
  have hC := hC.trans hN6.chg (Ok.nil _ _)
  have hE7 : ∀ j v, (cS_api_Tunnel a0 ao1 cap1)[j]? = some v → w4.cell? ⟨g5, 0 + j, none⟩ = some v := Box.cells (New.box hN6)
  refine bx (cs := (cS_api_Tunnel a1 ao2 cap2)) ha rfl rfl rfl rfl rfl fun a w9 g10 hN11 ha => ?_
  have hn13 := hN11.notin hM
  have o1 : Ok [] (M) w4.heap.size := Ok.nil _ _
  have o2 : Ok (M) (M) w4.heap.size := (fun _ h => .inl (h))
  have f2 := f2.chg hN11.chg o1 o2
  have f1 := f1.chg hN11.chg o1 o2
  have q_hn8 : g5 ∉ M := fun h => (o2 g5 h).elim hn8 (fun h => absurd (lt_cell (hE7 0 _ rfl)) (Nat.not_lt.2 h))
  have hE7 : ∀ j v, (cS_api_Tunnel a0 ao1 cap1)[j]? = some v → w9.cell? ⟨g5, 0 + j, none⟩ = some v := fun j v hv => (cell_keep hN11.chg o1 hn8 (hE7 j v hv))
  have hn8 := q_hn8
  have hM : MS (M) w9 := (fun x h => hM.chg hN11.chg x (h))
  have hC := hC.trans hN11.chg (Ok.nil _ _)
  have hE12 : ∀ j v, (cS_api_Tunnel a1 ao2 cap2)[j]? = some v → w9.cell? ⟨g10, 0 + j, none⟩ = some v := Box.cells (New.box hN11)
  refine seg ha 1 [(2, .pointer (some ⟨g5, 0, none⟩)), (3, .pointer (some ⟨g10, 0, none⟩))] (by kernel_rfl) fun a ha => ?_
  refine hK3 _ _ ?_; try clear hK3 K3
  refine wp_seq_k fun K14 hK14 => ?_
  refine wp_region_lit ?_
  obtain ⟨t15, H15, H⟩ := bind_some H
  refine cl ha (by rfl) (by kernel_rfl) (by rfl) (by rfl) (by rfl) (vinerylaw06_small.walk w9 _ hM  k _ H15) ?_
  rintro _ w15 ⟨rfl, hc15, hMn⟩ a ha
  have o1 : Ok [] (M) w9.heap.size := Ok.nil _ _
  have o2 : Ok (M) (M) w9.heap.size := (fun _ h => .inl (h))
  have f1 := f1.chg hc15 o1 o2
  have f2 := f2.chg hc15 o1 o2
  have q_hn8 : g5 ∉ M := fun h => (o2 g5 h).elim hn8 (fun h => absurd (lt_cell (hE7 0 _ rfl)) (Nat.not_lt.2 h))
  have hE7 : ∀ j v, (cS_api_Tunnel a0 ao1 cap1)[j]? = some v → w15.cell? ⟨g5, 0 + j, none⟩ = some v := fun j v hv => (cell_keep hc15 o1 hn8 (hE7 j v hv))
  have hn8 := q_hn8
  have q_hn13 : g10 ∉ M := fun h => (o2 g10 h).elim hn13 (fun h => absurd (lt_cell (hE12 0 _ rfl)) (Nat.not_lt.2 h))
  have hE12 : ∀ j v, (cS_api_Tunnel a1 ao2 cap2)[j]? = some v → w15.cell? ⟨g10, 0 + j, none⟩ = some v := fun j v hv => (cell_keep hc15 o1 hn13 (hE12 j v hv))
  have hn13 := q_hn13
  have hM : MS (M) w15 := (fun x h => hM.chg hc15 x (h))
  have hC := hC.trans hc15 (Ok.nil _ _)
  refine seg ha 1 [(2, .pointer (some ⟨g5, 0, none⟩)), (3, .pointer (some ⟨g10, 0, none⟩)), (5, .bool t15)] (by kernel_rfl) fun a ha => ?_
  refine hK14 _ _ ?_; try clear hK14 K14
  refine wp_seq_k fun K16 hK16 => ?_
  refine drq0 (fun w' => Chg [] w15 w') (by kernel_rfl) (by kernel_rfl) (fun _ h => h) ?_
  obtain ⟨s17, H17, H⟩ := bind_some H
  have J17 : ∀ (a : Act) (w17 : World), Has a Tryd.f4.ntmps [(4, .bool s17)] → (Chg [] w w17) → (MS (M) w17) → K16 a w17 := by
    intro a w17 ha hC hM
    refine hK16 _ _ ?_; try clear hK16 K16
    refine wp_ret ?_
    try simp only [Exit.then, Exit.inBlock]
    obtain rfl := Option.some.inj H
    refine rt1 ha rfl rfl ?_
    exact ⟨rfl, hC, hM⟩
  have H := H17
  refine qp 0 (.bool t15) ha rfl rfl rfl (by kernel_rfl) fun a ha => ?_
  refine qp 0 (.bool t15) ha rfl rfl rfl (by kernel_rfl) fun a ha => ?_
  have ha := ha.sel (env' := [(8, .bool t15), (2, .pointer (some ⟨g5, 0, none⟩)), (3, .pointer (some ⟨g10, 0, none⟩))]) (by kernel_rfl)
  rcases Bool.eq_false_or_eq_true (t15) with hb18 | hb18
  · have ha := ha.lit hb18
    have H := ite_t hb18 H
    refine qv (v := .agg (cS_api_Tunnel a0 ao1 cap1).toArray) ha rfl rfl rfl (fun w' hs => ldA_run (cs := (cS_api_Tunnel a0 ao1 cap1)) ha rfl (by kernel_rfl) (cells_sub (fun j v hv => hs.keep (hE7 j v hv)) (all := (cS_api_Tunnel a0 ao1 cap1)) [] [] (by kernel_rfl))) fun a ha => ?_
    refine qv (v := .agg (cS_api_Tunnel a1 ao2 cap2).toArray) ha rfl rfl rfl (fun w' hs => ldA_run (cs := (cS_api_Tunnel a1 ao2 cap2)) ha rfl (by kernel_rfl) (cells_sub (fun j v hv => hs.keep (hE12 j v hv)) (all := (cS_api_Tunnel a1 ao2 cap2)) [] [] (by kernel_rfl))) fun a ha => ?_
    obtain ⟨t19, H19, H⟩ := bind_some H
    refine qc (.bool t19) ha (by rfl) (by kernel_rfl) (by rfl) (by rfl) (by rfl) (fun w' hs => (pmsi_Same.walk w' _ (hM.chg hs) a0 ao1 cap1 (RSl.chg f1 hs (Ok.nil _ _) (Ok.refl _ _)) a1 ao2 cap2 (RSl.chg f2 hs (Ok.nil _ _) (Ok.refl _ _)) _ H19).mono fun v w'' ⟨hv, hc, _⟩ => ⟨hv, hs.trans hc (Ok.nil _ _)⟩) fun a ha => ?_
    refine qv (v := .agg (cS_api_Tunnel a0 ao1 cap1).toArray) ha rfl rfl rfl (fun w' hs => ldA_run (cs := (cS_api_Tunnel a0 ao1 cap1)) ha rfl (by kernel_rfl) (cells_sub (fun j v hv => hs.keep (hE7 j v hv)) (all := (cS_api_Tunnel a0 ao1 cap1)) [] [] (by kernel_rfl))) fun a ha => ?_
    refine qv (v := .agg (cS_api_Tunnel a1 ao2 cap2).toArray) ha rfl rfl rfl (fun w' hs => ldA_run (cs := (cS_api_Tunnel a1 ao2 cap2)) ha rfl (by kernel_rfl) (cells_sub (fun j v hv => hs.keep (hE12 j v hv)) (all := (cS_api_Tunnel a1 ao2 cap2)) [] [] (by kernel_rfl))) fun a ha => ?_
    obtain ⟨t20, H20, H⟩ := bind_some H
    refine qc (.bool t20) ha (by rfl) (by kernel_rfl) (by rfl) (by rfl) (by rfl) (fun w' hs => (vineryref06_Same.walk w' _ (hM.chg hs) a0 ao1 cap1 (RSl.chg f1 hs (Ok.nil _ _) (Ok.refl _ _)) a1 ao2 cap2 (RSl.chg f2 hs (Ok.nil _ _) (Ok.refl _ _)) _ H20).mono fun v w'' ⟨hv, hc, _⟩ => ⟨hv, hs.trans hc (Ok.nil _ _)⟩) fun a ha => ?_
    refine qp 0 (.bool (t19 == t20)) ha rfl rfl rfl (by kernel_rfl) fun a ha => ?_
    refine qp 3 (.bool (t19 == t20)) ha rfl rfl rfl (by kernel_rfl) fun a ha => ?_
    refine qp 0 (.bool (t19 == t20)) ha rfl rfl rfl (by kernel_rfl) fun a ha => ?_
    refine wpQuiet_nil ?_
    intro w21 hc22
    have o1 : Ok [] (M) w15.heap.size := Ok.nil _ _
    have o2 : Ok (M) (M) w15.heap.size := (fun _ h => .inl (h))
    have f1 := f1.chg hc22 o1 o2
    have f2 := f2.chg hc22 o1 o2
    have q_hn8 : g5 ∉ M := fun h => (o2 g5 h).elim hn8 (fun h => absurd (lt_cell (hE7 0 _ rfl)) (Nat.not_lt.2 h))
    have hE7 : ∀ j v, (cS_api_Tunnel a0 ao1 cap1)[j]? = some v → w21.cell? ⟨g5, 0 + j, none⟩ = some v := fun j v hv => (cell_keep hc22 o1 hn8 (hE7 j v hv))
    have hn8 := q_hn8
    have q_hn13 : g10 ∉ M := fun h => (o2 g10 h).elim hn13 (fun h => absurd (lt_cell (hE12 0 _ rfl)) (Nat.not_lt.2 h))
    have hE12 : ∀ j v, (cS_api_Tunnel a1 ao2 cap2)[j]? = some v → w21.cell? ⟨g10, 0 + j, none⟩ = some v := fun j v hv => (cell_keep hc22 o1 hn13 (hE12 j v hv))
    have hn13 := q_hn13
    have hM : MS (M) w21 := (fun x h => hM.chg hc22 x (h))
    have hC := hC.trans hc22 (Ok.nil _ _)
    refine wpl_end ?_
    obtain rfl := Option.some.inj H
    exact J17 _ _ (ha.sel (by kernel_rfl)) hC hM
  · have ha := ha.lit hb18
    have H := ite_f hb18 H
    refine qo ha rfl rfl rfl fun a ha => ?_
    refine qo ha rfl rfl rfl fun a ha => ?_
    refine qo ha rfl rfl rfl fun a ha => ?_
    refine qo ha rfl rfl rfl fun a ha => ?_
    refine qo ha rfl rfl rfl fun a ha => ?_
    refine qo ha rfl rfl rfl fun a ha => ?_
    refine qo ha rfl rfl rfl fun a ha => ?_
    refine qp 4 (.bool false) ha rfl rfl rfl (by kernel_rfl) fun a ha => ?_
    refine qp 0 (.bool false) ha rfl rfl rfl (by kernel_rfl) fun a ha => ?_
    refine wpQuiet_nil ?_
    intro w23 hc24
    have o1 : Ok [] (M) w15.heap.size := Ok.nil _ _
    have o2 : Ok (M) (M) w15.heap.size := (fun _ h => .inl (h))
    have f1 := f1.chg hc24 o1 o2
    have f2 := f2.chg hc24 o1 o2
    have q_hn8 : g5 ∉ M := fun h => (o2 g5 h).elim hn8 (fun h => absurd (lt_cell (hE7 0 _ rfl)) (Nat.not_lt.2 h))
    have hE7 : ∀ j v, (cS_api_Tunnel a0 ao1 cap1)[j]? = some v → w23.cell? ⟨g5, 0 + j, none⟩ = some v := fun j v hv => (cell_keep hc24 o1 hn8 (hE7 j v hv))
    have hn8 := q_hn8
    have q_hn13 : g10 ∉ M := fun h => (o2 g10 h).elim hn13 (fun h => absurd (lt_cell (hE12 0 _ rfl)) (Nat.not_lt.2 h))
    have hE12 : ∀ j v, (cS_api_Tunnel a1 ao2 cap2)[j]? = some v → w23.cell? ⟨g10, 0 + j, none⟩ = some v := fun j v hv => (cell_keep hc24 o1 hn13 (hE12 j v hv))
    have hn13 := q_hn13
    have hM : MS (M) w23 := (fun x h => hM.chg hc24 x (h))
    have hC := hC.trans hc24 (Ok.nil _ _)
    refine wpl_end ?_
    obtain rfl := Option.some.inj H
    exact J17 _ _ (ha.sel (by kernel_rfl)) hC hM
end Go.E
