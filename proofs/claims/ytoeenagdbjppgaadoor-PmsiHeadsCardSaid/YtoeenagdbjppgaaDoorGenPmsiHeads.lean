/- What the functions that the law reaches compute, and the walks that show it. -/
import Derived.Test.YtoeenagdbjppgaaDoorEngM
import Derived.Test.YtoeenagdbjppgaaDoorProg
import Derived.Test.YtoeenagdbjppgaaDoorGenPmsiHeadsP1
set_option linter.unusedVariables false
set_option linter.unusedSimpArgs false
namespace Go.E
open Go.RowKit Go.Proofs
def vinerylaw06_PmsiHeads.f (k : Nat) (a0 : S_api_Tunnel) : Option (Bool) := (vinerylaw06_small.f k ).bind fun t9 => (pmsi_Bytes.f k a0).bind fun t11 => (if (t11.2 != (0 : Int)) = true then ((if t9 = true then (if (t11.2 == (1 : Int)) = true then (if ((t11.1.length : Int) == (0 : Int)) = true then (pmsi_Right.f k a0).bind fun t21 => some (!t21 : Bool) else some (false : Bool)) else some (false : Bool)) else some (false : Bool))).bind fun s17 => some ((s17 : Bool)) else (if (decide ((t11.1.length : Int) < (5 : Int))) = true then some ((false : Bool)) else (if 0 ≤ (2 : Int) ∧ (2 : Int) < (t11.1.length : Int) then (if 0 ≤ (3 : Int) ∧ (3 : Int) < (t11.1.length : Int) then (if 0 ≤ (4 : Int) ∧ (4 : Int) < (t11.1.length : Int) then ((if t9 = true then (if 0 ≤ (0 : Int) ∧ (0 : Int) < (t11.1.length : Int) then (if (((rd t11.1 (0 : Int)) == (1 : Int)) == a0.Leaf) = true then (if 0 ≤ (0 : Int) ∧ (0 : Int) < (t11.1.length : Int) then (if (decide ((rd t11.1 (0 : Int)) ≤ (1 : Int))) = true then (if 0 ≤ (1 : Int) ∧ (1 : Int) < (t11.1.length : Int) then (if ((IntKind.i64.wrap (rd t11.1 (1 : Int))) == a0.Kind) = true then (if ((IntKind.i64.wrap ((IntKind.i64.wrap ((IntKind.i64.wrap ((IntKind.i64.wrap (rd t11.1 (2 : Int))) * 2 ^ (min (16 : Int).toNat IntKind.i64.bits))) + (IntKind.i64.wrap ((IntKind.i64.wrap (rd t11.1 (3 : Int))) * 2 ^ (min (8 : Int).toNat IntKind.i64.bits))))) + (IntKind.i64.wrap (rd t11.1 (4 : Int))))) == (IntKind.i64.wrap ((16 : Int) * a0.Label))) = true then (if (a0.Kind != (0 : Int)) = true then some (true : Bool) else some ((t11.1.length : Int) == (5 : Int) : Bool)) else some (false : Bool)) else some (false : Bool)) else none) else some (false : Bool)) else none) else some (false : Bool)) else none) else some (false : Bool))).bind fun s51 => some ((s51 : Bool)) else none) else none) else none)))
set_option maxRecDepth 100000 in
theorem vinerylaw06_PmsiHeads.walk (w : World) (M : List Nat) (hM : MS M w) (a0 : S_api_Tunnel) (ao1 : Option Addr) (cap1 : Nat) (f1 : RSl (rInt .u8) 5 w M ao1 cap1 a0.Id) (k : Nat) (r : Bool) (H : vinerylaw06_PmsiHeads.f k a0 = some r) :
    To Tryd.prog 7 [.agg (cS_api_Tunnel a0 ao1 cap1).toArray] w fun v w' => v = .bool r ∧ Chg [] w w' ∧ MS (M) w' := by
  unfold vinerylaw06_PmsiHeads.f at H
  refine ent Tryd.func7 rfl [(0, .agg (cS_api_Tunnel a0 ao1 cap1).toArray)] rfl (by rfl) fun a ha => ?_
  have hC : Chg [] w w := Chg.refl _ _
  refine wp_seq_k fun K2 hK2 => ?_
  refine wp_region_lit ?_
  refine bx (cs := (cS_api_Tunnel a0 ao1 cap1)) ha rfl rfl rfl rfl rfl fun a w3 g4 hN5 ha => ?_
  have hn7 := hN5.notin hM
  have o1 : Ok [] (M) w.heap.size := Ok.nil _ _
  have o2 : Ok (M) (M) w.heap.size := (fun _ h => .inl (h))
  have f1 := f1.chg hN5.chg o1 o2
  have hM : MS (M) w3 := (fun x h => hM.chg hN5.chg x (h))
  have hC := hC.trans hN5.chg (Ok.nil _ _)
  have hE6 : ∀ j v, (cS_api_Tunnel a0 ao1 cap1)[j]? = some v → w3.cell? ⟨g4, 0 + j, none⟩ = some v := Box.cells (New.box hN5)
  refine seg ha 1 [(1, .pointer (some ⟨g4, 0, none⟩))] (by kernel_rfl) fun a ha => ?_
  refine hK2 _ _ ?_; try clear hK2 K2
  refine wp_seq_k fun K8 hK8 => ?_
  refine wp_region_lit ?_
  obtain ⟨t9, H9, H⟩ := bind_some H
  refine cl ha (by rfl) (by kernel_rfl) (by rfl) (by rfl) (by rfl) (vinerylaw06_small.walk w3 _ hM  k _ H9) ?_
  rintro _ w9 ⟨rfl, hc9, hMn⟩ a ha
  have o1 : Ok [] (M) w3.heap.size := Ok.nil _ _
  have o2 : Ok (M) (M) w3.heap.size := (fun _ h => .inl (h))
  have f1 := f1.chg hc9 o1 o2
  have q_hn7 : g4 ∉ M := fun h => (o2 g4 h).elim hn7 (fun h => absurd (lt_cell (hE6 0 _ rfl)) (Nat.not_lt.2 h))
  have hE6 : ∀ j v, (cS_api_Tunnel a0 ao1 cap1)[j]? = some v → w9.cell? ⟨g4, 0 + j, none⟩ = some v := fun j v hv => (cell_keep hc9 o1 hn7 (hE6 j v hv))
  have hn7 := q_hn7
  have hM : MS (M) w9 := (fun x h => hM.chg hc9 x (h))
  have hC := hC.trans hc9 (Ok.nil _ _)
  refine seg ha 1 [(1, .pointer (some ⟨g4, 0, none⟩)), (3, .bool t9)] (by kernel_rfl) fun a ha => ?_
  refine hK8 _ _ ?_; try clear hK8 K8
  refine wp_seq_k fun K10 hK10 => ?_
  refine wp_region_lit ?_
  refine ldA (cs := (cS_api_Tunnel a0 ao1 cap1)) ha rfl (by kernel_rfl) rfl rfl rfl (cells_sub hE6 (all := (cS_api_Tunnel a0 ao1 cap1)) [] [] (by kernel_rfl)) fun a ha => ?_
  obtain ⟨t11, H11, H⟩ := bind_some H
  refine cl ha (by rfl) (by kernel_rfl) (by rfl) (by rfl) (by rfl) (pmsi_Bytes.walk w9 _ hM a0 ao1 cap1 f1 k _ H11) ?_
  rintro _ w11 ⟨ao12, cap12, rfl, f12, ne_i12, hc11, hMn⟩ a ha
  have o1 : Ok [] (M) w9.heap.size := Ok.nil _ _
  have o2 : Ok (blkL ao12 ++ (M)) (M) w9.heap.size := (Ok.app (fun x h => .inr (ne_i12 x h)) (fun _ h => .inl (h)))
  have f1 := f1.chg hc11 o1 o2
  have q_hn7 : g4 ∉ blkL ao12 ++ (M) := fun h => (o2 g4 h).elim hn7 (fun h => absurd (lt_cell (hE6 0 _ rfl)) (Nat.not_lt.2 h))
  have hE6 : ∀ j v, (cS_api_Tunnel a0 ao1 cap1)[j]? = some v → w11.cell? ⟨g4, 0 + j, none⟩ = some v := fun j v hv => (cell_keep hc11 o1 hn7 (hE6 j v hv))
  have hn7 := q_hn7
  have nw : Ok (blkL ao12) (M) w9.heap.size := (fun x h => .inr (ne_i12 x h))
  have p_i12_M : ∀ x ∈ blkL ao12, x ∉ M := fun x hx hy => absurd (hM x (hy)) (Nat.not_lt.2 (ne_i12 x hx))
  have e_i12 : ∀ x ∈ blkL ao12, w.heap.size ≤ x := fun x hx => Nat.le_trans hC.size (ne_i12 x hx)
  have hM : MS (blkL ao12 ++ (M)) w11 := (MS.app (fun x h => hMn x (ml h)) (fun x h => hM.chg hc11 x (h)))
  have hC := hC.trans hc11 (Ok.nil _ _)
  refine seg ha 5 [(1, .pointer (some ⟨g4, 0, none⟩)), (3, .bool t9), (4, .slice ao12 t11.1.length cap12), (5, .int .i64 t11.2)] (by kernel_rfl) fun a ha => ?_
  refine hK10 _ _ ?_; try clear hK10 K10
  refine wp_seq_k fun K13 hK13 => ?_
  refine wp_seq_k fun K14 hK14 => ?_
  refine wp_region_lit ?_
  refine seg ha 2 [(1, .pointer (some ⟨g4, 0, none⟩)), (3, .bool t9), (4, .slice ao12 t11.1.length cap12), (5, .int .i64 t11.2), (14, .bool (t11.2 != (0 : Int)))] (by kernel_rfl) fun a ha => ?_
  refine hK14 _ _ ?_; try clear hK14 K14
  refine cnd ha rfl (fun hc15 => ?_) (fun hc15 => ?_)
  · have H := ite_t hc15 H
    refine wp_seq_k fun K16 hK16 => ?_
    refine wp_region_lit ?_
    obtain ⟨s17, H17, H⟩ := bind_some H
    have J17 : ∀ (a : Act) (w17 : World), Has a Tryd.f7.ntmps [(2, .bool s17)] → (Chg [] w w17) → (MS (M) w17) → K16 a w17 := by
      intro a w17 ha hC hM
      refine hK16 _ _ ?_; try clear hK16 K16
      refine wp_ret ?_
      try simp only [Exit.then, Exit.inBlock]
      obtain rfl := Option.some.inj H
      refine rt1 ha rfl rfl ?_
      exact ⟨rfl, hC, hM⟩
    have H := H17
    refine seg ha 2 [(16, .bool t9), (1, .pointer (some ⟨g4, 0, none⟩)), (4, .slice ao12 t11.1.length cap12), (5, .int .i64 t11.2)] (by kernel_rfl) fun a ha => ?_
    rcases Bool.eq_false_or_eq_true (t9) with hb18 | hb18
    · have ha := ha.lit hb18
      have H := ite_t hb18 H
      refine sgh ha 4 [2, 2, 3, 0] [(20, .bool (t11.2 == (1 : Int))), (1, .pointer (some ⟨g4, 0, none⟩)), (4, .slice ao12 t11.1.length cap12)] (by kernel_rfl) fun a ha => ?_
      rcases Bool.eq_false_or_eq_true (t11.2 == (1 : Int)) with hb19 | hb19
      · have ha := ha.lit hb19
        have H := ite_t hb19 H
        refine sgh ha 5 [2, 2, 2, 3, 0] [(25, .bool ((t11.1.length : Int) == (0 : Int))), (1, .pointer (some ⟨g4, 0, none⟩))] (by kernel_rfl) fun a ha => ?_
        rcases Bool.eq_false_or_eq_true ((t11.1.length : Int) == (0 : Int)) with hb20 | hb20
        · have ha := ha.lit hb20
          have H := ite_t hb20 H
          refine ldA (cs := (cS_api_Tunnel a0 ao1 cap1)) ha rfl (by kernel_rfl) rfl rfl rfl (cells_sub hE6 (all := (cS_api_Tunnel a0 ao1 cap1)) [] [] (by kernel_rfl)) fun a ha => ?_
          obtain ⟨t21, H21, H⟩ := bind_some H
          refine cl ha (by rfl) (by kernel_rfl) (by rfl) (by rfl) (by rfl) (pmsi_Right.walk w11 _ hM a0 ao1 cap1 f1 k _ H21) ?_
          rintro _ w21 ⟨rfl, hc21, hMn⟩ a ha
          have o1 : Ok [] (blkL ao12 ++ (M)) w11.heap.size := Ok.nil _ _
          have o2 : Ok (blkL ao12 ++ (M)) (blkL ao12 ++ (M)) w11.heap.size := (Ok.app (fun _ h => .inl (ml h)) (fun _ h => .inl (mr (h))))
          have f1 := f1.chg hc21 o1 o2
          have hM : MS (blkL ao12 ++ (M)) w21 := (MS.app (fun x h => hM.chg hc21 x (ml h)) (fun x h => hM.chg hc21 x (mr (h))))
          have hC := hC.trans hc21 (Ok.nil _ _)
          refine sgh ha 3 [2, 3, 0] [(2, .bool (!t21))] (by kernel_rfl) fun a ha => ?_
          obtain rfl := Option.some.inj H
          have o1 : Ok [] (blkL ao12 ++ (M)) w21.heap.size := Ok.nil _ _
          have o2 : Ok (M) (blkL ao12 ++ (M)) w21.heap.size := (fun _ h => .inl (mr (h)))
          have hM : MS (M) w21 := (fun x h => hM.chg (Chg.refl [] _) x (mr (h)))
          have hC := hC.trans (Chg.refl [] _) (Ok.nil _ _)
          exact J17 _ _ (ha.sel (by kernel_rfl)) hC hM
        · have ha := ha.lit hb20
          have H := ite_f hb20 H
          refine sgh ha 5 [1, 1, 1, 4, 0] [(2, .bool false)] (by kernel_rfl) fun a ha => ?_
          obtain rfl := Option.some.inj H
          have o1 : Ok [] (blkL ao12 ++ (M)) w11.heap.size := Ok.nil _ _
          have o2 : Ok (M) (blkL ao12 ++ (M)) w11.heap.size := (fun _ h => .inl (mr (h)))
          have hM : MS (M) w11 := (fun x h => hM.chg (Chg.refl [] _) x (mr (h)))
          have hC := hC.trans (Chg.refl [] _) (Ok.nil _ _)
          exact J17 _ _ (ha.sel (by kernel_rfl)) hC hM
      · have ha := ha.lit hb19
        have H := ite_f hb19 H
        refine sgh ha 10 [1, 1, 1, 4, 0, 1, 1, 1, 4, 0] [(2, .bool false)] (by kernel_rfl) fun a ha => ?_
        obtain rfl := Option.some.inj H
        have o1 : Ok [] (blkL ao12 ++ (M)) w11.heap.size := Ok.nil _ _
        have o2 : Ok (M) (blkL ao12 ++ (M)) w11.heap.size := (fun _ h => .inl (mr (h)))
        have hM : MS (M) w11 := (fun x h => hM.chg (Chg.refl [] _) x (mr (h)))
        have hC := hC.trans (Chg.refl [] _) (Ok.nil _ _)
        exact J17 _ _ (ha.sel (by kernel_rfl)) hC hM
    · have ha := ha.lit hb18
      have H := ite_f hb18 H
      refine sgh ha 14 [1, 1, 4, 0, 1, 1, 1, 4, 0, 1, 1, 1, 4, 0] [(2, .bool false)] (by kernel_rfl) fun a ha => ?_
      obtain rfl := Option.some.inj H
      have o1 : Ok [] (blkL ao12 ++ (M)) w11.heap.size := Ok.nil _ _
      have o2 : Ok (M) (blkL ao12 ++ (M)) w11.heap.size := (fun _ h => .inl (mr (h)))
      have hM : MS (M) w11 := (fun x h => hM.chg (Chg.refl [] _) x (mr (h)))
      have hC := hC.trans (Chg.refl [] _) (Ok.nil _ _)
      exact J17 _ _ (ha.sel (by kernel_rfl)) hC hM
  · have H := ite_f hc15 H
    refine wp_skip ?_
    refine hK13 _ _ ?_; try clear hK13 K13
    refine wp_seq_k fun K22 hK22 => ?_
    refine wp_seq_k fun K23 hK23 => ?_
    refine wp_region_lit ?_
    refine seg ha 3 [(1, .pointer (some ⟨g4, 0, none⟩)), (3, .bool t9), (4, .slice ao12 t11.1.length cap12), (32, .bool (decide ((t11.1.length : Int) < (5 : Int))))] (by kernel_rfl) fun a ha => ?_
    refine hK23 _ _ ?_; try clear hK23 K23
    refine cnd ha rfl (fun hc24 => ?_) (fun hc24 => ?_)
    · have H := ite_t hc24 H
      refine wp_seq_k fun K25 hK25 => ?_
      refine wp_region_lit ?_
      refine seg ha 1 [(2, .bool false)] (by kernel_rfl) fun a ha => ?_
      refine hK25 _ _ ?_; try clear hK25 K25
      refine wp_ret ?_
      try simp only [Exit.then, Exit.inBlock]
      have o1 : Ok [] (blkL ao12 ++ (M)) w11.heap.size := Ok.nil _ _
      have o2 : Ok (M) (blkL ao12 ++ (M)) w11.heap.size := (fun _ h => .inl (mr (h)))
      have hM : MS (M) w11 := (fun x h => hM.chg (Chg.refl [] _) x (mr (h)))
      have hC := hC.trans (Chg.refl [] _) (Ok.nil _ _)
      obtain rfl := Option.some.inj H
      refine rt1 ha rfl rfl ?_
      exact ⟨rfl, hC, hM⟩
    · have H := ite_f hc24 H
      refine wp_skip ?_
      refine hK22 _ _ ?_; try clear hK22 K22
      refine wp_seq_k fun K26 hK26 => ?_
      refine drq0 (fun w' => Chg [] w11 w') (by kernel_rfl) (by kernel_rfl) (fun _ h => h) ?_
      refine qp 0 (.slice ao12 t11.1.length cap12) ha rfl rfl rfl (by kernel_rfl) fun a ha => ?_
      obtain ⟨⟨hx27, hx27'⟩, H⟩ := ite_some H
      obtain ⟨ge28, oe290, cs30, hx27eq, hn33, hR31, hE32⟩ := RSl.elem (Own.toRSl (M' := []) f12 (Ok.nil _ _) (fun _ _ h => nomatch h)) (Int.toNat (2 : Int)) (by omega)
      rw [rd_get] at hR31
      obtain rfl := hR31
      have hE32 : ∀ j v, ([.int .u8 (rd t11.1 (2 : Int))] : List Value)[j]? = some v → w11.cell? ⟨ge28, (oe290 + (Int.toNat (2 : Int)) * (rInt .u8).sz) + j, none⟩ = some v := hE32
      refine qv (v := .pointer (some ⟨ge28, (oe290 + (Int.toNat (2 : Int)) * (rInt .u8).sz), none⟩)) ha rfl rfl rfl (fun w' hs => ix_run (r := (rInt .u8)) (T := 5) ha (by kernel_rfl) (by kernel_rfl) (by rfl) (by rfl) hx27eq hx27 hx27') fun a ha => ?_
      refine qv (v := .int .u8 (rd t11.1 (2 : Int))) ha rfl rfl rfl (fun w' hs => ld_run ha rfl (by kernel_rfl) (hs.keep (hE32 0 (.int .u8 (rd t11.1 (2 : Int))) (by kernel_rfl)))) fun a ha => ?_
      refine qp 0 (.int .i64 (IntKind.i64.wrap (rd t11.1 (2 : Int)))) ha rfl rfl rfl (by kernel_rfl) fun a ha => ?_
      refine qp 0 (.int .i64 (IntKind.i64.wrap ((IntKind.i64.wrap (rd t11.1 (2 : Int))) * 2 ^ (min (16 : Int).toNat IntKind.i64.bits)))) ha rfl rfl rfl (by kernel_rfl) fun a ha => ?_
      refine qp 0 (.slice ao12 t11.1.length cap12) ha rfl rfl rfl (by kernel_rfl) fun a ha => ?_
      obtain ⟨⟨hx34, hx34'⟩, H⟩ := ite_some H
      obtain ⟨ge35, oe360, cs37, hx34eq, hn40, hR38, hE39⟩ := RSl.elem (Own.toRSl (M' := []) f12 (Ok.nil _ _) (fun _ _ h => nomatch h)) (Int.toNat (3 : Int)) (by omega)
      rw [rd_get] at hR38
      obtain rfl := hR38
      have hE39 : ∀ j v, ([.int .u8 (rd t11.1 (3 : Int))] : List Value)[j]? = some v → w11.cell? ⟨ge35, (oe360 + (Int.toNat (3 : Int)) * (rInt .u8).sz) + j, none⟩ = some v := hE39
      refine qv (v := .pointer (some ⟨ge35, (oe360 + (Int.toNat (3 : Int)) * (rInt .u8).sz), none⟩)) ha rfl rfl rfl (fun w' hs => ix_run (r := (rInt .u8)) (T := 5) ha (by kernel_rfl) (by kernel_rfl) (by rfl) (by rfl) hx34eq hx34 hx34') fun a ha => ?_
      refine qv (v := .int .u8 (rd t11.1 (3 : Int))) ha rfl rfl rfl (fun w' hs => ld_run ha rfl (by kernel_rfl) (hs.keep (hE39 0 (.int .u8 (rd t11.1 (3 : Int))) (by kernel_rfl)))) fun a ha => ?_
      refine qp 0 (.int .i64 (IntKind.i64.wrap (rd t11.1 (3 : Int)))) ha rfl rfl rfl (by kernel_rfl) fun a ha => ?_
      refine qp 0 (.int .i64 (IntKind.i64.wrap ((IntKind.i64.wrap (rd t11.1 (3 : Int))) * 2 ^ (min (8 : Int).toNat IntKind.i64.bits)))) ha rfl rfl rfl (by kernel_rfl) fun a ha => ?_
      refine qp 0 (.int .i64 (IntKind.i64.wrap ((IntKind.i64.wrap ((IntKind.i64.wrap (rd t11.1 (2 : Int))) * 2 ^ (min (16 : Int).toNat IntKind.i64.bits))) + (IntKind.i64.wrap ((IntKind.i64.wrap (rd t11.1 (3 : Int))) * 2 ^ (min (8 : Int).toNat IntKind.i64.bits)))))) ha rfl rfl rfl (by kernel_rfl) fun a ha => ?_
      refine qp 0 (.slice ao12 t11.1.length cap12) ha rfl rfl rfl (by kernel_rfl) fun a ha => ?_
      obtain ⟨⟨hx41, hx41'⟩, H⟩ := ite_some H
      obtain ⟨ge42, oe430, cs44, hx41eq, hn47, hR45, hE46⟩ := RSl.elem (Own.toRSl (M' := []) f12 (Ok.nil _ _) (fun _ _ h => nomatch h)) (Int.toNat (4 : Int)) (by omega)
      rw [rd_get] at hR45
      obtain rfl := hR45
      have hE46 : ∀ j v, ([.int .u8 (rd t11.1 (4 : Int))] : List Value)[j]? = some v → w11.cell? ⟨ge42, (oe430 + (Int.toNat (4 : Int)) * (rInt .u8).sz) + j, none⟩ = some v := hE46
      refine qv (v := .pointer (some ⟨ge42, (oe430 + (Int.toNat (4 : Int)) * (rInt .u8).sz), none⟩)) ha rfl rfl rfl (fun w' hs => ix_run (r := (rInt .u8)) (T := 5) ha (by kernel_rfl) (by kernel_rfl) (by rfl) (by rfl) hx41eq hx41 hx41') fun a ha => ?_
      refine qv (v := .int .u8 (rd t11.1 (4 : Int))) ha rfl rfl rfl (fun w' hs => ld_run ha rfl (by kernel_rfl) (hs.keep (hE46 0 (.int .u8 (rd t11.1 (4 : Int))) (by kernel_rfl)))) fun a ha => ?_
      refine qp 0 (.int .i64 (IntKind.i64.wrap (rd t11.1 (4 : Int)))) ha rfl rfl rfl (by kernel_rfl) fun a ha => ?_
      refine qp 0 (.int .i64 (IntKind.i64.wrap ((IntKind.i64.wrap ((IntKind.i64.wrap ((IntKind.i64.wrap (rd t11.1 (2 : Int))) * 2 ^ (min (16 : Int).toNat IntKind.i64.bits))) + (IntKind.i64.wrap ((IntKind.i64.wrap (rd t11.1 (3 : Int))) * 2 ^ (min (8 : Int).toNat IntKind.i64.bits))))) + (IntKind.i64.wrap (rd t11.1 (4 : Int)))))) ha rfl rfl rfl (by kernel_rfl) fun a ha => ?_
      refine qp 0 (.int .i64 (IntKind.i64.wrap ((IntKind.i64.wrap ((IntKind.i64.wrap ((IntKind.i64.wrap (rd t11.1 (2 : Int))) * 2 ^ (min (16 : Int).toNat IntKind.i64.bits))) + (IntKind.i64.wrap ((IntKind.i64.wrap (rd t11.1 (3 : Int))) * 2 ^ (min (8 : Int).toNat IntKind.i64.bits))))) + (IntKind.i64.wrap (rd t11.1 (4 : Int)))))) ha rfl rfl rfl (by kernel_rfl) fun a ha => ?_
      refine wpQuiet_nil ?_
      intro w48 hc49
      have o1 : Ok [] (blkL ao12 ++ (M)) w11.heap.size := Ok.nil _ _
      have o2 : Ok (blkL ao12 ++ (M)) (blkL ao12 ++ (M)) w11.heap.size := (Ok.app (fun _ h => .inl (ml h)) (fun _ h => .inl (mr (h))))
      have f1 := f1.chg hc49 o1 o2
      have f12 := f12.chg hc49 o1 o2 (fun _ _ h => nomatch h) (fun _ h => ml h)
      have q_hn7 : g4 ∉ blkL ao12 ++ (M) := fun h => (o2 g4 h).elim hn7 (fun h => absurd (lt_cell (hE6 0 _ rfl)) (Nat.not_lt.2 h))
      have hE6 : ∀ j v, (cS_api_Tunnel a0 ao1 cap1)[j]? = some v → w48.cell? ⟨g4, 0 + j, none⟩ = some v := fun j v hv => (cell_keep hc49 o1 hn7 (hE6 j v hv))
      have hn7 := q_hn7
      have hM : MS (blkL ao12 ++ (M)) w48 := (MS.app (fun x h => hM.chg hc49 x (ml h)) (fun x h => hM.chg hc49 x (mr (h))))
      have hC := hC.trans hc49 (Ok.nil _ _)
      refine wpl_end ?_
      refine hK26 _ _ ?_; try clear hK26 K26
      refine wp_seq_k fun K50 hK50 => ?_
      refine drq0 (fun w' => Chg [] w48 w') (by kernel_rfl) (by kernel_rfl) (fun _ h => h) ?_
      obtain ⟨s51, H51, H⟩ := bind_some H
      have J51 : ∀ (a : Act) (w51 : World), Has a Tryd.f7.ntmps [(2, .bool s51)] → (Chg [] w w51) → (MS (M) w51) → K50 a w51 := by
        intro a w51 ha hC hM
        refine hK50 _ _ ?_; try clear hK50 K50
        refine wp_ret ?_
        try simp only [Exit.then, Exit.inBlock]
        obtain rfl := Option.some.inj H
        refine rt1 ha rfl rfl ?_
        exact ⟨rfl, hC, hM⟩
      have H := H51
      refine qp 0 (.bool t9) ha rfl rfl rfl (by kernel_rfl) fun a ha => ?_
      refine qp 0 (.bool t9) ha rfl rfl rfl (by kernel_rfl) fun a ha => ?_
      have ha := ha.sel (env' := [(50, .bool t9), (1, .pointer (some ⟨g4, 0, none⟩)), (4, .slice ao12 t11.1.length cap12), (6, .int .i64 (IntKind.i64.wrap ((IntKind.i64.wrap ((IntKind.i64.wrap ((IntKind.i64.wrap (rd t11.1 (2 : Int))) * 2 ^ (min (16 : Int).toNat IntKind.i64.bits))) + (IntKind.i64.wrap ((IntKind.i64.wrap (rd t11.1 (3 : Int))) * 2 ^ (min (8 : Int).toNat IntKind.i64.bits))))) + (IntKind.i64.wrap (rd t11.1 (4 : Int))))))]) (by kernel_rfl)
      rcases Bool.eq_false_or_eq_true (t9) with hb52 | hb52
      · have ha := ha.lit hb52
        have H := ite_t hb52 H
        refine qp 0 (.slice ao12 t11.1.length cap12) ha rfl rfl rfl (by kernel_rfl) fun a ha => ?_
        obtain ⟨⟨hx53, hx53'⟩, H⟩ := ite_some H
        obtain ⟨ge54, oe550, cs56, hx53eq, hn59, hR57, hE58⟩ := RSl.elem (Own.toRSl (M' := []) f12 (Ok.nil _ _) (fun _ _ h => nomatch h)) (Int.toNat (0 : Int)) (by omega)
        rw [rd_get] at hR57
        obtain rfl := hR57
        have hE58 : ∀ j v, ([.int .u8 (rd t11.1 (0 : Int))] : List Value)[j]? = some v → w48.cell? ⟨ge54, (oe550 + (Int.toNat (0 : Int)) * (rInt .u8).sz) + j, none⟩ = some v := hE58
        refine qv (v := .pointer (some ⟨ge54, (oe550 + (Int.toNat (0 : Int)) * (rInt .u8).sz), none⟩)) ha rfl rfl rfl (fun w' hs => ix_run (r := (rInt .u8)) (T := 5) ha (by kernel_rfl) (by kernel_rfl) (by rfl) (by rfl) hx53eq hx53 hx53') fun a ha => ?_
        refine qv (v := .int .u8 (rd t11.1 (0 : Int))) ha rfl rfl rfl (fun w' hs => ld_run ha rfl (by kernel_rfl) (hs.keep (hE58 0 (.int .u8 (rd t11.1 (0 : Int))) (by kernel_rfl)))) fun a ha => ?_
        refine qp 0 (.bool ((rd t11.1 (0 : Int)) == (1 : Int))) ha rfl rfl rfl (by kernel_rfl) fun a ha => ?_
        refine qp 0 (.pointer (some ⟨g4, 0, none⟩)) ha rfl rfl rfl (by kernel_rfl) fun a ha => ?_
        refine qv (v := .bool a0.Leaf) ha rfl rfl rfl (fun w' hs => ld_run ha rfl (by kernel_rfl) (hs.keep (hE6 0 (.bool a0.Leaf) (by kernel_rfl)))) fun a ha => ?_
        refine qp 0 (.bool (((rd t11.1 (0 : Int)) == (1 : Int)) == a0.Leaf)) ha rfl rfl rfl (by kernel_rfl) fun a ha => ?_
        refine qp 3 (.bool (((rd t11.1 (0 : Int)) == (1 : Int)) == a0.Leaf)) ha rfl rfl rfl (by kernel_rfl) fun a ha => ?_
        refine qp 0 (.bool (((rd t11.1 (0 : Int)) == (1 : Int)) == a0.Leaf)) ha rfl rfl rfl (by kernel_rfl) fun a ha => ?_
        have ha := ha.sel (env' := [(59, .bool (((rd t11.1 (0 : Int)) == (1 : Int)) == a0.Leaf)), (1, .pointer (some ⟨g4, 0, none⟩)), (4, .slice ao12 t11.1.length cap12), (6, .int .i64 (IntKind.i64.wrap ((IntKind.i64.wrap ((IntKind.i64.wrap ((IntKind.i64.wrap (rd t11.1 (2 : Int))) * 2 ^ (min (16 : Int).toNat IntKind.i64.bits))) + (IntKind.i64.wrap ((IntKind.i64.wrap (rd t11.1 (3 : Int))) * 2 ^ (min (8 : Int).toNat IntKind.i64.bits))))) + (IntKind.i64.wrap (rd t11.1 (4 : Int))))))]) (by kernel_rfl)
        rcases Bool.eq_false_or_eq_true (((rd t11.1 (0 : Int)) == (1 : Int)) == a0.Leaf) with hb60 | hb60
        · have ha := ha.lit hb60
          have H := ite_t hb60 H
          refine qp 0 (.slice ao12 t11.1.length cap12) ha rfl rfl rfl (by kernel_rfl) fun a ha => ?_
          obtain ⟨⟨hx61, hx61'⟩, H⟩ := ite_some H
          obtain ⟨ge62, oe630, cs64, hx61eq, hn67, hR65, hE66⟩ := RSl.elem (Own.toRSl (M' := []) f12 (Ok.nil _ _) (fun _ _ h => nomatch h)) (Int.toNat (0 : Int)) (by omega)
          rw [rd_get] at hR65
          obtain rfl := hR65
          have hE66 : ∀ j v, ([.int .u8 (rd t11.1 (0 : Int))] : List Value)[j]? = some v → w48.cell? ⟨ge62, (oe630 + (Int.toNat (0 : Int)) * (rInt .u8).sz) + j, none⟩ = some v := hE66
          refine qv (v := .pointer (some ⟨ge62, (oe630 + (Int.toNat (0 : Int)) * (rInt .u8).sz), none⟩)) ha rfl rfl rfl (fun w' hs => ix_run (r := (rInt .u8)) (T := 5) ha (by kernel_rfl) (by kernel_rfl) (by rfl) (by rfl) hx61eq hx61 hx61') fun a ha => ?_
          refine qv (v := .int .u8 (rd t11.1 (0 : Int))) ha rfl rfl rfl (fun w' hs => ld_run ha rfl (by kernel_rfl) (hs.keep (hE66 0 (.int .u8 (rd t11.1 (0 : Int))) (by kernel_rfl)))) fun a ha => ?_
          refine qp 0 (.bool (decide ((rd t11.1 (0 : Int)) ≤ (1 : Int)))) ha rfl rfl rfl (by kernel_rfl) fun a ha => ?_
          refine qp 3 (.bool (decide ((rd t11.1 (0 : Int)) ≤ (1 : Int)))) ha rfl rfl rfl (by kernel_rfl) fun a ha => ?_
          refine qp 0 (.bool (decide ((rd t11.1 (0 : Int)) ≤ (1 : Int)))) ha rfl rfl rfl (by kernel_rfl) fun a ha => ?_
          have ha := ha.sel (env' := [(65, .bool (decide ((rd t11.1 (0 : Int)) ≤ (1 : Int)))), (1, .pointer (some ⟨g4, 0, none⟩)), (4, .slice ao12 t11.1.length cap12), (6, .int .i64 (IntKind.i64.wrap ((IntKind.i64.wrap ((IntKind.i64.wrap ((IntKind.i64.wrap (rd t11.1 (2 : Int))) * 2 ^ (min (16 : Int).toNat IntKind.i64.bits))) + (IntKind.i64.wrap ((IntKind.i64.wrap (rd t11.1 (3 : Int))) * 2 ^ (min (8 : Int).toNat IntKind.i64.bits))))) + (IntKind.i64.wrap (rd t11.1 (4 : Int))))))]) (by kernel_rfl)
          rcases Bool.eq_false_or_eq_true (decide ((rd t11.1 (0 : Int)) ≤ (1 : Int))) with hb68 | hb68
          · have ha := ha.lit hb68
            have H := ite_t hb68 H
            refine qp 0 (.slice ao12 t11.1.length cap12) ha rfl rfl rfl (by kernel_rfl) fun a ha => ?_
            obtain ⟨⟨hx69, hx69'⟩, H⟩ := ite_some H
            obtain ⟨ge70, oe710, cs72, hx69eq, hn75, hR73, hE74⟩ := RSl.elem (Own.toRSl (M' := []) f12 (Ok.nil _ _) (fun _ _ h => nomatch h)) (Int.toNat (1 : Int)) (by omega)
            rw [rd_get] at hR73
            obtain rfl := hR73
            have hE74 : ∀ j v, ([.int .u8 (rd t11.1 (1 : Int))] : List Value)[j]? = some v → w48.cell? ⟨ge70, (oe710 + (Int.toNat (1 : Int)) * (rInt .u8).sz) + j, none⟩ = some v := hE74
            refine qv (v := .pointer (some ⟨ge70, (oe710 + (Int.toNat (1 : Int)) * (rInt .u8).sz), none⟩)) ha rfl rfl rfl (fun w' hs => ix_run (r := (rInt .u8)) (T := 5) ha (by kernel_rfl) (by kernel_rfl) (by rfl) (by rfl) hx69eq hx69 hx69') fun a ha => ?_
            refine qv (v := .int .u8 (rd t11.1 (1 : Int))) ha rfl rfl rfl (fun w' hs => ld_run ha rfl (by kernel_rfl) (hs.keep (hE74 0 (.int .u8 (rd t11.1 (1 : Int))) (by kernel_rfl)))) fun a ha => ?_
            refine qp 0 (.int .i64 (IntKind.i64.wrap (rd t11.1 (1 : Int)))) ha rfl rfl rfl (by kernel_rfl) fun a ha => ?_
            refine qp 0 (.pointer (some ⟨g4, 0 + 1, none⟩)) ha rfl rfl rfl (by kernel_rfl) fun a ha => ?_
            refine qv (v := .int .i64 a0.Kind) ha rfl rfl rfl (fun w' hs => ld_run ha rfl (by kernel_rfl) (hs.keep (hE6 1 (.int .i64 a0.Kind) (by kernel_rfl)))) fun a ha => ?_
            refine qp 0 (.bool ((IntKind.i64.wrap (rd t11.1 (1 : Int))) == a0.Kind)) ha rfl rfl rfl (by kernel_rfl) fun a ha => ?_
            refine qp 3 (.bool ((IntKind.i64.wrap (rd t11.1 (1 : Int))) == a0.Kind)) ha rfl rfl rfl (by kernel_rfl) fun a ha => ?_
            refine qp 0 (.bool ((IntKind.i64.wrap (rd t11.1 (1 : Int))) == a0.Kind)) ha rfl rfl rfl (by kernel_rfl) fun a ha => ?_
            have ha := ha.sel (env' := [(74, .bool ((IntKind.i64.wrap (rd t11.1 (1 : Int))) == a0.Kind)), (1, .pointer (some ⟨g4, 0, none⟩)), (4, .slice ao12 t11.1.length cap12), (6, .int .i64 (IntKind.i64.wrap ((IntKind.i64.wrap ((IntKind.i64.wrap ((IntKind.i64.wrap (rd t11.1 (2 : Int))) * 2 ^ (min (16 : Int).toNat IntKind.i64.bits))) + (IntKind.i64.wrap ((IntKind.i64.wrap (rd t11.1 (3 : Int))) * 2 ^ (min (8 : Int).toNat IntKind.i64.bits))))) + (IntKind.i64.wrap (rd t11.1 (4 : Int))))))]) (by kernel_rfl)
            rcases Bool.eq_false_or_eq_true ((IntKind.i64.wrap (rd t11.1 (1 : Int))) == a0.Kind) with hb76 | hb76
            · have ha := ha.lit hb76
              have H := ite_t hb76 H
              refine qp 0 (.int .i64 (IntKind.i64.wrap ((IntKind.i64.wrap ((IntKind.i64.wrap ((IntKind.i64.wrap (rd t11.1 (2 : Int))) * 2 ^ (min (16 : Int).toNat IntKind.i64.bits))) + (IntKind.i64.wrap ((IntKind.i64.wrap (rd t11.1 (3 : Int))) * 2 ^ (min (8 : Int).toNat IntKind.i64.bits))))) + (IntKind.i64.wrap (rd t11.1 (4 : Int)))))) ha rfl rfl rfl (by kernel_rfl) fun a ha => ?_
              refine qp 0 (.pointer (some ⟨g4, 0 + 2, none⟩)) ha rfl rfl rfl (by kernel_rfl) fun a ha => ?_
              refine qv (v := .int .i64 a0.Label) ha rfl rfl rfl (fun w' hs => ld_run ha rfl (by kernel_rfl) (hs.keep (hE6 2 (.int .i64 a0.Label) (by kernel_rfl)))) fun a ha => ?_
              refine qp 0 (.int .i64 (IntKind.i64.wrap ((16 : Int) * a0.Label))) ha rfl rfl rfl (by kernel_rfl) fun a ha => ?_
              refine qp 0 (.bool ((IntKind.i64.wrap ((IntKind.i64.wrap ((IntKind.i64.wrap ((IntKind.i64.wrap (rd t11.1 (2 : Int))) * 2 ^ (min (16 : Int).toNat IntKind.i64.bits))) + (IntKind.i64.wrap ((IntKind.i64.wrap (rd t11.1 (3 : Int))) * 2 ^ (min (8 : Int).toNat IntKind.i64.bits))))) + (IntKind.i64.wrap (rd t11.1 (4 : Int))))) == (IntKind.i64.wrap ((16 : Int) * a0.Label)))) ha rfl rfl rfl (by kernel_rfl) fun a ha => ?_
              refine qp 3 (.bool ((IntKind.i64.wrap ((IntKind.i64.wrap ((IntKind.i64.wrap ((IntKind.i64.wrap (rd t11.1 (2 : Int))) * 2 ^ (min (16 : Int).toNat IntKind.i64.bits))) + (IntKind.i64.wrap ((IntKind.i64.wrap (rd t11.1 (3 : Int))) * 2 ^ (min (8 : Int).toNat IntKind.i64.bits))))) + (IntKind.i64.wrap (rd t11.1 (4 : Int))))) == (IntKind.i64.wrap ((16 : Int) * a0.Label)))) ha rfl rfl rfl (by kernel_rfl) fun a ha => ?_
              refine qp 0 (.bool ((IntKind.i64.wrap ((IntKind.i64.wrap ((IntKind.i64.wrap ((IntKind.i64.wrap (rd t11.1 (2 : Int))) * 2 ^ (min (16 : Int).toNat IntKind.i64.bits))) + (IntKind.i64.wrap ((IntKind.i64.wrap (rd t11.1 (3 : Int))) * 2 ^ (min (8 : Int).toNat IntKind.i64.bits))))) + (IntKind.i64.wrap (rd t11.1 (4 : Int))))) == (IntKind.i64.wrap ((16 : Int) * a0.Label)))) ha rfl rfl rfl (by kernel_rfl) fun a ha => ?_
              have ha := ha.sel (env' := [(81, .bool ((IntKind.i64.wrap ((IntKind.i64.wrap ((IntKind.i64.wrap ((IntKind.i64.wrap (rd t11.1 (2 : Int))) * 2 ^ (min (16 : Int).toNat IntKind.i64.bits))) + (IntKind.i64.wrap ((IntKind.i64.wrap (rd t11.1 (3 : Int))) * 2 ^ (min (8 : Int).toNat IntKind.i64.bits))))) + (IntKind.i64.wrap (rd t11.1 (4 : Int))))) == (IntKind.i64.wrap ((16 : Int) * a0.Label)))), (1, .pointer (some ⟨g4, 0, none⟩)), (4, .slice ao12 t11.1.length cap12)]) (by kernel_rfl)
              rcases Bool.eq_false_or_eq_true ((IntKind.i64.wrap ((IntKind.i64.wrap ((IntKind.i64.wrap ((IntKind.i64.wrap (rd t11.1 (2 : Int))) * 2 ^ (min (16 : Int).toNat IntKind.i64.bits))) + (IntKind.i64.wrap ((IntKind.i64.wrap (rd t11.1 (3 : Int))) * 2 ^ (min (8 : Int).toNat IntKind.i64.bits))))) + (IntKind.i64.wrap (rd t11.1 (4 : Int))))) == (IntKind.i64.wrap ((16 : Int) * a0.Label))) with hb77 | hb77
              · have ha := ha.lit hb77
                have H := ite_t hb77 H
                refine qp 0 (.pointer (some ⟨g4, 0 + 1, none⟩)) ha rfl rfl rfl (by kernel_rfl) fun a ha => ?_
                refine qv (v := .int .i64 a0.Kind) ha rfl rfl rfl (fun w' hs => ld_run ha rfl (by kernel_rfl) (hs.keep (hE6 1 (.int .i64 a0.Kind) (by kernel_rfl)))) fun a ha => ?_
                refine qp 0 (.bool (a0.Kind != (0 : Int))) ha rfl rfl rfl (by kernel_rfl) fun a ha => ?_
                refine qp 0 (.bool (a0.Kind != (0 : Int))) ha rfl rfl rfl (by kernel_rfl) fun a ha => ?_
                have ha := ha.sel (env' := [(85, .bool (a0.Kind != (0 : Int))), (4, .slice ao12 t11.1.length cap12), (81, .bool true)]) (by kernel_rfl)
                rcases Bool.eq_false_or_eq_true (a0.Kind != (0 : Int)) with hb78 | hb78
                · have ha := ha.lit hb78
                  have H := ite_t hb78 H
                  refine qo ha rfl rfl rfl fun a ha => ?_
                  refine qo ha rfl rfl rfl fun a ha => ?_
                  refine qo ha rfl rfl rfl fun a ha => ?_
                  refine qp 3 (.bool true) ha rfl rfl rfl (by kernel_rfl) fun a ha => ?_
                  refine qp 3 (.bool true) ha rfl rfl rfl (by kernel_rfl) fun a ha => ?_
                  refine qp 0 (.bool true) ha rfl rfl rfl (by kernel_rfl) fun a ha => ?_
                  refine wpQuiet_nil ?_
                  intro w79 hc80
                  have o1 : Ok [] (blkL ao12 ++ (M)) w48.heap.size := Ok.nil _ _
                  have o2 : Ok (blkL ao12 ++ (M)) (blkL ao12 ++ (M)) w48.heap.size := (Ok.app (fun _ h => .inl (ml h)) (fun _ h => .inl (mr (h))))
                  have f12 := f12.chg hc80 o1 o2 (fun _ _ h => nomatch h) (fun _ h => ml h)
                  have hM : MS (blkL ao12 ++ (M)) w79 := (MS.app (fun x h => hM.chg hc80 x (ml h)) (fun x h => hM.chg hc80 x (mr (h))))
                  have hC := hC.trans hc80 (Ok.nil _ _)
                  refine wpl_end ?_
                  obtain rfl := Option.some.inj H
                  have o1 : Ok [] (blkL ao12 ++ (M)) w79.heap.size := Ok.nil _ _
                  have o2 : Ok (M) (blkL ao12 ++ (M)) w79.heap.size := (fun _ h => .inl (mr (h)))
                  have hM : MS (M) w79 := (fun x h => hM.chg (Chg.refl [] _) x (mr (h)))
                  have hC := hC.trans (Chg.refl [] _) (Ok.nil _ _)
                  exact J51 _ _ (ha.sel (by kernel_rfl)) hC hM
                · have ha := ha.lit hb78
                  have H := ite_f hb78 H
                  refine qp 0 (.slice ao12 t11.1.length cap12) ha rfl rfl rfl (by kernel_rfl) fun a ha => ?_
                  refine qp 0 (.int .i64 (t11.1.length : Int)) ha rfl rfl rfl (by kernel_rfl) fun a ha => ?_
                  refine qp 0 (.bool ((t11.1.length : Int) == (5 : Int))) ha rfl rfl rfl (by kernel_rfl) fun a ha => ?_
                  refine qp 4 (.bool ((t11.1.length : Int) == (5 : Int))) ha rfl rfl rfl (by kernel_rfl) fun a ha => ?_
                  refine qp 3 (.bool ((t11.1.length : Int) == (5 : Int))) ha rfl rfl rfl (by kernel_rfl) fun a ha => ?_
                  refine qp 0 (.bool ((t11.1.length : Int) == (5 : Int))) ha rfl rfl rfl (by kernel_rfl) fun a ha => ?_
                  refine wpQuiet_nil ?_
                  intro w81 hc82
                  have o1 : Ok [] (blkL ao12 ++ (M)) w48.heap.size := Ok.nil _ _
                  have o2 : Ok (blkL ao12 ++ (M)) (blkL ao12 ++ (M)) w48.heap.size := (Ok.app (fun _ h => .inl (ml h)) (fun _ h => .inl (mr (h))))
                  have f12 := f12.chg hc82 o1 o2 (fun _ _ h => nomatch h) (fun _ h => ml h)
                  have hM : MS (blkL ao12 ++ (M)) w81 := (MS.app (fun x h => hM.chg hc82 x (ml h)) (fun x h => hM.chg hc82 x (mr (h))))
                  have hC := hC.trans hc82 (Ok.nil _ _)
                  refine wpl_end ?_
                  obtain rfl := Option.some.inj H
                  have o1 : Ok [] (blkL ao12 ++ (M)) w81.heap.size := Ok.nil _ _
                  have o2 : Ok (M) (blkL ao12 ++ (M)) w81.heap.size := (fun _ h => .inl (mr (h)))
                  have hM : MS (M) w81 := (fun x h => hM.chg (Chg.refl [] _) x (mr (h)))
                  have hC := hC.trans (Chg.refl [] _) (Ok.nil _ _)
                  exact J51 _ _ (ha.sel (by kernel_rfl)) hC hM
              · have ha := ha.lit hb77
                have H := ite_f hb77 H
                refine qo ha rfl rfl rfl fun a ha => ?_
                refine qo ha rfl rfl rfl fun a ha => ?_
                refine qo ha rfl rfl rfl fun a ha => ?_
                refine qo ha rfl rfl rfl fun a ha => ?_
                refine qo ha rfl rfl rfl fun a ha => ?_
                refine qo ha rfl rfl rfl fun a ha => ?_
                refine qo ha rfl rfl rfl fun a ha => ?_
                refine qo ha rfl rfl rfl fun a ha => ?_
                refine qp 4 (.bool false) ha rfl rfl rfl (by kernel_rfl) fun a ha => ?_
                refine qp 0 (.bool false) ha rfl rfl rfl (by kernel_rfl) fun a ha => ?_
                refine wpQuiet_nil ?_
                intro w83 hc84
                have o1 : Ok [] (blkL ao12 ++ (M)) w48.heap.size := Ok.nil _ _
                have o2 : Ok (blkL ao12 ++ (M)) (blkL ao12 ++ (M)) w48.heap.size := (Ok.app (fun _ h => .inl (ml h)) (fun _ h => .inl (mr (h))))
                have f1 := f1.chg hc84 o1 o2
                have f12 := f12.chg hc84 o1 o2 (fun _ _ h => nomatch h) (fun _ h => ml h)
                have q_hn7 : g4 ∉ blkL ao12 ++ (M) := fun h => (o2 g4 h).elim hn7 (fun h => absurd (lt_cell (hE6 0 _ rfl)) (Nat.not_lt.2 h))
                have hE6 : ∀ j v, (cS_api_Tunnel a0 ao1 cap1)[j]? = some v → w83.cell? ⟨g4, 0 + j, none⟩ = some v := fun j v hv => (cell_keep hc84 o1 hn7 (hE6 j v hv))
                have hn7 := q_hn7
                have hM : MS (blkL ao12 ++ (M)) w83 := (MS.app (fun x h => hM.chg hc84 x (ml h)) (fun x h => hM.chg hc84 x (mr (h))))
                have hC := hC.trans hc84 (Ok.nil _ _)
                refine wpl_end ?_
                obtain rfl := Option.some.inj H
                have o1 : Ok [] (blkL ao12 ++ (M)) w83.heap.size := Ok.nil _ _
                have o2 : Ok (M) (blkL ao12 ++ (M)) w83.heap.size := (fun _ h => .inl (mr (h)))
                have hM : MS (M) w83 := (fun x h => hM.chg (Chg.refl [] _) x (mr (h)))
                have hC := hC.trans (Chg.refl [] _) (Ok.nil _ _)
                exact J51 _ _ (ha.sel (by kernel_rfl)) hC hM
            · have ha := ha.lit hb76
              have H := ite_f hb76 H
              refine qo ha rfl rfl rfl fun a ha => ?_
              refine qo ha rfl rfl rfl fun a ha => ?_
              refine qo ha rfl rfl rfl fun a ha => ?_
              refine qo ha rfl rfl rfl fun a ha => ?_
              refine qo ha rfl rfl rfl fun a ha => ?_
              refine qp 4 (.bool false) ha rfl rfl rfl (by kernel_rfl) fun a ha => ?_
              refine qp 0 (.bool false) ha rfl rfl rfl (by kernel_rfl) fun a ha => ?_
              refine qo ha rfl rfl rfl fun a ha => ?_
              refine qo ha rfl rfl rfl fun a ha => ?_
              refine qo ha rfl rfl rfl fun a ha => ?_
              refine qo ha rfl rfl rfl fun a ha => ?_
              refine qo ha rfl rfl rfl fun a ha => ?_
              refine qo ha rfl rfl rfl fun a ha => ?_
              refine qo ha rfl rfl rfl fun a ha => ?_
              refine qo ha rfl rfl rfl fun a ha => ?_
              refine qp 4 (.bool false) ha rfl rfl rfl (by kernel_rfl) fun a ha => ?_
              refine qp 0 (.bool false) ha rfl rfl rfl (by kernel_rfl) fun a ha => ?_
              refine wpQuiet_nil ?_
              intro w85 hc86
              have o1 : Ok [] (blkL ao12 ++ (M)) w48.heap.size := Ok.nil _ _
              have o2 : Ok (blkL ao12 ++ (M)) (blkL ao12 ++ (M)) w48.heap.size := (Ok.app (fun _ h => .inl (ml h)) (fun _ h => .inl (mr (h))))
              have f1 := f1.chg hc86 o1 o2
              have f12 := f12.chg hc86 o1 o2 (fun _ _ h => nomatch h) (fun _ h => ml h)
              have q_hn7 : g4 ∉ blkL ao12 ++ (M) := fun h => (o2 g4 h).elim hn7 (fun h => absurd (lt_cell (hE6 0 _ rfl)) (Nat.not_lt.2 h))
              have hE6 : ∀ j v, (cS_api_Tunnel a0 ao1 cap1)[j]? = some v → w85.cell? ⟨g4, 0 + j, none⟩ = some v := fun j v hv => (cell_keep hc86 o1 hn7 (hE6 j v hv))
              have hn7 := q_hn7
              have hM : MS (blkL ao12 ++ (M)) w85 := (MS.app (fun x h => hM.chg hc86 x (ml h)) (fun x h => hM.chg hc86 x (mr (h))))
              have hC := hC.trans hc86 (Ok.nil _ _)
              refine wpl_end ?_
              obtain rfl := Option.some.inj H
              have o1 : Ok [] (blkL ao12 ++ (M)) w85.heap.size := Ok.nil _ _
              have o2 : Ok (M) (blkL ao12 ++ (M)) w85.heap.size := (fun _ h => .inl (mr (h)))
              have hM : MS (M) w85 := (fun x h => hM.chg (Chg.refl [] _) x (mr (h)))
              have hC := hC.trans (Chg.refl [] _) (Ok.nil _ _)
              exact J51 _ _ (ha.sel (by kernel_rfl)) hC hM
          · have ha := ha.lit hb68
            have H := ite_f hb68 H
            refine qo ha rfl rfl rfl fun a ha => ?_
            refine qo ha rfl rfl rfl fun a ha => ?_
            refine qo ha rfl rfl rfl fun a ha => ?_
            refine qo ha rfl rfl rfl fun a ha => ?_
            refine qo ha rfl rfl rfl fun a ha => ?_
            refine qo ha rfl rfl rfl fun a ha => ?_
            refine qo ha rfl rfl rfl fun a ha => ?_
            refine qp 4 (.bool false) ha rfl rfl rfl (by kernel_rfl) fun a ha => ?_
            refine qp 0 (.bool false) ha rfl rfl rfl (by kernel_rfl) fun a ha => ?_
            refine qo ha rfl rfl rfl fun a ha => ?_
            refine qo ha rfl rfl rfl fun a ha => ?_
            refine qo ha rfl rfl rfl fun a ha => ?_
            refine qo ha rfl rfl rfl fun a ha => ?_
            refine qo ha rfl rfl rfl fun a ha => ?_
            refine qp 4 (.bool false) ha rfl rfl rfl (by kernel_rfl) fun a ha => ?_
            refine qp 0 (.bool false) ha rfl rfl rfl (by kernel_rfl) fun a ha => ?_
            refine qo ha rfl rfl rfl fun a ha => ?_
            refine qo ha rfl rfl rfl fun a ha => ?_
            refine qo ha rfl rfl rfl fun a ha => ?_
            refine qo ha rfl rfl rfl fun a ha => ?_
            refine qo ha rfl rfl rfl fun a ha => ?_
            refine qo ha rfl rfl rfl fun a ha => ?_
            refine qo ha rfl rfl rfl fun a ha => ?_
            refine qo ha rfl rfl rfl fun a ha => ?_
            refine qp 4 (.bool false) ha rfl rfl rfl (by kernel_rfl) fun a ha => ?_
            refine qp 0 (.bool false) ha rfl rfl rfl (by kernel_rfl) fun a ha => ?_
            refine wpQuiet_nil ?_
            intro w87 hc88
            have o1 : Ok [] (blkL ao12 ++ (M)) w48.heap.size := Ok.nil _ _
            have o2 : Ok (blkL ao12 ++ (M)) (blkL ao12 ++ (M)) w48.heap.size := (Ok.app (fun _ h => .inl (ml h)) (fun _ h => .inl (mr (h))))
            have f1 := f1.chg hc88 o1 o2
            have f12 := f12.chg hc88 o1 o2 (fun _ _ h => nomatch h) (fun _ h => ml h)
            have q_hn7 : g4 ∉ blkL ao12 ++ (M) := fun h => (o2 g4 h).elim hn7 (fun h => absurd (lt_cell (hE6 0 _ rfl)) (Nat.not_lt.2 h))
            have hE6 : ∀ j v, (cS_api_Tunnel a0 ao1 cap1)[j]? = some v → w87.cell? ⟨g4, 0 + j, none⟩ = some v := fun j v hv => (cell_keep hc88 o1 hn7 (hE6 j v hv))
            have hn7 := q_hn7
            have hM : MS (blkL ao12 ++ (M)) w87 := (MS.app (fun x h => hM.chg hc88 x (ml h)) (fun x h => hM.chg hc88 x (mr (h))))
            have hC := hC.trans hc88 (Ok.nil _ _)
            refine wpl_end ?_
            obtain rfl := Option.some.inj H
            have o1 : Ok [] (blkL ao12 ++ (M)) w87.heap.size := Ok.nil _ _
            have o2 : Ok (M) (blkL ao12 ++ (M)) w87.heap.size := (fun _ h => .inl (mr (h)))
            have hM : MS (M) w87 := (fun x h => hM.chg (Chg.refl [] _) x (mr (h)))
            have hC := hC.trans (Chg.refl [] _) (Ok.nil _ _)
            exact J51 _ _ (ha.sel (by kernel_rfl)) hC hM
        · have ha := ha.lit hb60
          have H := ite_f hb60 H
          refine qo ha rfl rfl rfl fun a ha => ?_
          refine qo ha rfl rfl rfl fun a ha => ?_
          refine qo ha rfl rfl rfl fun a ha => ?_
          refine qo ha rfl rfl rfl fun a ha => ?_
          refine qp 4 (.bool false) ha rfl rfl rfl (by kernel_rfl) fun a ha => ?_
          refine qp 0 (.bool false) ha rfl rfl rfl (by kernel_rfl) fun a ha => ?_
          refine qo ha rfl rfl rfl fun a ha => ?_
          refine qo ha rfl rfl rfl fun a ha => ?_
          refine qo ha rfl rfl rfl fun a ha => ?_
          refine qo ha rfl rfl rfl fun a ha => ?_
          refine qo ha rfl rfl rfl fun a ha => ?_
          refine qo ha rfl rfl rfl fun a ha => ?_
          refine qo ha rfl rfl rfl fun a ha => ?_
          refine qp 4 (.bool false) ha rfl rfl rfl (by kernel_rfl) fun a ha => ?_
          refine qp 0 (.bool false) ha rfl rfl rfl (by kernel_rfl) fun a ha => ?_
          refine qo ha rfl rfl rfl fun a ha => ?_
          refine qo ha rfl rfl rfl fun a ha => ?_
          refine qo ha rfl rfl rfl fun a ha => ?_
          refine qo ha rfl rfl rfl fun a ha => ?_
          refine qo ha rfl rfl rfl fun a ha => ?_
          refine qp 4 (.bool false) ha rfl rfl rfl (by kernel_rfl) fun a ha => ?_
          refine qp 0 (.bool false) ha rfl rfl rfl (by kernel_rfl) fun a ha => ?_
          refine qo ha rfl rfl rfl fun a ha => ?_
          refine qo ha rfl rfl rfl fun a ha => ?_
          refine qo ha rfl rfl rfl fun a ha => ?_
          refine qo ha rfl rfl rfl fun a ha => ?_
          refine qo ha rfl rfl rfl fun a ha => ?_
          refine qo ha rfl rfl rfl fun a ha => ?_
          refine qo ha rfl rfl rfl fun a ha => ?_
          refine qo ha rfl rfl rfl fun a ha => ?_
          refine qp 4 (.bool false) ha rfl rfl rfl (by kernel_rfl) fun a ha => ?_
          refine qp 0 (.bool false) ha rfl rfl rfl (by kernel_rfl) fun a ha => ?_
          refine wpQuiet_nil ?_
          intro w89 hc90
          have o1 : Ok [] (blkL ao12 ++ (M)) w48.heap.size := Ok.nil _ _
          have o2 : Ok (blkL ao12 ++ (M)) (blkL ao12 ++ (M)) w48.heap.size := (Ok.app (fun _ h => .inl (ml h)) (fun _ h => .inl (mr (h))))
          have f1 := f1.chg hc90 o1 o2
          have f12 := f12.chg hc90 o1 o2 (fun _ _ h => nomatch h) (fun _ h => ml h)
          have q_hn7 : g4 ∉ blkL ao12 ++ (M) := fun h => (o2 g4 h).elim hn7 (fun h => absurd (lt_cell (hE6 0 _ rfl)) (Nat.not_lt.2 h))
          have hE6 : ∀ j v, (cS_api_Tunnel a0 ao1 cap1)[j]? = some v → w89.cell? ⟨g4, 0 + j, none⟩ = some v := fun j v hv => (cell_keep hc90 o1 hn7 (hE6 j v hv))
          have hn7 := q_hn7
          have hM : MS (blkL ao12 ++ (M)) w89 := (MS.app (fun x h => hM.chg hc90 x (ml h)) (fun x h => hM.chg hc90 x (mr (h))))
          have hC := hC.trans hc90 (Ok.nil _ _)
          refine wpl_end ?_
          obtain rfl := Option.some.inj H
          have o1 : Ok [] (blkL ao12 ++ (M)) w89.heap.size := Ok.nil _ _
          have o2 : Ok (M) (blkL ao12 ++ (M)) w89.heap.size := (fun _ h => .inl (mr (h)))
          have hM : MS (M) w89 := (fun x h => hM.chg (Chg.refl [] _) x (mr (h)))
          have hC := hC.trans (Chg.refl [] _) (Ok.nil _ _)
          exact J51 _ _ (ha.sel (by kernel_rfl)) hC hM
      · have ha := ha.lit hb52
        have H := ite_f hb52 H
        refine qo ha rfl rfl rfl fun a ha => ?_
        refine qo ha rfl rfl rfl fun a ha => ?_
        refine qo ha rfl rfl rfl fun a ha => ?_
        refine qo ha rfl rfl rfl fun a ha => ?_
        refine qo ha rfl rfl rfl fun a ha => ?_
        refine qo ha rfl rfl rfl fun a ha => ?_
        refine qo ha rfl rfl rfl fun a ha => ?_
        refine qp 4 (.bool false) ha rfl rfl rfl (by kernel_rfl) fun a ha => ?_
        refine qp 0 (.bool false) ha rfl rfl rfl (by kernel_rfl) fun a ha => ?_
        refine qo ha rfl rfl rfl fun a ha => ?_
        refine qo ha rfl rfl rfl fun a ha => ?_
        refine qo ha rfl rfl rfl fun a ha => ?_
        refine qo ha rfl rfl rfl fun a ha => ?_
        refine qp 4 (.bool false) ha rfl rfl rfl (by kernel_rfl) fun a ha => ?_
        refine qp 0 (.bool false) ha rfl rfl rfl (by kernel_rfl) fun a ha => ?_
        refine qo ha rfl rfl rfl fun a ha => ?_
        refine qo ha rfl rfl rfl fun a ha => ?_
        refine qo ha rfl rfl rfl fun a ha => ?_
        refine qo ha rfl rfl rfl fun a ha => ?_
        refine qo ha rfl rfl rfl fun a ha => ?_
        refine qo ha rfl rfl rfl fun a ha => ?_
        refine qo ha rfl rfl rfl fun a ha => ?_
        refine qp 4 (.bool false) ha rfl rfl rfl (by kernel_rfl) fun a ha => ?_
        refine qp 0 (.bool false) ha rfl rfl rfl (by kernel_rfl) fun a ha => ?_
        refine qo ha rfl rfl rfl fun a ha => ?_
        refine qo ha rfl rfl rfl fun a ha => ?_
        refine qo ha rfl rfl rfl fun a ha => ?_
        refine qo ha rfl rfl rfl fun a ha => ?_
        refine qo ha rfl rfl rfl fun a ha => ?_
        refine qp 4 (.bool false) ha rfl rfl rfl (by kernel_rfl) fun a ha => ?_
        refine qp 0 (.bool false) ha rfl rfl rfl (by kernel_rfl) fun a ha => ?_
        refine qo ha rfl rfl rfl fun a ha => ?_
        refine qo ha rfl rfl rfl fun a ha => ?_
        refine qo ha rfl rfl rfl fun a ha => ?_
        refine qo ha rfl rfl rfl fun a ha => ?_
        refine qo ha rfl rfl rfl fun a ha => ?_
        refine qo ha rfl rfl rfl fun a ha => ?_
        refine qo ha rfl rfl rfl fun a ha => ?_
        refine qo ha rfl rfl rfl fun a ha => ?_
        refine qp 4 (.bool false) ha rfl rfl rfl (by kernel_rfl) fun a ha => ?_
        refine qp 0 (.bool false) ha rfl rfl rfl (by kernel_rfl) fun a ha => ?_
        refine wpQuiet_nil ?_
        intro w91 hc92
        have o1 : Ok [] (blkL ao12 ++ (M)) w48.heap.size := Ok.nil _ _
        have o2 : Ok (blkL ao12 ++ (M)) (blkL ao12 ++ (M)) w48.heap.size := (Ok.app (fun _ h => .inl (ml h)) (fun _ h => .inl (mr (h))))
        have f1 := f1.chg hc92 o1 o2
        have f12 := f12.chg hc92 o1 o2 (fun _ _ h => nomatch h) (fun _ h => ml h)
        have q_hn7 : g4 ∉ blkL ao12 ++ (M) := fun h => (o2 g4 h).elim hn7 (fun h => absurd (lt_cell (hE6 0 _ rfl)) (Nat.not_lt.2 h))
        have hE6 : ∀ j v, (cS_api_Tunnel a0 ao1 cap1)[j]? = some v → w91.cell? ⟨g4, 0 + j, none⟩ = some v := fun j v hv => (cell_keep hc92 o1 hn7 (hE6 j v hv))
        have hn7 := q_hn7
        have hM : MS (blkL ao12 ++ (M)) w91 := (MS.app (fun x h => hM.chg hc92 x (ml h)) (fun x h => hM.chg hc92 x (mr (h))))
        have hC := hC.trans hc92 (Ok.nil _ _)
        refine wpl_end ?_
        obtain rfl := Option.some.inj H
        have o1 : Ok [] (blkL ao12 ++ (M)) w91.heap.size := Ok.nil _ _
        have o2 : Ok (M) (blkL ao12 ++ (M)) w91.heap.size := (fun _ h => .inl (mr (h)))
        have hM : MS (M) w91 := (fun x h => hM.chg (Chg.refl [] _) x (mr (h)))
        have hC := hC.trans (Chg.refl [] _) (Ok.nil _ _)
        exact J51 _ _ (ha.sel (by kernel_rfl)) hC hM
end Go.E
