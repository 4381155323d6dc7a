/- What the functions that the law reaches compute, and the walks that show it. -/
import Derived.Test.YtoeenagdbjppgaaDoorEngM
import Derived.Test.YtoeenagdbjppgaaDoorProg
import Derived.Test.YtoeenagdbjppgaaDoorGenPmsiApartP1
set_option linter.unusedVariables false
set_option linter.unusedSimpArgs false
namespace Go.E
open Go.RowKit Go.Proofs
def vinerylaw06_PmsiApart.f (k : Nat) (a0 : S_api_Tunnel) (a1 : S_api_Tunnel) : Option (Bool) := (vinerylaw06_small.f k ).bind fun t15 => (pmsi_Bytes.f k a0).bind fun t17 => (pmsi_Bytes.f k a1).bind fun t20 => (if (if (t17.2 != (0 : Int)) = true then true else (t20.2 != (0 : Int))) = true then some ((t15 : Bool)) else (if (if (decide ((t17.1.length : Int) < (5 : Int))) = true then true else (decide ((t20.1.length : Int) < (5 : Int)))) = true then some ((false : Bool)) else ((if t15 = true then (pmsi_Same.f a0 a1).bind fun t33 => (if (a0.Kind == a1.Kind) = true then (if 0 ≤ (5 : Int) ∧ (5 : Int) ≤ (t17.1.length : Int) ∧ (t17.1.length : Int) ≤ (t17.1.length : Int) then (if 0 ≤ (5 : Int) ∧ (5 : Int) ≤ (t20.1.length : Int) ∧ (t20.1.length : Int) ≤ (t20.1.length : Int) then some (t33 == ((bstr (b2s ((t17.1.take (Int.toNat (t17.1.length : Int))).drop (Int.toNat (5 : Int))))).toList == (bstr (b2s ((t20.1.take (Int.toNat (t20.1.length : Int))).drop (Int.toNat (5 : Int))))).toList) : Bool) else none) else none) else some (t33 == false : Bool)) else some (false : Bool))).bind fun s31 => some ((s31 : Bool))))
set_option maxRecDepth 100000 in
theorem vinerylaw06_PmsiApart.walk (w : World) (M : List Nat) (hM : MS M w) (a0 : S_api_Tunnel) (ao1 : Option Addr) (cap1 : Nat) (f1 : RSl (rInt .u8) 5 w M ao1 cap1 a0.Id) (a1 : S_api_Tunnel) (ao2 : Option Addr) (cap2 : Nat) (f2 : RSl (rInt .u8) 5 w M ao2 cap2 a1.Id) (k : Nat) (r : Bool) (H : vinerylaw06_PmsiApart.f k a0 a1 = some r) :
    To Tryd.prog 6 [.agg (cS_api_Tunnel a0 ao1 cap1).toArray, .agg (cS_api_Tunnel a1 ao2 cap2).toArray] w fun v w' => v = .bool r ∧ Chg [] w w' ∧ MS (M) w' := by
  unfold vinerylaw06_PmsiApart.f at H
  refine ent Tryd.func6 rfl [(0, .agg (cS_api_Tunnel a0 ao1 cap1).toArray), (1, .agg (cS_api_Tunnel a1 ao2 cap2).toArray)] rfl (by rfl) fun a ha => ?_
  have hC : Chg [] w w := Chg.refl _ _
  refine wp_seq_k fun K3 hK3 => ?_
  refine wp_region_lit ?_
  refine bx (cs := (cS_api_Tunnel a0 ao1 cap1)) ha rfl rfl rfl rfl rfl fun a w4 g5 hN6 ha => ?_
  have hn8 := hN6.notin hM
  have o1 : Ok [] (M) w.heap.size := Ok.nil _ _
  have o2 : Ok (M) (M) w.heap.size := (fun _ h => .inl (h))
  have f1 := f1.chg hN6.chg o1 o2
  have f2 := f2.chg hN6.chg o1 o2
  have hM : MS (M) w4 := (fun x h => hM.chg hN6.chg x (h))
  have hC := hC.trans hN6.chg (Ok.nil _ _)
  have hE7 : ∀ j v, (cS_api_Tunnel a0 ao1 cap1)[j]? = some v → w4.cell? ⟨g5, 0 + j, none⟩ = some v := Box.cells (New.box hN6)
  refine bx (cs := (cS_api_Tunnel a1 ao2 cap2)) ha rfl rfl rfl rfl rfl fun a w9 g10 hN11 ha => ?_
  have hn13 := hN11.notin hM
  have o1 : Ok [] (M) w4.heap.size := Ok.nil _ _
  have o2 : Ok (M) (M) w4.heap.size := (fun _ h => .inl (h))
  have f2 := f2.chg hN11.chg o1 o2
  have f1 := f1.chg hN11.chg o1 o2
  have q_hn8 : g5 ∉ M := fun h => (o2 g5 h).elim hn8 (fun h => absurd (lt_cell (hE7 0 _ rfl)) (Nat.not_lt.2 h))
  have hE7 : ∀ j v, (cS_api_Tunnel a0 ao1 cap1)[j]? = some v → w9.cell? ⟨g5, 0 + j, none⟩ = some v := fun j v hv => (cell_keep hN11.chg o1 hn8 (hE7 j v hv))
  have hn8 := q_hn8
  have hM : MS (M) w9 := (fun x h => hM.chg hN11.chg x (h))
  have hC := hC.trans hN11.chg (Ok.nil _ _)
  have hE12 : ∀ j v, (cS_api_Tunnel a1 ao2 cap2)[j]? = some v → w9.cell? ⟨g10, 0 + j, none⟩ = some v := Box.cells (New.box hN11)
  refine seg ha 1 [(2, .pointer (some ⟨g5, 0, none⟩)), (3, .pointer (some ⟨g10, 0, none⟩))] (by kernel_rfl) fun a ha => ?_
  refine hK3 _ _ ?_; try clear hK3 K3
  refine wp_seq_k fun K14 hK14 => ?_
  refine wp_region_lit ?_
  obtain ⟨t15, H15, H⟩ := bind_some H
  refine cl ha (by rfl) (by kernel_rfl) (by rfl) (by rfl) (by rfl) (vinerylaw06_small.walk w9 _ hM  k _ H15) ?_
  rintro _ w15 ⟨rfl, hc15, hMn⟩ a ha
  have o1 : Ok [] (M) w9.heap.size := Ok.nil _ _
  have o2 : Ok (M) (M) w9.heap.size := (fun _ h => .inl (h))
  have f1 := f1.chg hc15 o1 o2
  have f2 := f2.chg hc15 o1 o2
  have q_hn8 : g5 ∉ M := fun h => (o2 g5 h).elim hn8 (fun h => absurd (lt_cell (hE7 0 _ rfl)) (Nat.not_lt.2 h))
  have hE7 : ∀ j v, (cS_api_Tunnel a0 ao1 cap1)[j]? = some v → w15.cell? ⟨g5, 0 + j, none⟩ = some v := fun j v hv => (cell_keep hc15 o1 hn8 (hE7 j v hv))
  have hn8 := q_hn8
  have q_hn13 : g10 ∉ M := fun h => (o2 g10 h).elim hn13 (fun h => absurd (lt_cell (hE12 0 _ rfl)) (Nat.not_lt.2 h))
  have hE12 : ∀ j v, (cS_api_Tunnel a1 ao2 cap2)[j]? = some v → w15.cell? ⟨g10, 0 + j, none⟩ = some v := fun j v hv => (cell_keep hc15 o1 hn13 (hE12 j v hv))
  have hn13 := q_hn13
  have hM : MS (M) w15 := (fun x h => hM.chg hc15 x (h))
  have hC := hC.trans hc15 (Ok.nil _ _)
  refine seg ha 1 [(2, .pointer (some ⟨g5, 0, none⟩)), (3, .pointer (some ⟨g10, 0, none⟩)), (5, .bool t15)] (by kernel_rfl) fun a ha => ?_
  refine hK14 _ _ ?_; try clear hK14 K14
  refine wp_seq_k fun K16 hK16 => ?_
  refine wp_region_lit ?_
  refine ldA (cs := (cS_api_Tunnel a0 ao1 cap1)) ha rfl (by kernel_rfl) rfl rfl rfl (cells_sub hE7 (all := (cS_api_Tunnel a0 ao1 cap1)) [] [] (by kernel_rfl)) fun a ha => ?_
  obtain ⟨t17, H17, H⟩ := bind_some H
  refine cl ha (by rfl) (by kernel_rfl) (by rfl) (by rfl) (by rfl) (pmsi_Bytes.walk w15 _ hM a0 ao1 cap1 f1 k _ H17) ?_
  rintro _ w17 ⟨ao18, cap18, rfl, f18, ne_i18, hc17, hMn⟩ a ha
  have o1 : Ok [] (M) w15.heap.size := Ok.nil _ _
  have o2 : Ok (blkL ao18 ++ (M)) (M) w15.heap.size := (Ok.app (fun x h => .inr (ne_i18 x h)) (fun _ h => .inl (h)))
  have f1 := f1.chg hc17 o1 o2
  have f2 := f2.chg hc17 o1 o2
  have q_hn8 : g5 ∉ blkL ao18 ++ (M) := fun h => (o2 g5 h).elim hn8 (fun h => absurd (lt_cell (hE7 0 _ rfl)) (Nat.not_lt.2 h))
  have hE7 : ∀ j v, (cS_api_Tunnel a0 ao1 cap1)[j]? = some v → w17.cell? ⟨g5, 0 + j, none⟩ = some v := fun j v hv => (cell_keep hc17 o1 hn8 (hE7 j v hv))
  have hn8 := q_hn8
  have q_hn13 : g10 ∉ blkL ao18 ++ (M) := fun h => (o2 g10 h).elim hn13 (fun h => absurd (lt_cell (hE12 0 _ rfl)) (Nat.not_lt.2 h))
  have hE12 : ∀ j v, (cS_api_Tunnel a1 ao2 cap2)[j]? = some v → w17.cell? ⟨g10, 0 + j, none⟩ = some v := fun j v hv => (cell_keep hc17 o1 hn13 (hE12 j v hv))
  have hn13 := q_hn13
  have nw : Ok (blkL ao18) (M) w15.heap.size := (fun x h => .inr (ne_i18 x h))
  have p_i18_M : ∀ x ∈ blkL ao18, x ∉ M := fun x hx hy => absurd (hM x (hy)) (Nat.not_lt.2 (ne_i18 x hx))
  have e_i18 : ∀ x ∈ blkL ao18, w.heap.size ≤ x := fun x hx => Nat.le_trans hC.size (ne_i18 x hx)
  have hM : MS (blkL ao18 ++ (M)) w17 := (MS.app (fun x h => hMn x (ml h)) (fun x h => hM.chg hc17 x (h)))
  have hC := hC.trans hc17 (Ok.nil _ _)
  refine seg ha 5 [(2, .pointer (some ⟨g5, 0, none⟩)), (3, .pointer (some ⟨g10, 0, none⟩)), (5, .bool t15), (6, .slice ao18 t17.1.length cap18), (7, .int .i64 t17.2)] (by kernel_rfl) fun a ha => ?_
  refine hK16 _ _ ?_; try clear hK16 K16
  refine wp_seq_k fun K19 hK19 => ?_
  refine wp_region_lit ?_
  refine ldA (cs := (cS_api_Tunnel a1 ao2 cap2)) ha rfl (by kernel_rfl) rfl rfl rfl (cells_sub hE12 (all := (cS_api_Tunnel a1 ao2 cap2)) [] [] (by kernel_rfl)) fun a ha => ?_
  obtain ⟨t20, H20, H⟩ := bind_some H
  refine cl ha (by rfl) (by kernel_rfl) (by rfl) (by rfl) (by rfl) (pmsi_Bytes.walk w17 _ hM a1 ao2 cap2 f2 k _ H20) ?_
  rintro _ w20 ⟨ao21, cap21, rfl, f21, ne_i21, hc20, hMn⟩ a ha
  have o1 : Ok [] (blkL ao18 ++ (M)) w17.heap.size := Ok.nil _ _
  have o2 : Ok (blkL ao21 ++ (blkL ao18 ++ (M))) (blkL ao18 ++ (M)) w17.heap.size := (Ok.app (fun x h => .inr (ne_i21 x h)) (Ok.app (fun _ h => .inl (ml h)) (fun _ h => .inl (mr (h)))))
  have f1 := f1.chg hc20 o1 o2
  have f2 := f2.chg hc20 o1 o2
  have f18 := f18.chg hc20 o1 o2 (fun _ _ h => nomatch h) (fun _ h => mr (ml h))
  have q_hn8 : g5 ∉ blkL ao21 ++ (blkL ao18 ++ (M)) := fun h => (o2 g5 h).elim hn8 (fun h => absurd (lt_cell (hE7 0 _ rfl)) (Nat.not_lt.2 h))
  have hE7 : ∀ j v, (cS_api_Tunnel a0 ao1 cap1)[j]? = some v → w20.cell? ⟨g5, 0 + j, none⟩ = some v := fun j v hv => (cell_keep hc20 o1 hn8 (hE7 j v hv))
  have hn8 := q_hn8
  have q_hn13 : g10 ∉ blkL ao21 ++ (blkL ao18 ++ (M)) := fun h => (o2 g10 h).elim hn13 (fun h => absurd (lt_cell (hE12 0 _ rfl)) (Nat.not_lt.2 h))
  have hE12 : ∀ j v, (cS_api_Tunnel a1 ao2 cap2)[j]? = some v → w20.cell? ⟨g10, 0 + j, none⟩ = some v := fun j v hv => (cell_keep hc20 o1 hn13 (hE12 j v hv))
  have hn13 := q_hn13
  have nw : Ok (blkL ao21) (blkL ao18 ++ (M)) w17.heap.size := (fun x h => .inr (ne_i21 x h))
  have p_i21_i18 : ∀ x ∈ blkL ao21, x ∉ (blkL ao18) := fun x hx hy => absurd (hM x (ml hy)) (Nat.not_lt.2 (ne_i21 x hx))
  have p_i21_M : ∀ x ∈ blkL ao21, x ∉ M := fun x hx hy => absurd (hM x (mr (hy))) (Nat.not_lt.2 (ne_i21 x hx))
  have e_i21 : ∀ x ∈ blkL ao21, w.heap.size ≤ x := fun x hx => Nat.le_trans hC.size (ne_i21 x hx)
  have hM : MS (blkL ao21 ++ (blkL ao18 ++ (M))) w20 := (MS.app (fun x h => hMn x (ml h)) (MS.app (fun x h => hM.chg hc20 x (ml h)) (fun x h => hM.chg hc20 x (mr (h)))))
  have hC := hC.trans hc20 (Ok.nil _ _)
  refine seg ha 5 [(2, .pointer (some ⟨g5, 0, none⟩)), (3, .pointer (some ⟨g10, 0, none⟩)), (5, .bool t15), (6, .slice ao18 t17.1.length cap18), (7, .int .i64 t17.2), (8, .slice ao21 t20.1.length cap21), (9, .int .i64 t20.2)] (by kernel_rfl) fun a ha => ?_
  refine hK19 _ _ ?_; try clear hK19 K19
  refine wp_seq_k fun K22 hK22 => ?_
  refine wp_seq_k fun K23 hK23 => ?_
  refine wp_region_lit ?_
  refine seg ha 6 [(2, .pointer (some ⟨g5, 0, none⟩)), (3, .pointer (some ⟨g10, 0, none⟩)), (5, .bool t15), (6, .slice ao18 t17.1.length cap18), (8, .slice ao21 t20.1.length cap21), (26, .bool (if (t17.2 != (0 : Int)) = true then true else (t20.2 != (0 : Int))))] (by kernel_rfl) fun a ha => ?_
  refine hK23 _ _ ?_; try clear hK23 K23
  refine cnd ha rfl (fun hc24 => ?_) (fun hc24 => ?_)
  · have H := ite_t hc24 H
    refine wp_seq_k fun K25 hK25 => ?_
    refine wp_region_lit ?_
    refine seg ha 2 [(4, .bool t15)] (by kernel_rfl) fun a ha => ?_
    refine hK25 _ _ ?_; try clear hK25 K25
    refine wp_ret ?_
    try simp only [Exit.then, Exit.inBlock]
    have o1 : Ok [] (blkL ao21 ++ (blkL ao18 ++ (M))) w20.heap.size := Ok.nil _ _
    have o2 : Ok (M) (blkL ao21 ++ (blkL ao18 ++ (M))) w20.heap.size := (fun _ h => .inl (mr (mr (h))))
    have hM : MS (M) w20 := (fun x h => hM.chg (Chg.refl [] _) x (mr (mr (h))))
    have hC := hC.trans (Chg.refl [] _) (Ok.nil _ _)
    obtain rfl := Option.some.inj H
    refine rt1 ha rfl rfl ?_
    exact ⟨rfl, hC, hM⟩
  · have H := ite_f hc24 H
    refine wp_skip ?_
    refine hK22 _ _ ?_; try clear hK22 K22
    refine wp_seq_k fun K26 hK26 => ?_
    refine wp_seq_k fun K27 hK27 => ?_
    refine wp_region_lit ?_
    refine seg ha 8 [(2, .pointer (some ⟨g5, 0, none⟩)), (3, .pointer (some ⟨g10, 0, none⟩)), (5, .bool t15), (6, .slice ao18 t17.1.length cap18), (8, .slice ao21 t20.1.length cap21), (35, .bool (if (decide ((t17.1.length : Int) < (5 : Int))) = true then true else (decide ((t20.1.length : Int) < (5 : Int)))))] (by kernel_rfl) fun a ha => ?_
    refine hK27 _ _ ?_; try clear hK27 K27
    refine cnd ha rfl (fun hc28 => ?_) (fun hc28 => ?_)
    · have H := ite_t hc28 H
      refine wp_seq_k fun K29 hK29 => ?_
      refine wp_region_lit ?_
      refine seg ha 1 [(4, .bool false)] (by kernel_rfl) fun a ha => ?_
      refine hK29 _ _ ?_; try clear hK29 K29
      refine wp_ret ?_
      try simp only [Exit.then, Exit.inBlock]
      have o1 : Ok [] (blkL ao21 ++ (blkL ao18 ++ (M))) w20.heap.size := Ok.nil _ _
      have o2 : Ok (M) (blkL ao21 ++ (blkL ao18 ++ (M))) w20.heap.size := (fun _ h => .inl (mr (mr (h))))
      have hM : MS (M) w20 := (fun x h => hM.chg (Chg.refl [] _) x (mr (mr (h))))
      have hC := hC.trans (Chg.refl [] _) (Ok.nil _ _)
      obtain rfl := Option.some.inj H
      refine rt1 ha rfl rfl ?_
      exact ⟨rfl, hC, hM⟩
    · have H := ite_f hc28 H
      refine wp_skip ?_
      refine hK26 _ _ ?_; try clear hK26 K26
      refine wp_seq_k fun K30 hK30 => ?_
      have fz := f18.toRSl (M' := blkL ao21 ++ (M)) (Ok.app (fun _ h => .inl (ml h)) (fun _ h => .inl (mr (mr (h))))) (fun x hx hm => (List.mem_append.1 hm).elim (fun h => (fun x hx hy => p_i21_i18 x hy hx) x hx h) (fun h => p_i18_M x hx h))
      have o1 : Ok [] (blkL ao21 ++ (blkL ao18 ++ (M))) w20.heap.size := Ok.nil _ _
      have o2 : Ok (blkL ao21 ++ (M)) (blkL ao21 ++ (blkL ao18 ++ (M))) w20.heap.size := (Ok.app (fun _ h => .inl (ml h)) (fun _ h => .inl (mr (mr (h)))))
      have f1 := f1.chg (Chg.refl [] _) o1 o2
      have f2 := f2.chg (Chg.refl [] _) o1 o2
      have f21 := f21.chg (Chg.refl [] _) o1 o2 (fun _ _ h => nomatch h) (fun _ h => ml h)
      have q_hn8 : g5 ∉ blkL ao21 ++ (M) := fun h => (o2 g5 h).elim hn8 (fun h => absurd (lt_cell (hE7 0 _ rfl)) (Nat.not_lt.2 h))
      have hE7 : ∀ j v, (cS_api_Tunnel a0 ao1 cap1)[j]? = some v → w20.cell? ⟨g5, 0 + j, none⟩ = some v := fun j v hv => (cell_keep (Chg.refl [] _) o1 hn8 (hE7 j v hv))
      have hn8 := q_hn8
      have q_hn13 : g10 ∉ blkL ao21 ++ (M) := fun h => (o2 g10 h).elim hn13 (fun h => absurd (lt_cell (hE12 0 _ rfl)) (Nat.not_lt.2 h))
      have hE12 : ∀ j v, (cS_api_Tunnel a1 ao2 cap2)[j]? = some v → w20.cell? ⟨g10, 0 + j, none⟩ = some v := fun j v hv => (cell_keep (Chg.refl [] _) o1 hn13 (hE12 j v hv))
      have hn13 := q_hn13
      have hM : MS (blkL ao21 ++ (M)) w20 := (MS.app (fun x h => hM.chg (Chg.refl [] _) x (ml h)) (fun x h => hM.chg (Chg.refl [] _) x (mr (mr (h)))))
      have hC := hC.trans (Chg.refl [] _) (Ok.nil _ _)
      have f18 := fz
      have fz := f21.toRSl (M' := M) (fun _ h => .inl (mr (h))) (fun x hx hm => p_i21_M x hx hm)
      have o1 : Ok [] (blkL ao21 ++ (M)) w20.heap.size := Ok.nil _ _
      have o2 : Ok (M) (blkL ao21 ++ (M)) w20.heap.size := (fun _ h => .inl (mr (h)))
      have f1 := f1.chg (Chg.refl [] _) o1 o2
      have f2 := f2.chg (Chg.refl [] _) o1 o2
      have f18 := f18.chg (Chg.refl [] _) o1 o2
      have q_hn8 : g5 ∉ M := fun h => (o2 g5 h).elim hn8 (fun h => absurd (lt_cell (hE7 0 _ rfl)) (Nat.not_lt.2 h))
      have hE7 : ∀ j v, (cS_api_Tunnel a0 ao1 cap1)[j]? = some v → w20.cell? ⟨g5, 0 + j, none⟩ = some v := fun j v hv => (cell_keep (Chg.refl [] _) o1 hn8 (hE7 j v hv))
      have hn8 := q_hn8
      have q_hn13 : g10 ∉ M := fun h => (o2 g10 h).elim hn13 (fun h => absurd (lt_cell (hE12 0 _ rfl)) (Nat.not_lt.2 h))
      have hE12 : ∀ j v, (cS_api_Tunnel a1 ao2 cap2)[j]? = some v → w20.cell? ⟨g10, 0 + j, none⟩ = some v := fun j v hv => (cell_keep (Chg.refl [] _) o1 hn13 (hE12 j v hv))
      have hn13 := q_hn13
      have hM : MS (M) w20 := (fun x h => hM.chg (Chg.refl [] _) x (mr (h)))
      have hC := hC.trans (Chg.refl [] _) (Ok.nil _ _)
      have f21 := fz
      refine drq0 (fun w' => Chg [] w20 w') (by kernel_rfl) (by kernel_rfl) (fun _ h => h) ?_
      obtain ⟨s31, H31, H⟩ := bind_some H
      have J31 : ∀ (a : Act) (w31 : World), Has a Tryd.f6.ntmps [(4, .bool s31)] → (Chg [] w w31) → (MS (M) w31) → K30 a w31 := by
        intro a w31 ha hC hM
        refine hK30 _ _ ?_; try clear hK30 K30
        refine wp_ret ?_
        try simp only [Exit.then, Exit.inBlock]
        obtain rfl := Option.some.inj H
        refine rt1 ha rfl rfl ?_
        exact ⟨rfl, hC, hM⟩
      have H := H31
      refine qp 0 (.bool t15) ha rfl rfl rfl (by kernel_rfl) fun a ha => ?_
      refine qp 0 (.bool t15) ha rfl rfl rfl (by kernel_rfl) fun a ha => ?_
      have ha := ha.sel (env' := [(37, .bool t15), (2, .pointer (some ⟨g5, 0, none⟩)), (3, .pointer (some ⟨g10, 0, none⟩)), (6, .slice ao18 t17.1.length cap18), (8, .slice ao21 t20.1.length cap21)]) (by kernel_rfl)
      rcases Bool.eq_false_or_eq_true (t15) with hb32 | hb32
      · have ha := ha.lit hb32
        have H := ite_t hb32 H
        refine qv (v := .agg (cS_api_Tunnel a0 ao1 cap1).toArray) ha rfl rfl rfl (fun w' hs => ldA_run (cs := (cS_api_Tunnel a0 ao1 cap1)) ha rfl (by kernel_rfl) (cells_sub (fun j v hv => hs.keep (hE7 j v hv)) (all := (cS_api_Tunnel a0 ao1 cap1)) [] [] (by kernel_rfl))) fun a ha => ?_
        refine qv (v := .agg (cS_api_Tunnel a1 ao2 cap2).toArray) ha rfl rfl rfl (fun w' hs => ldA_run (cs := (cS_api_Tunnel a1 ao2 cap2)) ha rfl (by kernel_rfl) (cells_sub (fun j v hv => hs.keep (hE12 j v hv)) (all := (cS_api_Tunnel a1 ao2 cap2)) [] [] (by kernel_rfl))) fun a ha => ?_
        obtain ⟨t33, H33, H⟩ := bind_some H
        refine qc (.bool t33) ha (by rfl) (by kernel_rfl) (by rfl) (by rfl) (by rfl) (fun w' hs => (pmsi_Same.walk w' _ (hM.chg hs) a0 ao1 cap1 (RSl.chg f1 hs (Ok.nil _ _) (Ok.refl _ _)) a1 ao2 cap2 (RSl.chg f2 hs (Ok.nil _ _) (Ok.refl _ _)) _ H33).mono fun v w'' ⟨hv, hc, _⟩ => ⟨hv, hs.trans hc (Ok.nil _ _)⟩) fun a ha => ?_
        refine qp 0 (.pointer (some ⟨g5, 0 + 1, none⟩)) ha rfl rfl rfl (by kernel_rfl) fun a ha => ?_
        refine qv (v := .int .i64 a0.Kind) ha rfl rfl rfl (fun w' hs => ld_run ha rfl (by kernel_rfl) (hs.keep (hE7 1 (.int .i64 a0.Kind) (by kernel_rfl)))) fun a ha => ?_
        refine qp 0 (.pointer (some ⟨g10, 0 + 1, none⟩)) ha rfl rfl rfl (by kernel_rfl) fun a ha => ?_
        refine qv (v := .int .i64 a1.Kind) ha rfl rfl rfl (fun w' hs => ld_run ha rfl (by kernel_rfl) (hs.keep (hE12 1 (.int .i64 a1.Kind) (by kernel_rfl)))) fun a ha => ?_
        refine qp 0 (.bool (a0.Kind == a1.Kind)) ha rfl rfl rfl (by kernel_rfl) fun a ha => ?_
        refine qp 0 (.bool (a0.Kind == a1.Kind)) ha rfl rfl rfl (by kernel_rfl) fun a ha => ?_
        have ha := ha.sel (env' := [(46, .bool (a0.Kind == a1.Kind)), (6, .slice ao18 t17.1.length cap18), (8, .slice ao21 t20.1.length cap21), (37, .bool true), (40, .bool t33)]) (by kernel_rfl)
        rcases Bool.eq_false_or_eq_true (a0.Kind == a1.Kind) with hb34 | hb34
        · have ha := ha.lit hb34
          have H := ite_t hb34 H
          refine qp 0 (.slice ao18 t17.1.length cap18) ha rfl rfl rfl (by kernel_rfl) fun a ha => ?_
          obtain ⟨⟨hx35, hx35', hx35''⟩, H⟩ := ite_some H
          obtain ⟨ao36, cap36, f36, hr36⟩ := slc_run (r := (rInt .u8)) (t := 25) (lo := (Option.some (Operand.const (Value.int IntKind.i64 5)))) (hi := Option.none) (l := (5 : Int)) (h := (t17.1.length : Int)) (dd := some 48) (ty := 25) (pos := "law.go:74") (af := #[{ on := 11, ground := Ground.data }, { on := 10, ground := Ground.guard }]) (gd := (Option.some (10, Bool.true))) ha (by kernel_rfl) (by kernel_rfl) (x := (Operand.tmp 47)) rfl rfl rfl f18 hx35 hx35' hx35''
          refine qv (v := .slice ao36 ((t17.1.take (Int.toNat (t17.1.length : Int))).drop (Int.toNat (5 : Int))).length cap36) ha rfl rfl rfl (fun w' hs => hr36 w') fun a ha => ?_
          refine qv (v := .string (bstr (b2s ((t17.1.take (Int.toNat (t17.1.length : Int))).drop (Int.toNat (5 : Int)))))) ha rfl rfl rfl (fun w' hs => cvs_run ha rfl (by kernel_rfl) (by kernel_rfl) (by kernel_rfl) (RSl.chg f36 hs (Ok.nil _ _) (Ok.refl _ _))) fun a ha => ?_
          refine qp 0 (.slice ao21 t20.1.length cap21) ha rfl rfl rfl (by kernel_rfl) fun a ha => ?_
          obtain ⟨⟨hx37, hx37', hx37''⟩, H⟩ := ite_some H
          obtain ⟨ao38, cap38, f38, hr38⟩ := slc_run (r := (rInt .u8)) (t := 25) (lo := (Option.some (Operand.const (Value.int IntKind.i64 5)))) (hi := Option.none) (l := (5 : Int)) (h := (t20.1.length : Int)) (dd := some 51) (ty := 25) (pos := "law.go:74") (af := #[{ on := 14, ground := Ground.data }, { on := 10, ground := Ground.guard }]) (gd := (Option.some (10, Bool.true))) ha (by kernel_rfl) (by kernel_rfl) (x := (Operand.tmp 50)) rfl rfl rfl f21 hx37 hx37' hx37''
          refine qv (v := .slice ao38 ((t20.1.take (Int.toNat (t20.1.length : Int))).drop (Int.toNat (5 : Int))).length cap38) ha rfl rfl rfl (fun w' hs => hr38 w') fun a ha => ?_
          refine qv (v := .string (bstr (b2s ((t20.1.take (Int.toNat (t20.1.length : Int))).drop (Int.toNat (5 : Int)))))) ha rfl rfl rfl (fun w' hs => cvs_run ha rfl (by kernel_rfl) (by kernel_rfl) (by kernel_rfl) (RSl.chg f38 hs (Ok.nil _ _) (Ok.refl _ _))) fun a ha => ?_
          refine qp 0 (.bool ((bstr (b2s ((t17.1.take (Int.toNat (t17.1.length : Int))).drop (Int.toNat (5 : Int))))).toList == (bstr (b2s ((t20.1.take (Int.toNat (t20.1.length : Int))).drop (Int.toNat (5 : Int))))).toList)) ha rfl rfl rfl (by kernel_rfl) fun a ha => ?_
          refine qp 3 (.bool ((bstr (b2s ((t17.1.take (Int.toNat (t17.1.length : Int))).drop (Int.toNat (5 : Int))))).toList == (bstr (b2s ((t20.1.take (Int.toNat (t20.1.length : Int))).drop (Int.toNat (5 : Int))))).toList)) ha rfl rfl rfl (by kernel_rfl) fun a ha => ?_
          refine qp 0 (.bool (t33 == ((bstr (b2s ((t17.1.take (Int.toNat (t17.1.length : Int))).drop (Int.toNat (5 : Int))))).toList == (bstr (b2s ((t20.1.take (Int.toNat (t20.1.length : Int))).drop (Int.toNat (5 : Int))))).toList))) ha rfl rfl rfl (by kernel_rfl) fun a ha => ?_
          refine qp 3 (.bool (t33 == ((bstr (b2s ((t17.1.take (Int.toNat (t17.1.length : Int))).drop (Int.toNat (5 : Int))))).toList == (bstr (b2s ((t20.1.take (Int.toNat (t20.1.length : Int))).drop (Int.toNat (5 : Int))))).toList))) ha rfl rfl rfl (by kernel_rfl) fun a ha => ?_
          refine qp 0 (.bool (t33 == ((bstr (b2s ((t17.1.take (Int.toNat (t17.1.length : Int))).drop (Int.toNat (5 : Int))))).toList == (bstr (b2s ((t20.1.take (Int.toNat (t20.1.length : Int))).drop (Int.toNat (5 : Int))))).toList))) ha rfl rfl rfl (by kernel_rfl) fun a ha => ?_
          refine wpQuiet_nil ?_
          intro w39 hc40
          have o1 : Ok [] (M) w20.heap.size := Ok.nil _ _
          have o2 : Ok (M) (M) w20.heap.size := (fun _ h => .inl (h))
          have f18 := f18.chg hc40 o1 o2
          have f21 := f21.chg hc40 o1 o2
          have f36 := f36.chg hc40 o1 o2
          have f38 := f38.chg hc40 o1 o2
          have hM : MS (M) w39 := (fun x h => hM.chg hc40 x (h))
          have hC := hC.trans hc40 (Ok.nil _ _)
          refine wpl_end ?_
          obtain rfl := Option.some.inj H
          exact J31 _ _ (ha.sel (by kernel_rfl)) hC hM
        · have ha := ha.lit hb34
          have H := ite_f hb34 H
          refine qo ha rfl rfl rfl fun a ha => ?_
          refine qo ha rfl rfl rfl fun a ha => ?_
          refine qo ha rfl rfl rfl fun a ha => ?_
          refine qo ha rfl rfl rfl fun a ha => ?_
          refine qo ha rfl rfl rfl fun a ha => ?_
          refine qo ha rfl rfl rfl fun a ha => ?_
          refine qo ha rfl rfl rfl fun a ha => ?_
          refine qp 4 (.bool false) ha rfl rfl rfl (by kernel_rfl) fun a ha => ?_
          refine qp 0 (.bool (t33 == false)) ha rfl rfl rfl (by kernel_rfl) fun a ha => ?_
          refine qp 3 (.bool (t33 == false)) ha rfl rfl rfl (by kernel_rfl) fun a ha => ?_
          refine qp 0 (.bool (t33 == false)) ha rfl rfl rfl (by kernel_rfl) fun a ha => ?_
          refine wpQuiet_nil ?_
          intro w41 hc42
          have o1 : Ok [] (M) w20.heap.size := Ok.nil _ _
          have o2 : Ok (M) (M) w20.heap.size := (fun _ h => .inl (h))
          have f18 := f18.chg hc42 o1 o2
          have f21 := f21.chg hc42 o1 o2
          have hM : MS (M) w41 := (fun x h => hM.chg hc42 x (h))
          have hC := hC.trans hc42 (Ok.nil _ _)
          refine wpl_end ?_
          obtain rfl := Option.some.inj H
          exact J31 _ _ (ha.sel (by kernel_rfl)) hC hM
      · have ha := ha.lit hb32
        have H := ite_f hb32 H
        refine qo ha rfl rfl rfl fun a ha => ?_
        refine qo ha rfl rfl rfl fun a ha => ?_
        refine qo ha rfl rfl rfl fun a ha => ?_
        refine qo ha rfl rfl rfl fun a ha => ?_
        refine qo ha rfl rfl rfl fun a ha => ?_
        refine qo ha rfl rfl rfl fun a ha => ?_
        refine qo ha rfl rfl rfl fun a ha => ?_
        refine qo ha rfl rfl rfl fun a ha => ?_
        refine qo ha rfl rfl rfl fun a ha => ?_
        refine qo ha rfl rfl rfl fun a ha => ?_
        refine qo ha rfl rfl rfl fun a ha => ?_
        refine qo ha rfl rfl rfl fun a ha => ?_
        refine qo ha rfl rfl rfl fun a ha => ?_
        refine qo ha rfl rfl rfl fun a ha => ?_
        refine qo ha rfl rfl rfl fun a ha => ?_
        refine qo ha rfl rfl rfl fun a ha => ?_
        refine qo ha rfl rfl rfl fun a ha => ?_
        refine qo ha rfl rfl rfl fun a ha => ?_
        refine qp 4 (.bool false) ha rfl rfl rfl (by kernel_rfl) fun a ha => ?_
        refine qp 0 (.bool false) ha rfl rfl rfl (by kernel_rfl) fun a ha => ?_
        refine wpQuiet_nil ?_
        intro w43 hc44
        have o1 : Ok [] (M) w20.heap.size := Ok.nil _ _
        have o2 : Ok (M) (M) w20.heap.size := (fun _ h => .inl (h))
        have f1 := f1.chg hc44 o1 o2
        have f2 := f2.chg hc44 o1 o2
        have f18 := f18.chg hc44 o1 o2
        have f21 := f21.chg hc44 o1 o2
        have q_hn8 : g5 ∉ M := fun h => (o2 g5 h).elim hn8 (fun h => absurd (lt_cell (hE7 0 _ rfl)) (Nat.not_lt.2 h))
        have hE7 : ∀ j v, (cS_api_Tunnel a0 ao1 cap1)[j]? = some v → w43.cell? ⟨g5, 0 + j, none⟩ = some v := fun j v hv => (cell_keep hc44 o1 hn8 (hE7 j v hv))
        have hn8 := q_hn8
        have q_hn13 : g10 ∉ M := fun h => (o2 g10 h).elim hn13 (fun h => absurd (lt_cell (hE12 0 _ rfl)) (Nat.not_lt.2 h))
        have hE12 : ∀ j v, (cS_api_Tunnel a1 ao2 cap2)[j]? = some v → w43.cell? ⟨g10, 0 + j, none⟩ = some v := fun j v hv => (cell_keep hc44 o1 hn13 (hE12 j v hv))
        have hn13 := q_hn13
        have hM : MS (M) w43 := (fun x h => hM.chg hc44 x (h))
        have hC := hC.trans hc44 (Ok.nil _ _)
        refine wpl_end ?_
        obtain rfl := Option.some.inj H
        exact J31 _ _ (ha.sel (by kernel_rfl)) hC hM
end Go.E
