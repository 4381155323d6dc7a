/- What the functions that the law reaches compute, and the walks that show it. -/
import Derived.Test.YtkmgglijdfbhpaaDoorEngU
import Derived.Test.YtkmgglijdfbhpaaDoorShelf
import Derived.Test.YtkmgglijdfbhpaaDoorProg
import Derived.Test.YtkmgglijdfbhpaaDoorGenAddrBackP0
set_option linter.unusedVariables false
set_option linter.unusedSimpArgs false
namespace Go.E
open Go.RowKit Go.Proofs
def addr_written.l0 (k : Nat) (a0 : List Int) : Nat → (List (List UInt8)) → Int → Option (List (List UInt8))
  | 0, _, _ => none
  | kk + 1, x8, x9 => (if (decide (x9 < (a0.length : Int))) = true then (if 0 ≤ x9 ∧ x9 < (a0.length : Int) then (strconv_FormatInt_83.f k (rd a0 x9) (16 : Int)).bind fun t26 => (if (x8.length + ([t26] : List (List UInt8)).length) * 16 ≤ 140737488355328 then addr_written.l0 k a0 kk (x8 ++ ([t26] : List (List UInt8))) (IntKind.i64.wrap (x9 + (1 : Int))) else none) else none) else some (x8 : List (List UInt8)))
def addr_written.f (k : Nat) (a0 : List Int) : Option (List UInt8) := (addr_written.l0 k a0 k ([] : List (List UInt8)) (0 : Int)).bind fun s6 => (strings_Join.f s6 ([58] : List UInt8)).bind fun t12 => some ((t12 : List UInt8))
set_option maxRecDepth 100000 in
theorem addr_written.walk (w : World) (M : List Nat) (hM : MS M w) (hG : GF w M) (a0 : List Int) (ao1 : Option Addr) (cap1 : Nat) (f1 : RSl (rInt .i64) 3 w M ao1 cap1 a0) (k : Nat) (r : List UInt8) (H : addr_written.f k a0 = some r) :
    To Tryd.prog 67 [.slice ao1 a0.length cap1] w fun v w' => v = .string (bstr r) ∧ Chg [] w w' ∧ MS (M) w' := by
 unfold addr_written.f at H
 refine ent Tryd.func67 rfl [(0, .slice ao1 a0.length cap1)] rfl (by rfl) fun a ha => ?_
 have hC : Chg [] w w := Chg.refl _ _
 refine wp_seq_k fun K2 hK2 => ?_
 refine wp_region_lit ?_
 refine seg ha 1 [(0, .slice ao1 a0.length cap1)] (by kernel_rfl) fun a ha => ?_
 refine hK2 _ _ ?_; try clear hK2 K2
 refine wp_seq_k fun K3 hK3 => ?_
 refine wp_region_lit ?_
 refine seg ha 1 [(0, .slice ao1 a0.length cap1), (3, .slice none 0 0)] (by kernel_rfl) fun a ha => ?_
 refine hK3 _ _ ?_; try clear hK3 K3
 refine wp_seq_k fun K4 hK4 => ?_
 refine wp_seq_k fun K5 hK5 => ?_
 refine wp_region_lit ?_
 refine seg ha 3 [(3, .slice none 0 0), (6, .slice ao1 a0.length cap1), (7, .int .i64 (a0.length : Int)), (8, .int .i64 (0 : Int))] (by kernel_rfl) fun a ha => ?_
 refine hK5 _ _ ?_; try clear hK5 K5
 refine wp_block ?_
 obtain ⟨s6, H6, H⟩ := bind_some H
 have J6 : ∀ (a : Act) (wx6 : World) (ao10 : Option Addr) (cap10 : Nat), Has a Tryd.f67.ntmps [(3, .slice ao10 s6.length cap10)] → (Own rStr 9 wx6 (blkL ao10 ++ (M)) ao10 cap10 s6) → (∀ x ∈ blkL ao10, w.heap.size ≤ x) → (∀ x ∈ blkL ao10, x ∉ M) → (GF wx6 (blkL ao10 ++ (M))) → (Chg [] w wx6) → (MS (blkL ao10 ++ (M)) wx6) → K4 a wx6 := by
  intro a wx6 ao10 cap10 ha f10 e_i10 p_i10_M hG hC hM
  refine hK4 _ _ ?_; try clear hK4 K4
  refine wp_seq_k fun K11 hK11 => ?_
  refine wp_region_lit ?_
  refine seg ha 1 [(18, .slice ao10 s6.length cap10)] (by kernel_rfl) fun a ha => ?_
  have hML : MS (M) wx6 := MS.rest hM (fun _ h => mr (h))
  have oL : Ok (M) (blkL ao10 ++ (M)) wx6.heap.size := (fun _ h => .inl (mr (h)))
  obtain ⟨t12, H12, H⟩ := bind_some H
  refine cl ha (by rfl) (by kernel_rfl) (by rfl) (by rfl) (by rfl) (strings_Join.walk wx6 _ hML s6 ao10 cap10 (Own.toRSl (M' := M) f10 oL (fun x hx hm => p_i10_M x hx hm)) ([58] : List UInt8) _ H12) ?_
  rintro _ w12 ⟨rfl, hc12, hMn⟩ a ha
  have o1 : Ok [] (blkL ao10 ++ (M)) wx6.heap.size := Ok.nil _ _
  have o2 : Ok (blkL ao10 ++ (M)) (blkL ao10 ++ (M)) wx6.heap.size := (Ok.refl _ _)
  have hG := hG.chg hc12 o1 o2
  have f10 := f10.chg hc12 o1 o2 (fun _ _ h => nomatch h) (fun _ h => ml h)
  have hM : MS (blkL ao10 ++ (M)) w12 := (hM.chg hc12)
  have hC := hC.trans hc12 (Ok.nil _ _)
  refine seg ha 1 [(2, .string (bstr t12))] (by kernel_rfl) fun a ha => ?_
  refine hK11 _ _ ?_; try clear hK11 K11
  refine wp_ret ?_
  try simp only [Exit.then, Exit.inBlock]
  have o1 : Ok [] (blkL ao10 ++ (M)) w12.heap.size := Ok.nil _ _
  have o2 : Ok (M) (blkL ao10 ++ (M)) w12.heap.size := (fun _ h => .inl (mr (h)))
  have hG := hG.chg (Chg.refl [] _) o1 o2
  have hM : MS (M) w12 := (fun x h => hM.chg (Chg.refl [] _) x (mr (h)))
  have hC := hC.trans (Chg.refl [] _) (Ok.nil _ _)
  obtain rfl := Option.some.inj H
  refine rt1 ha rfl rfl ?_
  exact ⟨rfl, hC, hM⟩
 have Hc6 := H
 have H := H6
 refine wp_loop_ghost (fun kk a w6 => ∃ (x8 : List (List UInt8)) (x9 : Int) (ao7 : Option Addr) (cap7 : Nat), addr_written.l0 k a0 kk x8 x9 = some s6 ∧ Has a Tryd.f67.ntmps [(3, .slice ao7 x8.length cap7), (6, .slice ao1 a0.length cap1), (7, .int .i64 (a0.length : Int)), (8, .int .i64 x9)] ∧ (Own rStr 9 w6 (blkL ao7 ++ (M)) ao7 cap7 x8) ∧ (RSl (rInt .i64) 3 w6 (blkL ao7 ++ (M)) ao1 cap1 a0) ∧ (∀ x ∈ blkL ao7, w.heap.size ≤ x) ∧ (∀ x ∈ blkL ao7, x ∉ M) ∧ (GF w6 (blkL ao7 ++ (M))) ∧ (Chg [] w w6) ∧ (MS (blkL ao7 ++ (M)) w6)) k ?_ ?_
 ·skip
  have o1 : Ok [] (M) w.heap.size := Ok.nil _ _
  have o2 : Ok (blkL none ++ (M)) (M) w.heap.size := (Ok.app (fun _ h => nomatch h) (Ok.refl _ _))
  have hG := hG.chg (Chg.refl [] _) o1 o2
  have f1 := f1.chg (Chg.refl [] _) o1 o2
  have p_z13_M : ∀ x ∈ blkL none, x ∉ M := fun x hx hy => absurd (hM x (hy)) (Nat.not_lt.2 ((fun _ h => nomatch h) x hx))
  have e_z13 : ∀ x ∈ blkL none, w.heap.size ≤ x := fun x hx => Nat.le_trans hC.size ((fun _ h => nomatch h) x hx)
  have hM : MS (blkL none ++ (M)) w := (MS.app (fun _ h => nomatch h) (hM.chg (Chg.refl [] _)))
  have hC := hC.trans (Chg.refl [] _) (Ok.nil _ _)
  exact ⟨([] : List (List UInt8)), (0 : Int), none, 0, H, (ha.sel (by kernel_rfl)), Own.nil, f1, e_z13, p_z13_M, hG, hC, hM⟩
 ·rintro kk a w6 ⟨x8, x9, ao7, cap7, H, ha, f7, f1, e_i7, p_i7_M, hG, hC, hM⟩
  obtain _ | kk := kk
  ·exact nomatch (show none = some _ from H)
  rw [addr_written.l0] at H
  refine wp_seq_k fun K14 hK14 => ?_
  refine wp_region_lit ?_
  refine seg ha 1 [(3, .slice ao7 x8.length cap7), (6, .slice ao1 a0.length cap1), (7, .int .i64 (a0.length : Int)), (8, .int .i64 x9), (9, .bool (decide (x9 < (a0.length : Int))))] (by kernel_rfl) fun a ha => ?_
  refine hK14 _ _ ?_; try clear hK14 K14
  refine wp_seq_k fun K15 hK15 => ?_
  refine cnd ha rfl (fun hc16 => ?_) (fun hc16 => ?_)
  ·have H := ite_t hc16 H
   refine wp_skip ?_
   refine hK15 _ _ ?_; try clear hK15 K15
   refine wp_seq_k fun K17 hK17 => ?_
   refine wp_block ?_
   refine wp_seq_k fun K18 hK18 => ?_
   refine wp_region_lit ?_
   obtain ⟨⟨hx19, hx19'⟩, H⟩ := ite_some H
   refine ix (r := (rInt .i64)) ha (by kernel_rfl) (by kernel_rfl) rfl rfl rfl rfl rfl f1 hx19 hx19' fun a ge20 oe21 cs22 hn25 hR23 hE24 ha => ?_
   rw [rd_get] at hR23
   obtain rfl := hR23
   have hE24 : ∀ j v, ([.int .i64 (rd a0 x9)] : List Value)[j]? = some v → w6.cell? ⟨ge20, oe21 + j, none⟩ = some v := hE24
   refine ld ha rfl (by kernel_rfl) rfl rfl rfl (hE24 0 (.int .i64 (rd a0 x9)) (by kernel_rfl)) fun a ha => ?_
   refine seg ha 1 [(3, .slice ao7 x8.length cap7), (5, .int .i64 (rd a0 x9)), (6, .slice ao1 a0.length cap1), (7, .int .i64 (a0.length : Int)), (8, .int .i64 x9)] (by kernel_rfl) fun a ha => ?_
   refine hK18 _ _ ?_; try clear hK18 K18
   refine wp_region_lit ?_
   refine seg ha 2 [(6, .slice ao1 a0.length cap1), (7, .int .i64 (a0.length : Int)), (8, .int .i64 x9), (12, .slice ao7 x8.length cap7), (13, .int .i64 (rd a0 x9))] (by kernel_rfl) fun a ha => ?_
   obtain ⟨t26, H26, H⟩ := bind_some H
   refine cl ha (by rfl) (by kernel_rfl) (by rfl) (by rfl) (by rfl) (strconv_FormatInt_83.walk w6 _ hM hG (rd a0 x9) (16 : Int) k _ H26) ?_
   rintro _ w26 ⟨rfl, hc26, hMn⟩ a ha
   have o1 : Ok [] (blkL ao7 ++ (M)) w6.heap.size := Ok.nil _ _
   have o2 : Ok (blkL ao7 ++ (M)) (blkL ao7 ++ (M)) w6.heap.size := (Ok.refl _ _)
   have hG := hG.chg hc26 o1 o2
   have f1 := f1.chg hc26 o1 o2
   have f7 := f7.chg hc26 o1 o2 (fun _ _ h => nomatch h) (fun _ h => ml h)
   have hM : MS (blkL ao7 ++ (M)) w26 := (hM.chg hc26)
   have hC := hC.trans hc26 (Ok.nil _ _)
   refine bsl (vals := ([.string (bstr t26)] : List Value)) (T := 9) ha rfl (([.string (bstr t26)] : List Value) ++ ([] : List Value)) (fun w => by kernel_rfl) rfl rfl rfl fun a w27 g28 hN29 ha => ?_
   have o1 : Ok [] (blkL ao7 ++ (M)) w26.heap.size := Ok.nil _ _
   have o2 : Ok ([g28] ++ (blkL ao7 ++ (M))) (blkL ao7 ++ (M)) w26.heap.size := (Ok.app (hN29.ok _) (Ok.refl _ _))
   have hG := hG.chg hN29.chg o1 o2
   have f1 := f1.chg hN29.chg o1 o2
   have f7 := f7.chg hN29.chg o1 o2 (fun _ _ h => nomatch h) (fun _ h => mr (ml h))
   have p_i30_i7 : ∀ x ∈ [g28], x ∉ (blkL ao7) := fun x hx hy => absurd (hM x (ml hy)) (Nat.not_lt.2 ((hN29.ge1) x hx))
   have p_i30_M : ∀ x ∈ [g28], x ∉ M := fun x hx hy => absurd (hM x (mr (hy))) (Nat.not_lt.2 ((hN29.ge1) x hx))
   have e_i30 : ∀ x ∈ [g28], w.heap.size ≤ x := fun x hx => Nat.le_trans hC.size ((hN29.ge1) x hx)
   have hM : MS ([g28] ++ (blkL ao7 ++ (M))) w27 := (MS.app hN29.ms (hM.chg hN29.chg))
   have hC := hC.trans hN29.chg (Ok.nil _ _)
   have f31 : Own rStr 9 w27 ([g28] ++ (blkL ao7 ++ (M))) (some ⟨g28, 0, none⟩) 1 ([t26] : List (List UInt8)) := hN29.own ⟨([.string (bstr t26)] : List Value), _, rfl, rfl, rfl⟩ (Nat.le_of_ble_eq_true rfl)
   obtain ⟨hx32, H⟩ := ite_some H
   refine app (r := rStr) (xs := x8) (ys := ([t26] : List (List UInt8))) ha (ElemT.mk' (bytes := 16) (by kernel_rfl)) rfl rfl rfl rfl rfl f7 f31.src hx32 (by decide) fun a w33 ao34 cap34 hO34 hc34 hk34 hl34 ha => ?_
   have o1 : Ok (blkL ao7) ([g28] ++ (blkL ao7 ++ (M))) w27.heap.size := (fun _ h => .inl (mr (ml h)))
   have o2 : Ok (blkL ao34 ++ ([g28] ++ (M))) ([g28] ++ (blkL ao7 ++ (M))) w27.heap.size := (Ok.app (Ok.to hk34 (fun _ h => mr (ml h))) (Ok.app (fun _ h => .inl (ml h)) (fun _ h => .inl (mr (mr (h))))))
   have hG := hG.chg hc34 o1 o2
   have f1 := f1.chg hc34 o1 o2
   have f31 := f31.chg hc34 o1 o2 p_i30_i7 (fun _ h => mr (ml h))
   have p_i34_i30 : ∀ x ∈ blkL ao34, x ∉ ([g28]) := fun x hx hy => (hk34 x hx).elim (fun h => (fun x hx hy => p_i30_i7 x hy hx) x h hy) (fun h => absurd (hM x (ml hy)) (Nat.not_lt.2 h))
   have p_i34_M : ∀ x ∈ blkL ao34, x ∉ M := fun x hx hy => (hk34 x hx).elim (fun h => p_i7_M x h hy) (fun h => absurd (hM x (mr (mr (hy)))) (Nat.not_lt.2 h))
   have e_i34 : ∀ x ∈ blkL ao34, w.heap.size ≤ x := fun x hx => (hk34 x hx).elim (e_i7 x) (Nat.le_trans hC.size)
   have hM : MS (blkL ao34 ++ ([g28] ++ (M))) w33 := (MS.app hl34 (MS.app (fun x h => hM.chg hc34 x (ml h)) (fun x h => hM.chg hc34 x (mr (mr (h))))))
   have hC := hC.trans hc34 (fun x h => .inr (e_i7 x h))
   have f34 := hO34.chg (M' := blkL ao34 ++ ([g28] ++ (M))) (Chg.refl [] _) (Ok.nil _ _) (Ok.app (fun _ h => .inl (ml h)) (Ok.to (Ok.app (fun _ h => .inl (ml h)) (fun _ h => .inl (mr (mr (h))))) (fun _ h => mr h))) (fun _ _ h => nomatch h) (fun _ h => ml h)
   refine seg ha 1 [(3, .slice ao34 (x8 ++ ([t26] : List (List UInt8))).length cap34), (6, .slice ao1 a0.length cap1), (7, .int .i64 (a0.length : Int)), (8, .int .i64 x9)] (by kernel_rfl) fun a ha => ?_
   refine hK17 _ _ ?_; try clear hK17 K17
   refine wp_region_lit ?_
   refine seg ha 2 [(3, .slice ao34 (x8 ++ ([t26] : List (List UInt8))).length cap34), (6, .slice ao1 a0.length cap1), (7, .int .i64 (a0.length : Int)), (8, .int .i64 (IntKind.i64.wrap (x9 + (1 : Int))))] (by kernel_rfl) fun a ha => ?_
   have o1 : Ok [] (blkL ao34 ++ ([g28] ++ (M))) w33.heap.size := Ok.nil _ _
   have o2 : Ok (blkL ao34 ++ (M)) (blkL ao34 ++ ([g28] ++ (M))) w33.heap.size := (Ok.app (fun _ h => .inl (ml h)) (fun _ h => .inl (mr (mr (h)))))
   have hG := hG.chg (Chg.refl [] _) o1 o2
   have f1 := f1.chg (Chg.refl [] _) o1 o2
   have f34 := f34.chg (Chg.refl [] _) o1 o2 (fun _ _ h => nomatch h) (fun _ h => ml h)
   have hM : MS (blkL ao34 ++ (M)) w33 := (MS.app (fun x h => hM.chg (Chg.refl [] _) x (ml h)) (fun x h => hM.chg (Chg.refl [] _) x (mr (mr (h)))))
   have hC := hC.trans (Chg.refl [] _) (Ok.nil _ _)
   exact ⟨kk, Nat.lt_succ_self _, ⟨(x8 ++ ([t26] : List (List UInt8))), IntKind.i64.wrap (x9 + (1 : Int)), ao34, cap34, H, (ha.sel (by kernel_rfl)), f34, f1, e_i34, p_i34_M, hG, hC, hM⟩⟩
  ·have H := ite_f hc16 H
   refine wp_exit ?_
   simp only [Exit.then, Exit.inBlock, ↓reduceIte, Nat.reduceEqDiff]
   obtain rfl := Option.some.inj H
   exact J6 _ _ ao7 cap7 (ha.sel (by kernel_rfl)) f7 e_i7 p_i7_M hG hC hM
def addr_text6.f (k : Nat) (a0 : S_api_Addr) : Option (List UInt8) := (addr_numbers.f k a0).bind fun t8 => (addr_gap.f k t8).bind fun t16 => (if (decide (t16.2 < (2 : Int))) = true then (addr_written.f k (arL 8 t8)).bind fun t22 => some ((t22 : List UInt8)) else (if 0 ≤ (0 : Int) ∧ (0 : Int) ≤ t16.1 ∧ t16.1 ≤ (8 : Int) then (addr_written.f k (((arL 8 t8).take (Int.toNat t16.1)).drop (Int.toNat (0 : Int)))).bind fun t26 => (if (t26 ++ ([58, 58] : List UInt8)).length ≤ 9223372036854775807 then (if 0 ≤ (IntKind.i64.wrap (t16.1 + t16.2)) ∧ (IntKind.i64.wrap (t16.1 + t16.2)) ≤ (8 : Int) ∧ (8 : Int) ≤ (8 : Int) then (addr_written.f k (((arL 8 t8).take (Int.toNat (8 : Int))).drop (Int.toNat (IntKind.i64.wrap (t16.1 + t16.2))))).bind fun t30 => (if ((t26 ++ ([58, 58] : List UInt8)) ++ t30).length ≤ 9223372036854775807 then some (((t26 ++ ([58, 58] : List UInt8)) ++ t30 : List UInt8)) else none) else none) else none) else none))
set_option maxRecDepth 100000 in
theorem addr_text6.walk (w : World) (M : List Nat) (hM : MS M w) (hG : GF w M) (a0 : S_api_Addr) (k : Nat) (r : List UInt8) (H : addr_text6.f k a0 = some r) :
    To Tryd.prog 42 [.agg (cS_api_Addr a0).toArray] w fun v w' => v = .string (bstr r) ∧ Chg [] w w' ∧ MS (M) w' := by
 unfold addr_text6.f at H
 refine ent Tryd.func42 rfl [(0, .agg (cS_api_Addr a0).toArray)] rfl (by rfl) fun a ha => ?_
 have hC : Chg [] w w := Chg.refl _ _
 refine wp_seq_k fun K1 hK1 => ?_
 refine wp_region_lit ?_
 refine bx (cs := (cS_api_Addr a0)) ha rfl rfl rfl rfl rfl fun a w2 g3 hN4 ha => ?_
 have hn6 := hN4.notin hM
 have o1 : Ok [] (M) w.heap.size := Ok.nil _ _
 have o2 : Ok (M) (M) w.heap.size := (Ok.refl _ _)
 have hG := hG.chg hN4.chg o1 o2
 have hM : MS (M) w2 := (hM.chg hN4.chg)
 have hC := hC.trans hN4.chg (Ok.nil _ _)
 have hE5 : ∀ j v, (cS_api_Addr a0)[j]? = some v → w2.cell? ⟨g3, 0 + j, none⟩ = some v := Box.cells (New.box hN4)
 refine seg ha 1 [(1, .pointer (some ⟨g3, 0, none⟩))] (by kernel_rfl) fun a ha => ?_
 refine hK1 _ _ ?_; try clear hK1 K1
 refine wp_seq_k fun K7 hK7 => ?_
 refine wp_region_lit ?_
 refine ldA (cs := (cS_api_Addr a0)) ha rfl (by kernel_rfl) rfl rfl rfl (cells_sub hE5 (all := (cS_api_Addr a0)) [] [] (by kernel_rfl)) fun a ha => ?_
 obtain ⟨t8, H8, H⟩ := bind_some H
 refine cl ha (by rfl) (by kernel_rfl) (by rfl) (by rfl) (by rfl) (addr_numbers.walk w2 _ hM a0 k _ H8) ?_
 rintro _ w8 ⟨rfl, hc8, hMn⟩ a ha
 have o1 : Ok [] (M) w2.heap.size := Ok.nil _ _
 have o2 : Ok (M) (M) w2.heap.size := (Ok.refl _ _)
 have hG := hG.chg hc8 o1 o2
 have hM : MS (M) w8 := (hM.chg hc8)
 have hC := hC.trans hc8 (Ok.nil _ _)
 refine al (cs := (cA .i64 8 (List.replicate 8 (0 : Int)))) (z := .agg (cA .i64 8 (List.replicate 8 (0 : Int))).toArray) ha (fun w => by kernel_rfl) rfl rfl rfl rfl fun a w9 g10 hN11 ha => ?_
 have o1 : Ok [] (M) w8.heap.size := Ok.nil _ _
 have o2 : Ok ([g10] ++ (M)) (M) w8.heap.size := (Ok.app (hN11.ok _) (Ok.refl _ _))
 have hG := hG.chg hN11.chg o1 o2
 have p_i12_M : ∀ x ∈ [g10], x ∉ M := fun x hx hy => absurd (hM x (hy)) (Nat.not_lt.2 ((hN11.ge1) x hx))
 have e_i12 : ∀ x ∈ [g10], w.heap.size ≤ x := fun x hx => Nat.le_trans hC.size ((hN11.ge1) x hx)
 have hM : MS ([g10] ++ (M)) w9 := (MS.app hN11.ms (hM.chg hN11.chg))
 have hC := hC.trans hN11.chg (Ok.nil _ _)
 have hBg10 : Box w9 g10 (cA .i64 8 (List.replicate 8 (0 : Int))) := hN11.box
 refine stA (l := (cA .i64 8 t8)) ha rfl rfl rfl (by kernel_rfl) rfl rfl hBg10 rfl fun a w13 ha hb2 hc14 _ => ?_
 have o1 : Ok [g10] ([g10] ++ (M)) w9.heap.size := (fun _ h => .inl (ml h))
 have o2 : Ok ([g10] ++ (M)) ([g10] ++ (M)) w9.heap.size := (Ok.refl _ _)
 have hG := hG.chg hc14 o1 o2
 have hM : MS ([g10] ++ (M)) w13 := (hM.chg hc14)
 have hC := hC.trans hc14 (fun x h => .inr (e_i12 x h))
 have hBg10 : Box w13 g10 (cA .i64 8 t8) := hb2
 refine hK7 _ _ ?_; try clear hK7 K7
 refine wp_seq_k fun K15 hK15 => ?_
 refine wp_region_lit ?_
 refine ldA (cs := (cA .i64 8 t8)) ha rfl (by kernel_rfl) rfl rfl rfl (cells_sub (Box.cells hBg10) (all := (cA .i64 8 t8)) [] [] (by kernel_rfl)) fun a ha => ?_
 obtain ⟨t16, H16, H⟩ := bind_some H
 refine cl ha (by rfl) (by kernel_rfl) (by rfl) (by rfl) (by rfl) (addr_gap.walk w13 _ hM t8 k _ H16) ?_
 rintro _ w16 ⟨rfl, hc16, hMn⟩ a ha
 have o1 : Ok [] ([g10] ++ (M)) w13.heap.size := Ok.nil _ _
 have o2 : Ok ([g10] ++ (M)) ([g10] ++ (M)) w13.heap.size := (Ok.refl _ _)
 have hG := hG.chg hc16 o1 o2
 have hBg10 := hBg10.chg hc16 (fun h => nomatch h)
 have hM : MS ([g10] ++ (M)) w16 := (hM.chg hc16)
 have hC := hC.trans hc16 (Ok.nil _ _)
 refine seg ha 5 [(3, .pointer (some ⟨g10, 0, none⟩)), (4, .int .i64 t16.1), (5, .int .i64 t16.2)] (by kernel_rfl) fun a ha => ?_
 refine hK15 _ _ ?_; try clear hK15 K15
 refine wp_seq_k fun K17 hK17 => ?_
 refine wp_seq_k fun K18 hK18 => ?_
 refine wp_region_lit ?_
 refine seg ha 2 [(3, .pointer (some ⟨g10, 0, none⟩)), (4, .int .i64 t16.1), (5, .int .i64 t16.2), (14, .bool (decide (t16.2 < (2 : Int))))] (by kernel_rfl) fun a ha => ?_
 refine hK18 _ _ ?_; try clear hK18 K18
 refine cnd ha rfl (fun hc19 => ?_) (fun hc19 => ?_)
 ·have H := ite_t hc19 H
  refine wp_seq_k fun K20 hK20 => ?_
  refine wp_region_lit ?_
  refine opk (v := .slice (some ⟨g10, 0, none⟩) 8 8) ha rfl rfl rfl rfl rfl (fun w => by kernel_rfl) fun a ha => ?_
  have fw21 : RSl (rInt .i64) 3 w16 (butL g10 w16) (some ⟨g10, 0, none⟩) 8 (arL 8 t8) := RSl.ofA ([] : List Value) ([] : List Value) (Box.cells hBg10) butL_self (by kernel_rfl) rfl
  have hML : MS (M) w16 := MS.rest hM (fun _ h => mr (h))
  have oL : Ok (M) ([g10] ++ (M)) w16.heap.size := (fun _ h => .inl (mr (h)))
  obtain ⟨t22, H22, H⟩ := bind_some H
  refine cl ha (by rfl) (by kernel_rfl) (by rfl) (by rfl) (by rfl) (addr_written.walk w16 _ hML (hG.chg (Chg.refl [] _) (Ok.nil _ _) oL) (arL 8 t8) (some ⟨g10, 0, none⟩) 8 (RSl.chg (M' := M) fw21 (Chg.refl [] _) (Ok.nil _ _) (butL_ok (fun x hm e0 => (fun (hx : x ∈ [g10]) => p_i12_M x hx hm) (by rw [e0]; exact List.mem_singleton.2 rfl)))) k _ H22) ?_
  rintro _ w22 ⟨rfl, hc22, hMn⟩ a ha
  have o1 : Ok [] ([g10] ++ (M)) w16.heap.size := Ok.nil _ _
  have o2 : Ok ([g10] ++ (M)) ([g10] ++ (M)) w16.heap.size := (Ok.refl _ _)
  have hG := hG.chg hc22 o1 o2
  have fw21 := fw21.chg (M' := butL g10 w22) hc22 (Ok.nil _ _) butL_chg
  have hBg10 := hBg10.chg hc22 (fun h => nomatch h)
  have hM : MS ([g10] ++ (M)) w22 := (hM.chg hc22)
  have hC := hC.trans hc22 (Ok.nil _ _)
  refine seg ha 1 [(2, .string (bstr t22))] (by kernel_rfl) fun a ha => ?_
  refine hK20 _ _ ?_; try clear hK20 K20
  refine wp_ret ?_
  try simp only [Exit.then, Exit.inBlock]
  have o1 : Ok [] ([g10] ++ (M)) w22.heap.size := Ok.nil _ _
  have o2 : Ok (M) ([g10] ++ (M)) w22.heap.size := (fun _ h => .inl (mr (h)))
  have hG := hG.chg (Chg.refl [] _) o1 o2
  have hBg10 := hBg10.chg (Chg.refl [] _) (fun h => nomatch h)
  have hM : MS (M) w22 := (fun x h => hM.chg (Chg.refl [] _) x (mr (h)))
  have hC := hC.trans (Chg.refl [] _) (Ok.nil _ _)
  obtain rfl := Option.some.inj H
  refine rt1 ha rfl rfl ?_
  exact ⟨rfl, hC, hM⟩
 ·have H := ite_f hc19 H
  refine wp_skip ?_
  refine hK17 _ _ ?_; try clear hK17 K17
  refine wp_seq_k fun K23 hK23 => ?_
  refine drq0 (fun w' => Chg [] w16 w') (by kernel_rfl) (by kernel_rfl) (fun _ h => h) ?_
  refine qp 0 (.int .i64 t16.1) ha rfl rfl rfl (by kernel_rfl) fun a ha => ?_
  have fw24 : RSl (rInt .i64) 3 w16 (butL g10 w16) (some ⟨g10, 0, none⟩) 8 (arL 8 t8) := RSl.ofA ([] : List Value) ([] : List Value) (Box.cells hBg10) butL_self (by kernel_rfl) rfl
  obtain ⟨⟨hx25, hx25', hx25''⟩, H⟩ := ite_some H
  obtain ⟨ao25, cap25, f25, hr25⟩ := slA_run (kk := .i64) (T := 3) (N := 8) (g := g10) (o' := 0) (xs := (arL 8 t8)) (t := 88) (lo := Option.none) (hi := (Option.some (Operand.tmp 17))) (l := (0 : Int)) (h := t16.1) (dd := some 18) (ty := 66) (pos := "addr.go:86") (af := #[{ on := 0, ground := Ground.data }]) (gd := Option.none) ha (by kernel_rfl) (by kernel_rfl) (x := (Operand.tmp 3)) rfl (arL_length _ _) rfl rfl fw24 hx25 hx25' (by rw [arL_length]; exact hx25'')
  refine qv (v := .slice ao25 (((arL 8 t8).take (Int.toNat t16.1)).drop (Int.toNat (0 : Int))).length cap25) ha rfl rfl rfl (fun w' hs => hr25 w') fun a ha => ?_
  obtain ⟨t26, H26, H⟩ := bind_some H
  refine qc (.string (bstr t26)) ha (by rfl) (by kernel_rfl) (by rfl) (by rfl) (by rfl) (fun w' hs => (addr_written.walk w' [] (MS.nil _) (hG.chg (M' := []) hs (Ok.nil _ _) (Ok.nil _ _)) (((arL 8 t8).take (Int.toNat t16.1)).drop (Int.toNat (0 : Int))) ao25 cap25 (RSl.chg (M' := []) f25 hs (Ok.nil _ _) (Ok.nil _ _)) k _ H26).mono fun v w'' ⟨hv, hc, _⟩ => ⟨hv, hs.trans hc (Ok.nil _ _)⟩) fun a ha => ?_
  obtain ⟨hx27, H⟩ := ite_some H
  refine qv (v := .string (bstr (t26 ++ ([58, 58] : List UInt8)))) ha rfl rfl rfl (fun w' hs => sadd_run ha rfl rfl hx27 w') fun a ha => ?_
  refine qp 0 (.int .i64 t16.1) ha rfl rfl rfl (by kernel_rfl) fun a ha => ?_
  refine qp 0 (.int .i64 t16.2) ha rfl rfl rfl (by kernel_rfl) fun a ha => ?_
  refine qp 0 (.int .i64 (IntKind.i64.wrap (t16.1 + t16.2))) ha rfl rfl rfl (by kernel_rfl) fun a ha => ?_
  have fw28 : RSl (rInt .i64) 3 w16 (butL g10 w16) (some ⟨g10, 0, none⟩) 8 (arL 8 t8) := RSl.ofA ([] : List Value) ([] : List Value) (Box.cells hBg10) butL_self (by kernel_rfl) rfl
  obtain ⟨⟨hx29, hx29', hx29''⟩, H⟩ := ite_some H
  obtain ⟨ao29, cap29, f29, hr29⟩ := slA_run (kk := .i64) (T := 3) (N := 8) (g := g10) (o' := 0) (xs := (arL 8 t8)) (t := 88) (lo := (Option.some (Operand.tmp 23))) (hi := Option.none) (l := (IntKind.i64.wrap (t16.1 + t16.2))) (h := (8 : Int)) (dd := some 24) (ty := 66) (pos := "addr.go:86") (af := #[{ on := 6, ground := Ground.data }]) (gd := Option.none) ha (by kernel_rfl) (by kernel_rfl) (x := (Operand.tmp 3)) rfl (arL_length _ _) rfl rfl fw28 hx29 hx29' (by rw [arL_length]; exact hx29'')
  refine qv (v := .slice ao29 (((arL 8 t8).take (Int.toNat (8 : Int))).drop (Int.toNat (IntKind.i64.wrap (t16.1 + t16.2)))).length cap29) ha rfl rfl rfl (fun w' hs => hr29 w') fun a ha => ?_
  obtain ⟨t30, H30, H⟩ := bind_some H
  refine qc (.string (bstr t30)) ha (by rfl) (by kernel_rfl) (by rfl) (by rfl) (by rfl) (fun w' hs => (addr_written.walk w' [] (MS.nil _) (hG.chg (M' := []) hs (Ok.nil _ _) (Ok.nil _ _)) (((arL 8 t8).take (Int.toNat (8 : Int))).drop (Int.toNat (IntKind.i64.wrap (t16.1 + t16.2)))) ao29 cap29 (RSl.chg (M' := []) f29 hs (Ok.nil _ _) (Ok.nil _ _)) k _ H30).mono fun v w'' ⟨hv, hc, _⟩ => ⟨hv, hs.trans hc (Ok.nil _ _)⟩) fun a ha => ?_
  obtain ⟨hx31, H⟩ := ite_some H
  refine qv (v := .string (bstr ((t26 ++ ([58, 58] : List UInt8)) ++ t30))) ha rfl rfl rfl (fun w' hs => sadd_run ha rfl rfl hx31 w') fun a ha => ?_
  refine qp 0 (.string (bstr ((t26 ++ ([58, 58] : List UInt8)) ++ t30))) ha rfl rfl rfl (by kernel_rfl) fun a ha => ?_
  refine wpQuiet_nil ?_
  intro w32 hc33
  have o1 : Ok [] ([g10] ++ (M)) w16.heap.size := Ok.nil _ _
  have o2 : Ok ([g10] ++ (M)) ([g10] ++ (M)) w16.heap.size := (Ok.refl _ _)
  have hG := hG.chg hc33 o1 o2
  have f25 := f25.chg (M' := butL g10 w32) hc33 (Ok.nil _ _) butL_chg
  have f29 := f29.chg (M' := butL g10 w32) hc33 (Ok.nil _ _) butL_chg
  have hBg10 := hBg10.chg hc33 (fun h => nomatch h)
  have hM : MS ([g10] ++ (M)) w32 := (hM.chg hc33)
  have hC := hC.trans hc33 (Ok.nil _ _)
  refine wpl_end ?_
  refine hK23 _ _ ?_; try clear hK23 K23
  refine wp_ret ?_
  try simp only [Exit.then, Exit.inBlock]
  have o1 : Ok [] ([g10] ++ (M)) w32.heap.size := Ok.nil _ _
  have o2 : Ok (M) ([g10] ++ (M)) w32.heap.size := (fun _ h => .inl (mr (h)))
  have hG := hG.chg (Chg.refl [] _) o1 o2
  have hBg10 := hBg10.chg (Chg.refl [] _) (fun h => nomatch h)
  have hM : MS (M) w32 := (fun x h => hM.chg (Chg.refl [] _) x (mr (h)))
  have hC := hC.trans (Chg.refl [] _) (Ok.nil _ _)
  obtain rfl := Option.some.inj H
  refine rt1 ha rfl rfl ?_
  exact ⟨rfl, hC, hM⟩
def addr_Text.l0 (a0 : S_api_Addr) : Nat → (List (List UInt8)) → Int → Option (List (List UInt8))
  | 0, _, _ => none
  | kk + 1, x23, x24 => (if (decide (x24 < ((((arL 16 a0.B).take (Int.toNat (4 : Int))).drop (Int.toNat (0 : Int))).length : Int))) = true then (if 0 ≤ x24 ∧ x24 < ((((arL 16 a0.B).take (Int.toNat (4 : Int))).drop (Int.toNat (0 : Int))).length : Int) then (strconv_Itoa.f (IntKind.i64.wrap (rd (((arL 16 a0.B).take (Int.toNat (4 : Int))).drop (Int.toNat (0 : Int))) x24))).bind fun t41 => (if (x23.length + ([t41] : List (List UInt8)).length) * 16 ≤ 140737488355328 then addr_Text.l0 a0 kk (x23 ++ ([t41] : List (List UInt8))) (IntKind.i64.wrap (x24 + (1 : Int))) else none) else none) else some (x23 : List (List UInt8)))
def addr_Text.f (k : Nat) (a0 : S_api_Addr) : Option (List UInt8) := (addr_Right.f k a0).bind fun t9 => (if (!t9) = true then some ((([] : List UInt8) : List UInt8)) else (if (a0.Size == (4 : Int)) = true then (if 0 ≤ (0 : Int) ∧ (0 : Int) ≤ (4 : Int) ∧ (4 : Int) ≤ (16 : Int) then (addr_Text.l0 a0 k ([] : List (List UInt8)) (0 : Int)).bind fun s21 => (strings_Join.f s21 ([46] : List UInt8)).bind fun t27 => some ((t27 : List UInt8)) else none) else (if (a0.Size == (16 : Int)) = true then (addr_text6.f k a0).bind fun t53 => some ((t53 : List UInt8)) else some ((([] : List UInt8) : List UInt8)))))
set_option maxRecDepth 100000 in
theorem addr_Text.walk (w : World) (M : List Nat) (hM : MS M w) (hG : GF w M) (a0 : S_api_Addr) (k : Nat) (r : List UInt8) (H : addr_Text.f k a0 = some r) :
    To Tryd.prog 14 [.agg (cS_api_Addr a0).toArray] w fun v w' => v = .string (bstr r) ∧ Chg [] w w' ∧ MS (M) w' := by
 unfold addr_Text.f at H
 refine ent Tryd.func14 rfl [(0, .agg (cS_api_Addr a0).toArray)] rfl (by rfl) fun a ha => ?_
 have hC : Chg [] w w := Chg.refl _ _
 refine wp_seq_k fun K1 hK1 => ?_
 refine wp_region_lit ?_
 refine bx (cs := (cS_api_Addr a0)) ha rfl rfl rfl rfl rfl fun a w2 g3 hN4 ha => ?_
 have hn6 := hN4.notin hM
 have o1 : Ok [] (M) w.heap.size := Ok.nil _ _
 have o2 : Ok (M) (M) w.heap.size := (Ok.refl _ _)
 have hG := hG.chg hN4.chg o1 o2
 have hM : MS (M) w2 := (hM.chg hN4.chg)
 have hC := hC.trans hN4.chg (Ok.nil _ _)
 have hE5 : ∀ j v, (cS_api_Addr a0)[j]? = some v → w2.cell? ⟨g3, 0 + j, none⟩ = some v := Box.cells (New.box hN4)
 refine seg ha 1 [(1, .pointer (some ⟨g3, 0, none⟩))] (by kernel_rfl) fun a ha => ?_
 refine hK1 _ _ ?_; try clear hK1 K1
 refine wp_seq_k fun K7 hK7 => ?_
 refine wp_seq_k fun K8 hK8 => ?_
 refine wp_region_lit ?_
 refine ldA (cs := (cS_api_Addr a0)) ha rfl (by kernel_rfl) rfl rfl rfl (cells_sub hE5 (all := (cS_api_Addr a0)) [] [] (by kernel_rfl)) fun a ha => ?_
 obtain ⟨t9, H9, H⟩ := bind_some H
 refine cl ha (by rfl) (by kernel_rfl) (by rfl) (by rfl) (by rfl) (addr_Right.walk w2 _ hM a0 k _ H9) ?_
 rintro _ w9 ⟨rfl, hc9, hMn⟩ a ha
 have o1 : Ok [] (M) w2.heap.size := Ok.nil _ _
 have o2 : Ok (M) (M) w2.heap.size := (Ok.refl _ _)
 have hG := hG.chg hc9 o1 o2
 have q_hn6 : g3 ∉ M := fun h => (o2 g3 h).elim hn6 (fun h => absurd (lt_cell (hE5 0 _ rfl)) (Nat.not_lt.2 h))
 have hE5 : ∀ j v, (cS_api_Addr a0)[j]? = some v → w9.cell? ⟨g3, 0 + j, none⟩ = some v := fun j v hv => (cell_keep hc9 o1 hn6 (hE5 j v hv))
 have hn6 := q_hn6
 have hM : MS (M) w9 := (hM.chg hc9)
 have hC := hC.trans hc9 (Ok.nil _ _)
 refine seg ha 1 [(1, .pointer (some ⟨g3, 0, none⟩)), (8, .bool (!t9))] (by kernel_rfl) fun a ha => ?_
 refine hK8 _ _ ?_; try clear hK8 K8
 refine cnd ha rfl (fun hc10 => ?_) (fun hc10 => ?_)
 ·have H := ite_t hc10 H
  refine wp_seq_k fun K11 hK11 => ?_
  refine wp_region_lit ?_
  refine seg ha 1 [(2, .string (bstr ([] : List UInt8)))] (by kernel_rfl) fun a ha => ?_
  refine hK11 _ _ ?_; try clear hK11 K11
  refine wp_ret ?_
  try simp only [Exit.then, Exit.inBlock]
  obtain rfl := Option.some.inj H
  refine rt1 ha rfl rfl ?_
  exact ⟨rfl, hC, hM⟩
 ·have H := ite_f hc10 H
  refine wp_skip ?_
  refine hK7 _ _ ?_; try clear hK7 K7
  refine wp_seq_k fun K12 hK12 => ?_
  refine wp_seq_k fun K13 hK13 => ?_
  refine wp_region_lit ?_
  refine seg ha 1 [(1, .pointer (some ⟨g3, 0, none⟩)), (9, .pointer (some ⟨g3, 0, none⟩))] (by kernel_rfl) fun a ha => ?_
  refine ld ha rfl (by kernel_rfl) rfl rfl rfl (hE5 0 (.int .i64 a0.Size) (by kernel_rfl)) fun a ha => ?_
  refine hK13 _ _ ?_; try clear hK13 K13
  refine wp_block ?_
  refine wp_seq_k fun K14 hK14 => ?_
  refine wp_region_lit ?_
  refine seg ha 2 [(1, .pointer (some ⟨g3, 0, none⟩)), (10, .int .i64 a0.Size), (11, .bool (a0.Size == (4 : Int)))] (by kernel_rfl) fun a ha => ?_
  refine hK14 _ _ ?_; try clear hK14 K14
  refine cnd ha rfl (fun hc15 => ?_) (fun hc15 => ?_)
  ·have H := ite_t hc15 H
   refine wp_seq_k fun K16 hK16 => ?_
   refine wp_region_lit ?_
   refine seg ha 1 [(1, .pointer (some ⟨g3, 0, none⟩)), (3, .slice none 0 0)] (by kernel_rfl) fun a ha => ?_
   refine hK16 _ _ ?_; try clear hK16 K16
   refine wp_seq_k fun K17 hK17 => ?_
   refine wp_seq_k fun K18 hK18 => ?_
   refine wp_region_lit ?_
   refine seg ha 1 [(3, .slice none 0 0), (13, .pointer (some ⟨g3, 0 + 1, none⟩))] (by kernel_rfl) fun a ha => ?_
   have f19 : RSl (rInt .u8) 5 w9 (M) (some ⟨g3, 0 + 1, none⟩) 16 (arL 16 a0.B) := RSl.ofA [.int .i64 a0.Size] [] hE5 hn6 (by kernel_rfl) rfl
   obtain ⟨⟨hx20, hx20', hx20''⟩, H⟩ := ite_some H
   obtain ⟨ao20, cap20, f20, hr20⟩ := slA_run (kk := .u8) (T := 5) (N := 16) (g := g3) (o' := 0 + 1) (xs := (arL 16 a0.B)) (t := 22) (lo := Option.none) (hi := (Option.some (Operand.const (Value.int IntKind.i64 4)))) (l := (0 : Int)) (h := (4 : Int)) (dd := some 14) (ty := 43) (pos := "addr.go:97") (af := #[{ on := 0, ground := Ground.data }]) (gd := Option.none) ha (by kernel_rfl) (by kernel_rfl) (x := (Operand.tmp 13)) rfl (arL_length _ _) rfl rfl f19 hx20 hx20' (by rw [arL_length]; exact hx20'')
   refine hop (v := .slice ao20 (((arL 16 a0.B).take (Int.toNat (4 : Int))).drop (Int.toNat (0 : Int))).length cap20) (w' := w9) ha rfl rfl rfl (hr20 _) fun a ha => ?_
   refine seg ha 2 [(3, .slice none 0 0), (14, .slice ao20 (((arL 16 a0.B).take (Int.toNat (4 : Int))).drop (Int.toNat (0 : Int))).length cap20), (15, .int .i64 ((((arL 16 a0.B).take (Int.toNat (4 : Int))).drop (Int.toNat (0 : Int))).length : Int)), (16, .int .i64 (0 : Int))] (by kernel_rfl) fun a ha => ?_
   refine hK18 _ _ ?_; try clear hK18 K18
   refine wp_block ?_
   obtain ⟨s21, H21, H⟩ := bind_some H
   have J21 : ∀ (a : Act) (wx21 : World) (ao25 : Option Addr) (cap25 : Nat), Has a Tryd.f14.ntmps [(3, .slice ao25 s21.length cap25)] → (Own rStr 9 wx21 (blkL ao25 ++ (M)) ao25 cap25 s21) → (∀ x ∈ blkL ao25, w.heap.size ≤ x) → (∀ x ∈ blkL ao25, x ∉ M) → (GF wx21 (blkL ao25 ++ (M))) → (Chg [] w wx21) → (MS (blkL ao25 ++ (M)) wx21) → K17 a wx21 := by
    intro a wx21 ao25 cap25 ha f25 e_i25 p_i25_M hG hC hM
    refine hK17 _ _ ?_; try clear hK17 K17
    refine wp_seq_k fun K26 hK26 => ?_
    refine wp_region_lit ?_
    refine seg ha 1 [(27, .slice ao25 s21.length cap25)] (by kernel_rfl) fun a ha => ?_
    have hML : MS (M) wx21 := MS.rest hM (fun _ h => mr (h))
    have oL : Ok (M) (blkL ao25 ++ (M)) wx21.heap.size := (fun _ h => .inl (mr (h)))
    obtain ⟨t27, H27, H⟩ := bind_some H
    refine cl ha (by rfl) (by kernel_rfl) (by rfl) (by rfl) (by rfl) (strings_Join.walk wx21 _ hML s21 ao25 cap25 (Own.toRSl (M' := M) f25 oL (fun x hx hm => p_i25_M x hx hm)) ([46] : List UInt8) _ H27) ?_
    rintro _ w27 ⟨rfl, hc27, hMn⟩ a ha
    have o1 : Ok [] (blkL ao25 ++ (M)) wx21.heap.size := Ok.nil _ _
    have o2 : Ok (blkL ao25 ++ (M)) (blkL ao25 ++ (M)) wx21.heap.size := (Ok.refl _ _)
    have hG := hG.chg hc27 o1 o2
    have f25 := f25.chg hc27 o1 o2 (fun _ _ h => nomatch h) (fun _ h => ml h)
    have hM : MS (blkL ao25 ++ (M)) w27 := (hM.chg hc27)
    have hC := hC.trans hc27 (Ok.nil _ _)
    refine seg ha 1 [(2, .string (bstr t27))] (by kernel_rfl) fun a ha => ?_
    refine hK26 _ _ ?_; try clear hK26 K26
    refine wp_ret ?_
    try simp only [Exit.then, Exit.inBlock]
    have o1 : Ok [] (blkL ao25 ++ (M)) w27.heap.size := Ok.nil _ _
    have o2 : Ok (M) (blkL ao25 ++ (M)) w27.heap.size := (fun _ h => .inl (mr (h)))
    have hG := hG.chg (Chg.refl [] _) o1 o2
    have hM : MS (M) w27 := (fun x h => hM.chg (Chg.refl [] _) x (mr (h)))
    have hC := hC.trans (Chg.refl [] _) (Ok.nil _ _)
    obtain rfl := Option.some.inj H
    refine rt1 ha rfl rfl ?_
    exact ⟨rfl, hC, hM⟩
   have Hc21 := H
   have H := H21
   refine wp_loop_ghost (fun kk a w21 => ∃ (x23 : List (List UInt8)) (x24 : Int) (ao22 : Option Addr) (cap22 : Nat), addr_Text.l0 a0 kk x23 x24 = some s21 ∧ Has a Tryd.f14.ntmps [(3, .slice ao22 x23.length cap22), (14, .slice ao20 (((arL 16 a0.B).take (Int.toNat (4 : Int))).drop (Int.toNat (0 : Int))).length cap20), (15, .int .i64 ((((arL 16 a0.B).take (Int.toNat (4 : Int))).drop (Int.toNat (0 : Int))).length : Int)), (16, .int .i64 x24)] ∧ (Own rStr 9 w21 (blkL ao22 ++ (M)) ao22 cap22 x23) ∧ (RSl (rInt .u8) 5 w21 (blkL ao22 ++ (M)) ao20 cap20 (((arL 16 a0.B).take (Int.toNat (4 : Int))).drop (Int.toNat (0 : Int)))) ∧ (∀ x ∈ blkL ao22, w.heap.size ≤ x) ∧ (∀ x ∈ blkL ao22, x ∉ M) ∧ (GF w21 (blkL ao22 ++ (M))) ∧ (Chg [] w w21) ∧ (MS (blkL ao22 ++ (M)) w21)) k ?_ ?_
   ·skip
    have o1 : Ok [] (M) w9.heap.size := Ok.nil _ _
    have o2 : Ok (blkL none ++ (M)) (M) w9.heap.size := (Ok.app (fun _ h => nomatch h) (Ok.refl _ _))
    have hG := hG.chg (Chg.refl [] _) o1 o2
    have f20 := f20.chg (Chg.refl [] _) o1 o2
    have p_z28_M : ∀ x ∈ blkL none, x ∉ M := fun x hx hy => absurd (hM x (hy)) (Nat.not_lt.2 ((fun _ h => nomatch h) x hx))
    have e_z28 : ∀ x ∈ blkL none, w.heap.size ≤ x := fun x hx => Nat.le_trans hC.size ((fun _ h => nomatch h) x hx)
    have hM : MS (blkL none ++ (M)) w9 := (MS.app (fun _ h => nomatch h) (hM.chg (Chg.refl [] _)))
    have hC := hC.trans (Chg.refl [] _) (Ok.nil _ _)
    exact ⟨([] : List (List UInt8)), (0 : Int), none, 0, H, (ha.sel (by kernel_rfl)), Own.nil, f20, e_z28, p_z28_M, hG, hC, hM⟩
   ·rintro kk a w21 ⟨x23, x24, ao22, cap22, H, ha, f22, f20, e_i22, p_i22_M, hG, hC, hM⟩
    obtain _ | kk := kk
    ·exact nomatch (show none = some _ from H)
    rw [addr_Text.l0] at H
    refine wp_seq_k fun K29 hK29 => ?_
    refine wp_region_lit ?_
    refine seg ha 1 [(3, .slice ao22 x23.length cap22), (14, .slice ao20 (((arL 16 a0.B).take (Int.toNat (4 : Int))).drop (Int.toNat (0 : Int))).length cap20), (15, .int .i64 ((((arL 16 a0.B).take (Int.toNat (4 : Int))).drop (Int.toNat (0 : Int))).length : Int)), (16, .int .i64 x24), (17, .bool (decide (x24 < ((((arL 16 a0.B).take (Int.toNat (4 : Int))).drop (Int.toNat (0 : Int))).length : Int))))] (by kernel_rfl) fun a ha => ?_
    refine hK29 _ _ ?_; try clear hK29 K29
    refine wp_seq_k fun K30 hK30 => ?_
    refine cnd ha rfl (fun hc31 => ?_) (fun hc31 => ?_)
    ·have H := ite_t hc31 H
     refine wp_skip ?_
     refine hK30 _ _ ?_; try clear hK30 K30
     refine wp_seq_k fun K32 hK32 => ?_
     refine wp_block ?_
     refine wp_seq_k fun K33 hK33 => ?_
     refine wp_region_lit ?_
     obtain ⟨⟨hx34, hx34'⟩, H⟩ := ite_some H
     refine ix (r := (rInt .u8)) ha (by kernel_rfl) (by kernel_rfl) rfl rfl rfl rfl rfl f20 hx34 hx34' fun a ge35 oe36 cs37 hn40 hR38 hE39 ha => ?_
     rw [rd_get] at hR38
     obtain rfl := hR38
     have hE39 : ∀ j v, ([.int .u8 (rd (((arL 16 a0.B).take (Int.toNat (4 : Int))).drop (Int.toNat (0 : Int))) x24)] : List Value)[j]? = some v → w21.cell? ⟨ge35, oe36 + j, none⟩ = some v := hE39
     refine ld ha rfl (by kernel_rfl) rfl rfl rfl (hE39 0 (.int .u8 (rd (((arL 16 a0.B).take (Int.toNat (4 : Int))).drop (Int.toNat (0 : Int))) x24)) (by kernel_rfl)) fun a ha => ?_
     refine seg ha 1 [(3, .slice ao22 x23.length cap22), (5, .int .u8 (rd (((arL 16 a0.B).take (Int.toNat (4 : Int))).drop (Int.toNat (0 : Int))) x24)), (14, .slice ao20 (((arL 16 a0.B).take (Int.toNat (4 : Int))).drop (Int.toNat (0 : Int))).length cap20), (15, .int .i64 ((((arL 16 a0.B).take (Int.toNat (4 : Int))).drop (Int.toNat (0 : Int))).length : Int)), (16, .int .i64 x24)] (by kernel_rfl) fun a ha => ?_
     refine hK33 _ _ ?_; try clear hK33 K33
     refine wp_region_lit ?_
     refine seg ha 3 [(14, .slice ao20 (((arL 16 a0.B).take (Int.toNat (4 : Int))).drop (Int.toNat (0 : Int))).length cap20), (15, .int .i64 ((((arL 16 a0.B).take (Int.toNat (4 : Int))).drop (Int.toNat (0 : Int))).length : Int)), (16, .int .i64 x24), (20, .slice ao22 x23.length cap22), (22, .int .i64 (IntKind.i64.wrap (rd (((arL 16 a0.B).take (Int.toNat (4 : Int))).drop (Int.toNat (0 : Int))) x24)))] (by kernel_rfl) fun a ha => ?_
     obtain ⟨t41, H41, H⟩ := bind_some H
     refine cl ha (by rfl) (by kernel_rfl) (by rfl) (by rfl) (by rfl) (strconv_Itoa.walk w21 _ hM hG (IntKind.i64.wrap (rd (((arL 16 a0.B).take (Int.toNat (4 : Int))).drop (Int.toNat (0 : Int))) x24)) _ H41) ?_
     rintro _ w41 ⟨rfl, hc41, hMn⟩ a ha
     have o1 : Ok [] (blkL ao22 ++ (M)) w21.heap.size := Ok.nil _ _
     have o2 : Ok (blkL ao22 ++ (M)) (blkL ao22 ++ (M)) w21.heap.size := (Ok.refl _ _)
     have hG := hG.chg hc41 o1 o2
     have f20 := f20.chg hc41 o1 o2
     have f22 := f22.chg hc41 o1 o2 (fun _ _ h => nomatch h) (fun _ h => ml h)
     have hM : MS (blkL ao22 ++ (M)) w41 := (hM.chg hc41)
     have hC := hC.trans hc41 (Ok.nil _ _)
     refine bsl (vals := ([.string (bstr t41)] : List Value)) (T := 9) ha rfl (([.string (bstr t41)] : List Value) ++ ([] : List Value)) (fun w => by kernel_rfl) rfl rfl rfl fun a w42 g43 hN44 ha => ?_
     have o1 : Ok [] (blkL ao22 ++ (M)) w41.heap.size := Ok.nil _ _
     have o2 : Ok ([g43] ++ (blkL ao22 ++ (M))) (blkL ao22 ++ (M)) w41.heap.size := (Ok.app (hN44.ok _) (Ok.refl _ _))
     have hG := hG.chg hN44.chg o1 o2
     have f20 := f20.chg hN44.chg o1 o2
     have f22 := f22.chg hN44.chg o1 o2 (fun _ _ h => nomatch h) (fun _ h => mr (ml h))
     have p_i45_i22 : ∀ x ∈ [g43], x ∉ (blkL ao22) := fun x hx hy => absurd (hM x (ml hy)) (Nat.not_lt.2 ((hN44.ge1) x hx))
     have p_i45_M : ∀ x ∈ [g43], x ∉ M := fun x hx hy => absurd (hM x (mr (hy))) (Nat.not_lt.2 ((hN44.ge1) x hx))
     have e_i45 : ∀ x ∈ [g43], w.heap.size ≤ x := fun x hx => Nat.le_trans hC.size ((hN44.ge1) x hx)
     have hM : MS ([g43] ++ (blkL ao22 ++ (M))) w42 := (MS.app hN44.ms (hM.chg hN44.chg))
     have hC := hC.trans hN44.chg (Ok.nil _ _)
     have f46 : Own rStr 9 w42 ([g43] ++ (blkL ao22 ++ (M))) (some ⟨g43, 0, none⟩) 1 ([t41] : List (List UInt8)) := hN44.own ⟨([.string (bstr t41)] : List Value), _, rfl, rfl, rfl⟩ (Nat.le_of_ble_eq_true rfl)
     obtain ⟨hx47, H⟩ := ite_some H
     refine app (r := rStr) (xs := x23) (ys := ([t41] : List (List UInt8))) ha (ElemT.mk' (bytes := 16) (by kernel_rfl)) rfl rfl rfl rfl rfl f22 f46.src hx47 (by decide) fun a w48 ao49 cap49 hO49 hc49 hk49 hl49 ha => ?_
     have o1 : Ok (blkL ao22) ([g43] ++ (blkL ao22 ++ (M))) w42.heap.size := (fun _ h => .inl (mr (ml h)))
     have o2 : Ok (blkL ao49 ++ ([g43] ++ (M))) ([g43] ++ (blkL ao22 ++ (M))) w42.heap.size := (Ok.app (Ok.to hk49 (fun _ h => mr (ml h))) (Ok.app (fun _ h => .inl (ml h)) (fun _ h => .inl (mr (mr (h))))))
     have hG := hG.chg hc49 o1 o2
     have f20 := f20.chg hc49 o1 o2
     have f46 := f46.chg hc49 o1 o2 p_i45_i22 (fun _ h => mr (ml h))
     have p_i49_i45 : ∀ x ∈ blkL ao49, x ∉ ([g43]) := fun x hx hy => (hk49 x hx).elim (fun h => (fun x hx hy => p_i45_i22 x hy hx) x h hy) (fun h => absurd (hM x (ml hy)) (Nat.not_lt.2 h))
     have p_i49_M : ∀ x ∈ blkL ao49, x ∉ M := fun x hx hy => (hk49 x hx).elim (fun h => p_i22_M x h hy) (fun h => absurd (hM x (mr (mr (hy)))) (Nat.not_lt.2 h))
     have e_i49 : ∀ x ∈ blkL ao49, w.heap.size ≤ x := fun x hx => (hk49 x hx).elim (e_i22 x) (Nat.le_trans hC.size)
     have hM : MS (blkL ao49 ++ ([g43] ++ (M))) w48 := (MS.app hl49 (MS.app (fun x h => hM.chg hc49 x (ml h)) (fun x h => hM.chg hc49 x (mr (mr (h))))))
     have hC := hC.trans hc49 (fun x h => .inr (e_i22 x h))
     have f49 := hO49.chg (M' := blkL ao49 ++ ([g43] ++ (M))) (Chg.refl [] _) (Ok.nil _ _) (Ok.app (fun _ h => .inl (ml h)) (Ok.to (Ok.app (fun _ h => .inl (ml h)) (fun _ h => .inl (mr (mr (h))))) (fun _ h => mr h))) (fun _ _ h => nomatch h) (fun _ h => ml h)
     refine seg ha 1 [(3, .slice ao49 (x23 ++ ([t41] : List (List UInt8))).length cap49), (14, .slice ao20 (((arL 16 a0.B).take (Int.toNat (4 : Int))).drop (Int.toNat (0 : Int))).length cap20), (15, .int .i64 ((((arL 16 a0.B).take (Int.toNat (4 : Int))).drop (Int.toNat (0 : Int))).length : Int)), (16, .int .i64 x24)] (by kernel_rfl) fun a ha => ?_
     refine hK32 _ _ ?_; try clear hK32 K32
     refine wp_region_lit ?_
     refine seg ha 2 [(3, .slice ao49 (x23 ++ ([t41] : List (List UInt8))).length cap49), (14, .slice ao20 (((arL 16 a0.B).take (Int.toNat (4 : Int))).drop (Int.toNat (0 : Int))).length cap20), (15, .int .i64 ((((arL 16 a0.B).take (Int.toNat (4 : Int))).drop (Int.toNat (0 : Int))).length : Int)), (16, .int .i64 (IntKind.i64.wrap (x24 + (1 : Int))))] (by kernel_rfl) fun a ha => ?_
     have o1 : Ok [] (blkL ao49 ++ ([g43] ++ (M))) w48.heap.size := Ok.nil _ _
     have o2 : Ok (blkL ao49 ++ (M)) (blkL ao49 ++ ([g43] ++ (M))) w48.heap.size := (Ok.app (fun _ h => .inl (ml h)) (fun _ h => .inl (mr (mr (h)))))
     have hG := hG.chg (Chg.refl [] _) o1 o2
     have f20 := f20.chg (Chg.refl [] _) o1 o2
     have f49 := f49.chg (Chg.refl [] _) o1 o2 (fun _ _ h => nomatch h) (fun _ h => ml h)
     have hM : MS (blkL ao49 ++ (M)) w48 := (MS.app (fun x h => hM.chg (Chg.refl [] _) x (ml h)) (fun x h => hM.chg (Chg.refl [] _) x (mr (mr (h)))))
     have hC := hC.trans (Chg.refl [] _) (Ok.nil _ _)
     exact ⟨kk, Nat.lt_succ_self _, ⟨(x23 ++ ([t41] : List (List UInt8))), IntKind.i64.wrap (x24 + (1 : Int)), ao49, cap49, H, (ha.sel (by kernel_rfl)), f49, f20, e_i49, p_i49_M, hG, hC, hM⟩⟩
    ·have H := ite_f hc31 H
     refine wp_exit ?_
     simp only [Exit.then, Exit.inBlock, ↓reduceIte, Nat.reduceEqDiff]
     obtain rfl := Option.some.inj H
     exact J21 _ _ ao22 cap22 (ha.sel (by kernel_rfl)) f22 e_i22 p_i22_M hG hC hM
  ·have H := ite_f hc15 H
   refine wp_seq_k fun K50 hK50 => ?_
   refine wp_region_lit ?_
   refine seg ha 2 [(1, .pointer (some ⟨g3, 0, none⟩)), (29, .bool (a0.Size == (16 : Int)))] (by kernel_rfl) fun a ha => ?_
   refine hK50 _ _ ?_; try clear hK50 K50
   refine cnd ha rfl (fun hc51 => ?_) (fun hc51 => ?_)
   ·have H := ite_t hc51 H
    refine wp_seq_k fun K52 hK52 => ?_
    refine wp_region_lit ?_
    refine ldA (cs := (cS_api_Addr a0)) ha rfl (by kernel_rfl) rfl rfl rfl (cells_sub hE5 (all := (cS_api_Addr a0)) [] [] (by kernel_rfl)) fun a ha => ?_
    obtain ⟨t53, H53, H⟩ := bind_some H
    refine cl ha (by rfl) (by kernel_rfl) (by rfl) (by rfl) (by rfl) (addr_text6.walk w9 _ hM hG a0 k _ H53) ?_
    rintro _ w53 ⟨rfl, hc53, hMn⟩ a ha
    have o1 : Ok [] (M) w9.heap.size := Ok.nil _ _
    have o2 : Ok (M) (M) w9.heap.size := (Ok.refl _ _)
    have hG := hG.chg hc53 o1 o2
    have hM : MS (M) w53 := (hM.chg hc53)
    have hC := hC.trans hc53 (Ok.nil _ _)
    refine seg ha 1 [(2, .string (bstr t53))] (by kernel_rfl) fun a ha => ?_
    refine hK52 _ _ ?_; try clear hK52 K52
    refine wp_ret ?_
    try simp only [Exit.then, Exit.inBlock]
    obtain rfl := Option.some.inj H
    refine rt1 ha rfl rfl ?_
    exact ⟨rfl, hC, hM⟩
   ·have H := ite_f hc51 H
    refine wp_skip ?_
    refine hK12 _ _ ?_; try clear hK12 K12
    refine wp_seq_k fun K54 hK54 => ?_
    refine wp_region_lit ?_
    refine seg ha 1 [(2, .string (bstr ([] : List UInt8)))] (by kernel_rfl) fun a ha => ?_
    refine hK54 _ _ ?_; try clear hK54 K54
    refine wp_ret ?_
    try simp only [Exit.then, Exit.inBlock]
    obtain rfl := Option.some.inj H
    refine rt1 ha rfl rfl ?_
    exact ⟨rfl, hC, hM⟩
def addr_Parse.f (k : Nat) (a0 : List UInt8) : Option (S_api_Addr × Int) := (if ((bstr a0).toList == (bstr ([] : List UInt8)).toList) = true then some (((⟨(0 : Int), (List.replicate 16 (0 : Int))⟩ : S_api_Addr) : S_api_Addr), ((0 : Int) : Int)) else (addr_read4.f k a0).bind fun t13 => ((if (!t13.2) = true then (addr_read6.f k a0).bind fun t36 => some ((t36.2 : Bool), (t36.1.Size : Int), (t36.1.B : List Int)) else some ((t13.2 : Bool), (t13.1.Size : Int), (t13.1.B : List Int)))).bind fun s21 => ((if (!s21.1) = true then some (true : Bool) else (addr_Text.f k (⟨s21.2.1, s21.2.2⟩ : S_api_Addr)).bind fun t33 => some (!((bstr t33).toList == (bstr a0).toList) : Bool))).bind fun s24 => (if s24 = true then some (((⟨(0 : Int), (List.replicate 16 (0 : Int))⟩ : S_api_Addr) : S_api_Addr), ((4 : Int) : Int)) else some (((⟨s21.2.1, s21.2.2⟩ : S_api_Addr) : S_api_Addr), ((0 : Int) : Int))))
set_option maxRecDepth 100000 in
theorem addr_Parse.walk (w : World) (M : List Nat) (hM : MS M w) (hG : GF w M) (a0 : List UInt8) (k : Nat) (r : S_api_Addr × Int) (H : addr_Parse.f k a0 = some r) :
    To Tryd.prog 12 [.string (bstr a0)] w fun v w' => v = .tuple #[.agg (cS_api_Addr r.1).toArray, .int .i64 r.2] ∧ Chg [] w w' ∧ MS (M) w' := by
 unfold addr_Parse.f at H
 refine ent Tryd.func12 rfl [(0, .string (bstr a0))] rfl (by rfl) fun a ha => ?_
 have hC : Chg [] w w := Chg.refl _ _
 refine wp_seq_k fun K1 hK1 => ?_
 refine wp_region_lit ?_
 refine al (cs := (cS_api_Addr (⟨(0 : Int), (List.replicate 16 (0 : Int))⟩ : S_api_Addr))) (z := .agg (cS_api_Addr (⟨(0 : Int), (List.replicate 16 (0 : Int))⟩ : S_api_Addr)).toArray) ha (fun w => by kernel_rfl) rfl rfl rfl rfl fun a w2 g3 hN4 ha => ?_
 have o1 : Ok [] (M) w.heap.size := Ok.nil _ _
 have o2 : Ok ([g3] ++ (M)) (M) w.heap.size := (Ok.app (hN4.ok _) (Ok.refl _ _))
 have hG := hG.chg hN4.chg o1 o2
 have p_i5_M : ∀ x ∈ [g3], x ∉ M := fun x hx hy => absurd (hM x (hy)) (Nat.not_lt.2 ((hN4.ge1) x hx))
 have e_i5 : ∀ x ∈ [g3], w.heap.size ≤ x := fun x hx => Nat.le_trans hC.size ((hN4.ge1) x hx)
 have hM : MS ([g3] ++ (M)) w2 := (MS.app hN4.ms (hM.chg hN4.chg))
 have hC := hC.trans hN4.chg (Ok.nil _ _)
 have hBg3 : Box w2 g3 (cS_api_Addr (⟨(0 : Int), (List.replicate 16 (0 : Int))⟩ : S_api_Addr)) := hN4.box
 refine seg ha 1 [(0, .string (bstr a0)), (2, .pointer (some ⟨g3, 0, none⟩))] (by kernel_rfl) fun a ha => ?_
 refine hK1 _ _ ?_; try clear hK1 K1
 refine wp_seq_k fun K6 hK6 => ?_
 refine wp_seq_k fun K7 hK7 => ?_
 refine wp_region_lit ?_
 refine seg ha 2 [(0, .string (bstr a0)), (2, .pointer (some ⟨g3, 0, none⟩)), (7, .bool ((bstr a0).toList == (bstr ([] : List UInt8)).toList))] (by kernel_rfl) fun a ha => ?_
 refine hK7 _ _ ?_; try clear hK7 K7
 refine cnd ha rfl (fun hc8 => ?_) (fun hc8 => ?_)
 ·have H := ite_t hc8 H
  refine wp_seq_k fun K9 hK9 => ?_
  refine wp_region_lit ?_
  refine opk (v := .agg (cS_api_Addr (⟨(0 : Int), (List.replicate 16 (0 : Int))⟩ : S_api_Addr)).toArray) ha rfl rfl rfl rfl rfl (fun w => by kernel_rfl) fun a ha => ?_
  refine stA (l := (cS_api_Addr (⟨(0 : Int), (List.replicate 16 (0 : Int))⟩ : S_api_Addr))) ha rfl rfl rfl (by kernel_rfl) rfl rfl hBg3 rfl fun a w10 ha hb2 hc11 _ => ?_
  have o1 : Ok [g3] ([g3] ++ (M)) w2.heap.size := (fun _ h => .inl (ml h))
  have o2 : Ok ([g3] ++ (M)) ([g3] ++ (M)) w2.heap.size := (Ok.refl _ _)
  have hG := hG.chg hc11 o1 o2
  have hM : MS ([g3] ++ (M)) w10 := (hM.chg hc11)
  have hC := hC.trans hc11 (fun x h => .inr (e_i5 x h))
  have hBg3 : Box w10 g3 (cS_api_Addr (⟨(0 : Int), (List.replicate 16 (0 : Int))⟩ : S_api_Addr)) := hb2
  refine seg ha 1 [(2, .pointer (some ⟨g3, 0, none⟩)), (3, .int .i64 (0 : Int))] (by kernel_rfl) fun a ha => ?_
  refine hK9 _ _ ?_; try clear hK9 K9
  refine wp_ret ?_
  try simp only [Exit.then, Exit.inBlock]
  have o1 : Ok [] ([g3] ++ (M)) w10.heap.size := Ok.nil _ _
  have o2 : Ok (M) ([g3] ++ (M)) w10.heap.size := (fun _ h => .inl (mr (h)))
  have hG := hG.chg (Chg.refl [] _) o1 o2
  have hBg3 := hBg3.chg (Chg.refl [] _) (fun h => nomatch h)
  have hM : MS (M) w10 := (fun x h => hM.chg (Chg.refl [] _) x (mr (h)))
  have hC := hC.trans (Chg.refl [] _) (Ok.nil _ _)
  obtain rfl := Option.some.inj H
  refine rtr ha (res2 rfl (roA ha rfl hBg3 (by kernel_rfl)) (roT ha rfl)) ?_
  exact ⟨rfl, hC, hM⟩
 ·have H := ite_f hc8 H
  refine wp_skip ?_
  refine hK6 _ _ ?_; try clear hK6 K6
  refine wp_seq_k fun K12 hK12 => ?_
  refine wp_region_lit ?_
  refine seg ha 1 [(0, .string (bstr a0)), (2, .pointer (some ⟨g3, 0, none⟩)), (10, .string (bstr a0))] (by kernel_rfl) fun a ha => ?_
  obtain ⟨t13, H13, H⟩ := bind_some H
  refine cl ha (by rfl) (by kernel_rfl) (by rfl) (by rfl) (by rfl) (addr_read4.walk w2 _ hM a0 k _ H13) ?_
  rintro _ w13 ⟨rfl, hc13, hMn⟩ a ha
  have o1 : Ok [] ([g3] ++ (M)) w2.heap.size := Ok.nil _ _
  have o2 : Ok ([g3] ++ (M)) ([g3] ++ (M)) w2.heap.size := (Ok.refl _ _)
  have hG := hG.chg hc13 o1 o2
  have hBg3 := hBg3.chg hc13 (fun h => nomatch h)
  have hM : MS ([g3] ++ (M)) w13 := (hM.chg hc13)
  have hC := hC.trans hc13 (Ok.nil _ _)
  refine seg ha 3 [(0, .string (bstr a0)), (2, .pointer (some ⟨g3, 0, none⟩)), (12, .agg (cS_api_Addr t13.1).toArray), (13, .bool t13.2)] (by kernel_rfl) fun a ha => ?_
  refine al (cs := (cS_api_Addr (⟨(0 : Int), (List.replicate 16 (0 : Int))⟩ : S_api_Addr))) (z := .agg (cS_api_Addr (⟨(0 : Int), (List.replicate 16 (0 : Int))⟩ : S_api_Addr)).toArray) ha (fun w => by kernel_rfl) rfl rfl rfl rfl fun a w14 g15 hN16 ha => ?_
  have o1 : Ok [] ([g3] ++ (M)) w13.heap.size := Ok.nil _ _
  have o2 : Ok ([g15] ++ ([g3] ++ (M))) ([g3] ++ (M)) w13.heap.size := (Ok.app (hN16.ok _) (Ok.refl _ _))
  have hG := hG.chg hN16.chg o1 o2
  have hBg3 := hBg3.chg hN16.chg (fun h => nomatch h)
  have p_i17_i5 : ∀ x ∈ [g15], x ∉ ([g3]) := fun x hx hy => absurd (hM x (ml hy)) (Nat.not_lt.2 ((hN16.ge1) x hx))
  have p_i17_M : ∀ x ∈ [g15], x ∉ M := fun x hx hy => absurd (hM x (mr (hy))) (Nat.not_lt.2 ((hN16.ge1) x hx))
  have e_i17 : ∀ x ∈ [g15], w.heap.size ≤ x := fun x hx => Nat.le_trans hC.size ((hN16.ge1) x hx)
  have hM : MS ([g15] ++ ([g3] ++ (M))) w14 := (MS.app hN16.ms (hM.chg hN16.chg))
  have hC := hC.trans hN16.chg (Ok.nil _ _)
  have hBg15 : Box w14 g15 (cS_api_Addr (⟨(0 : Int), (List.replicate 16 (0 : Int))⟩ : S_api_Addr)) := hN16.box
  refine stA (l := (cS_api_Addr t13.1)) ha rfl rfl rfl (by kernel_rfl) rfl rfl hBg15 rfl fun a w18 ha hb2 hc19 _ => ?_
  have o1 : Ok [g15] ([g15] ++ ([g3] ++ (M))) w14.heap.size := (fun _ h => .inl (ml h))
  have o2 : Ok ([g15] ++ ([g3] ++ (M))) ([g15] ++ ([g3] ++ (M))) w14.heap.size := (Ok.refl _ _)
  have hG := hG.chg hc19 o1 o2
  have hBg3 := hBg3.chg hc19 ((fun x (hx : x ∈ [g3]) (hy : x ∈ [g15]) => p_i17_i5 x hy hx) g3 (by simp))
  have hM : MS ([g15] ++ ([g3] ++ (M))) w18 := (hM.chg hc19)
  have hC := hC.trans hc19 (fun x h => .inr (e_i17 x h))
  have hBg15 : Box w18 g15 (cS_api_Addr t13.1) := hb2
  refine seg ha 1 [(0, .string (bstr a0)), (2, .pointer (some ⟨g3, 0, none⟩)), (4, .pointer (some ⟨g15, 0, none⟩)), (5, .bool t13.2)] (by kernel_rfl) fun a ha => ?_
  refine hK12 _ _ ?_; try clear hK12 K12
  refine wp_seq_k fun K20 hK20 => ?_
  obtain ⟨s21, H21, H⟩ := bind_some H
  have J21 : ∀ (a : Act) (w21 : World), Has a Tryd.f12.ntmps [(0, .string (bstr a0)), (2, .pointer (some ⟨g3, 0, none⟩)), (4, .pointer (some ⟨g15, 0, none⟩)), (5, .bool s21.1)] → (Box w21 g3 (cS_api_Addr (⟨(0 : Int), (List.replicate 16 (0 : Int))⟩ : S_api_Addr))) → (Box w21 g15 (cS_api_Addr (⟨s21.2.1, s21.2.2⟩ : S_api_Addr))) → (GF w21 ([g15] ++ ([g3] ++ (M)))) → (Chg [] w w21) → (MS ([g15] ++ ([g3] ++ (M))) w21) → K20 a w21 := by
   intro a w21 ha hBg3 hBg15 hG hC hM
   refine hK20 _ _ ?_; try clear hK20 K20
   refine wp_seq_k fun K22 hK22 => ?_
   refine wp_seq_k fun K23 hK23 => ?_
   refine wp_region_lit ?_
   obtain ⟨s24, H24, H⟩ := bind_some H
   have J24 : ∀ (a : Act) (w24 : World), Has a Tryd.f12.ntmps [(2, .pointer (some ⟨g3, 0, none⟩)), (4, .pointer (some ⟨g15, 0, none⟩)), (28, .bool s24)] → (Box w24 g3 (cS_api_Addr (⟨(0 : Int), (List.replicate 16 (0 : Int))⟩ : S_api_Addr))) → (Box w24 g15 (cS_api_Addr (⟨s21.2.1, s21.2.2⟩ : S_api_Addr))) → (GF w24 ([g15] ++ ([g3] ++ (M)))) → (Chg [] w w24) → (MS ([g15] ++ ([g3] ++ (M))) w24) → K23 a w24 := by
    intro a w24 ha hBg3 hBg15 hG hC hM
    refine hK23 _ _ ?_; try clear hK23 K23
    refine cnd ha rfl (fun hc25 => ?_) (fun hc25 => ?_)
    ·have H := ite_t hc25 H
     refine wp_seq_k fun K26 hK26 => ?_
     refine wp_region_lit ?_
     refine opk (v := .agg (cS_api_Addr (⟨(0 : Int), (List.replicate 16 (0 : Int))⟩ : S_api_Addr)).toArray) ha rfl rfl rfl rfl rfl (fun w => by kernel_rfl) fun a ha => ?_
     refine stA (l := (cS_api_Addr (⟨(0 : Int), (List.replicate 16 (0 : Int))⟩ : S_api_Addr))) ha rfl rfl rfl (by kernel_rfl) rfl rfl hBg3 rfl fun a w27 ha hb2 hc28 _ => ?_
     have o1 : Ok [g3] ([g15] ++ ([g3] ++ (M))) w24.heap.size := (fun _ h => .inl (mr (ml h)))
     have o2 : Ok ([g15] ++ ([g3] ++ (M))) ([g15] ++ ([g3] ++ (M))) w24.heap.size := (Ok.refl _ _)
     have hG := hG.chg hc28 o1 o2
     have hBg15 := hBg15.chg hc28 (p_i17_i5 g15 (by simp))
     have hM : MS ([g15] ++ ([g3] ++ (M))) w27 := (hM.chg hc28)
     have hC := hC.trans hc28 (fun x h => .inr (e_i5 x h))
     have hBg3 : Box w27 g3 (cS_api_Addr (⟨(0 : Int), (List.replicate 16 (0 : Int))⟩ : S_api_Addr)) := hb2
     refine seg ha 1 [(2, .pointer (some ⟨g3, 0, none⟩)), (3, .int .i64 (4 : Int))] (by kernel_rfl) fun a ha => ?_
     refine hK26 _ _ ?_; try clear hK26 K26
     refine wp_ret ?_
     try simp only [Exit.then, Exit.inBlock]
     have o1 : Ok [] ([g15] ++ ([g3] ++ (M))) w27.heap.size := Ok.nil _ _
     have o2 : Ok (M) ([g15] ++ ([g3] ++ (M))) w27.heap.size := (fun _ h => .inl (mr (mr (h))))
     have hG := hG.chg (Chg.refl [] _) o1 o2
     have hBg3 := hBg3.chg (Chg.refl [] _) (fun h => nomatch h)
     have hBg15 := hBg15.chg (Chg.refl [] _) (fun h => nomatch h)
     have hM : MS (M) w27 := (fun x h => hM.chg (Chg.refl [] _) x (mr (mr (h))))
     have hC := hC.trans (Chg.refl [] _) (Ok.nil _ _)
     obtain rfl := Option.some.inj H
     refine rtr ha (res2 rfl (roA ha rfl hBg3 (by kernel_rfl)) (roT ha rfl)) ?_
     exact ⟨rfl, hC, hM⟩
    ·have H := ite_f hc25 H
     refine wp_skip ?_
     refine hK22 _ _ ?_; try clear hK22 K22
     refine wp_seq_k fun K29 hK29 => ?_
     refine wp_region_lit ?_
     refine ldA (cs := (cS_api_Addr (⟨s21.2.1, s21.2.2⟩ : S_api_Addr))) ha rfl (by kernel_rfl) rfl rfl rfl (cells_sub (Box.cells hBg15) (all := (cS_api_Addr (⟨s21.2.1, s21.2.2⟩ : S_api_Addr))) [] [] (by kernel_rfl)) fun a ha => ?_
     refine stA (l := (cS_api_Addr (⟨s21.2.1, s21.2.2⟩ : S_api_Addr))) ha rfl rfl rfl (by kernel_rfl) rfl rfl hBg3 rfl fun a w30 ha hb2 hc31 _ => ?_
     have o1 : Ok [g3] ([g15] ++ ([g3] ++ (M))) w24.heap.size := (fun _ h => .inl (mr (ml h)))
     have o2 : Ok ([g15] ++ ([g3] ++ (M))) ([g15] ++ ([g3] ++ (M))) w24.heap.size := (Ok.refl _ _)
     have hG := hG.chg hc31 o1 o2
     have hBg15 := hBg15.chg hc31 (p_i17_i5 g15 (by simp))
     have hM : MS ([g15] ++ ([g3] ++ (M))) w30 := (hM.chg hc31)
     have hC := hC.trans hc31 (fun x h => .inr (e_i5 x h))
     have hBg3 : Box w30 g3 (cS_api_Addr (⟨s21.2.1, s21.2.2⟩ : S_api_Addr)) := hb2
     refine seg ha 1 [(2, .pointer (some ⟨g3, 0, none⟩)), (3, .int .i64 (0 : Int))] (by kernel_rfl) fun a ha => ?_
     refine hK29 _ _ ?_; try clear hK29 K29
     refine wp_ret ?_
     try simp only [Exit.then, Exit.inBlock]
     have o1 : Ok [] ([g15] ++ ([g3] ++ (M))) w30.heap.size := Ok.nil _ _
     have o2 : Ok (M) ([g15] ++ ([g3] ++ (M))) w30.heap.size := (fun _ h => .inl (mr (mr (h))))
     have hG := hG.chg (Chg.refl [] _) o1 o2
     have hBg3 := hBg3.chg (Chg.refl [] _) (fun h => nomatch h)
     have hBg15 := hBg15.chg (Chg.refl [] _) (fun h => nomatch h)
     have hM : MS (M) w30 := (fun x h => hM.chg (Chg.refl [] _) x (mr (mr (h))))
     have hC := hC.trans (Chg.refl [] _) (Ok.nil _ _)
     obtain rfl := Option.some.inj H
     refine rtr ha (res2 rfl (roA ha rfl hBg3 (by kernel_rfl)) (roT ha rfl)) ?_
     exact ⟨rfl, hC, hM⟩
   have H := H24
   refine seg ha 3 [(23, .bool (!s21.1)), (0, .string (bstr a0)), (2, .pointer (some ⟨g3, 0, none⟩)), (4, .pointer (some ⟨g15, 0, none⟩))] (by kernel_rfl) fun a ha => ?_
   rcases Bool.eq_false_or_eq_true (!s21.1) with hb32 | hb32
   ·have ha := ha.lit hb32
    have H := ite_t hb32 H
    refine sgh ha 5 [1, 1, 1, 1, 3] [(2, .pointer (some ⟨g3, 0, none⟩)), (4, .pointer (some ⟨g15, 0, none⟩)), (28, .bool true)] (by kernel_rfl) fun a ha => ?_
    obtain rfl := Option.some.inj H
    exact J24 _ _ (ha.sel (by kernel_rfl)) hBg3 hBg15 hG hC hM
   ·have ha := ha.lit hb32
    have H := ite_f hb32 H
    refine ldA (cs := (cS_api_Addr (⟨s21.2.1, s21.2.2⟩ : S_api_Addr))) ha rfl (by kernel_rfl) rfl rfl rfl (cells_sub (Box.cells hBg15) (all := (cS_api_Addr (⟨s21.2.1, s21.2.2⟩ : S_api_Addr))) [] [] (by kernel_rfl)) fun a ha => ?_
    obtain ⟨t33, H33, H⟩ := bind_some H
    refine cl ha (by rfl) (by kernel_rfl) (by rfl) (by rfl) (by rfl) (addr_Text.walk w21 _ hM hG (⟨s21.2.1, s21.2.2⟩ : S_api_Addr) k _ H33) ?_
    rintro _ w33 ⟨rfl, hc33, hMn⟩ a ha
    have o1 : Ok [] ([g15] ++ ([g3] ++ (M))) w21.heap.size := Ok.nil _ _
    have o2 : Ok ([g15] ++ ([g3] ++ (M))) ([g15] ++ ([g3] ++ (M))) w21.heap.size := (Ok.refl _ _)
    have hG := hG.chg hc33 o1 o2
    have hBg3 := hBg3.chg hc33 (fun h => nomatch h)
    have hBg15 := hBg15.chg hc33 (fun h => nomatch h)
    have hM : MS ([g15] ++ ([g3] ++ (M))) w33 := (hM.chg hc33)
    have hC := hC.trans hc33 (Ok.nil _ _)
    refine sgh ha 3 [2, 2, 4] [(2, .pointer (some ⟨g3, 0, none⟩)), (4, .pointer (some ⟨g15, 0, none⟩)), (28, .bool (!((bstr t33).toList == (bstr a0).toList)))] (by kernel_rfl) fun a ha => ?_
    obtain rfl := Option.some.inj H
    exact J24 _ _ (ha.sel (by kernel_rfl)) hBg3 hBg15 hG hC hM
  have H := H21
  refine wp_seq_k fun K34 hK34 => ?_
  refine wp_region_lit ?_
  refine seg ha 2 [(0, .string (bstr a0)), (2, .pointer (some ⟨g3, 0, none⟩)), (4, .pointer (some ⟨g15, 0, none⟩)), (5, .bool t13.2), (15, .bool (!t13.2))] (by kernel_rfl) fun a ha => ?_
  refine hK34 _ _ ?_; try clear hK34 K34
  refine cnd ha rfl (fun hc35 => ?_) (fun hc35 => ?_)
  ·have H := ite_t hc35 H
   refine wp_region_lit ?_
   refine seg ha 1 [(0, .string (bstr a0)), (2, .pointer (some ⟨g3, 0, none⟩)), (4, .pointer (some ⟨g15, 0, none⟩)), (17, .string (bstr a0))] (by kernel_rfl) fun a ha => ?_
   obtain ⟨t36, H36, H⟩ := bind_some H
   refine cl ha (by rfl) (by kernel_rfl) (by rfl) (by rfl) (by rfl) (addr_read6.walk w18 _ hM hG a0 k _ H36) ?_
   rintro _ w36 ⟨rfl, hc36, hMn⟩ a ha
   have o1 : Ok [] ([g15] ++ ([g3] ++ (M))) w18.heap.size := Ok.nil _ _
   have o2 : Ok ([g15] ++ ([g3] ++ (M))) ([g15] ++ ([g3] ++ (M))) w18.heap.size := (Ok.refl _ _)
   have hG := hG.chg hc36 o1 o2
   have hBg3 := hBg3.chg hc36 (fun h => nomatch h)
   have hBg15 := hBg15.chg hc36 (fun h => nomatch h)
   have hM : MS ([g15] ++ ([g3] ++ (M))) w36 := (hM.chg hc36)
   have hC := hC.trans hc36 (Ok.nil _ _)
   refine seg ha 3 [(0, .string (bstr a0)), (2, .pointer (some ⟨g3, 0, none⟩)), (4, .pointer (some ⟨g15, 0, none⟩)), (19, .agg (cS_api_Addr t36.1).toArray), (20, .bool t36.2)] (by kernel_rfl) fun a ha => ?_
   refine stA (l := (cS_api_Addr t36.1)) ha rfl rfl rfl (by kernel_rfl) rfl rfl hBg15 rfl fun a w37 ha hb2 hc38 _ => ?_
   have o1 : Ok [g15] ([g15] ++ ([g3] ++ (M))) w36.heap.size := (fun _ h => .inl (ml h))
   have o2 : Ok ([g15] ++ ([g3] ++ (M))) ([g15] ++ ([g3] ++ (M))) w36.heap.size := (Ok.refl _ _)
   have hG := hG.chg hc38 o1 o2
   have hBg3 := hBg3.chg hc38 ((fun x (hx : x ∈ [g3]) (hy : x ∈ [g15]) => p_i17_i5 x hy hx) g3 (by simp))
   have hM : MS ([g15] ++ ([g3] ++ (M))) w37 := (hM.chg hc38)
   have hC := hC.trans hc38 (fun x h => .inr (e_i17 x h))
   have hBg15 : Box w37 g15 (cS_api_Addr t36.1) := hb2
   refine seg ha 1 [(0, .string (bstr a0)), (2, .pointer (some ⟨g3, 0, none⟩)), (4, .pointer (some ⟨g15, 0, none⟩)), (5, .bool t36.2)] (by kernel_rfl) fun a ha => ?_
   obtain rfl := Option.some.inj H
   exact J21 _ _ (ha.sel (by kernel_rfl)) hBg3 hBg15 hG hC hM
  ·have H := ite_f hc35 H
   refine wp_skip ?_
   obtain rfl := Option.some.inj H
   exact J21 _ _ (ha.sel (by kernel_rfl)) hBg3 hBg15 hG hC hM
def addr_mask.f (a0 : Int) : Option (Int) := (if (decide (a0 ≤ (0 : Int))) = true then some (((0 : Int) : Int)) else (if (decide (a0 ≥ (8 : Int))) = true then some (((255 : Int) : Int)) else (if 0 ≤ (IntKind.i64.wrap ((8 : Int) - a0)) then some ((IntKind.u8.wrap ((255 : Int) * 2 ^ (min (Int.toNat (IntKind.i64.wrap ((8 : Int) - a0))) IntKind.u8.bits)) : Int)) else none)))
set_option maxRecDepth 100000 in
theorem addr_mask.walk (w : World) (M : List Nat) (hM : MS M w) (a0 : Int) (r : Int) (H : addr_mask.f a0 = some r) :
    To Tryd.prog 68 [.int .i64 a0] w fun v w' => v = .int .u8 r ∧ Chg [] w w' ∧ MS (M) w' := by
 unfold addr_mask.f at H
 refine ent Tryd.func68 rfl [(0, .int .i64 a0)] rfl (by rfl) fun a ha => ?_
 have hC : Chg [] w w := Chg.refl _ _
 refine wp_seq_k fun K1 hK1 => ?_
 refine wp_region_lit ?_
 refine seg ha 1 [(0, .int .i64 a0)] (by kernel_rfl) fun a ha => ?_
 refine hK1 _ _ ?_; try clear hK1 K1
 refine wp_seq_k fun K2 hK2 => ?_
 refine wp_block ?_
 refine wp_seq_k fun K3 hK3 => ?_
 refine wp_region_lit ?_
 refine seg ha 3 [(0, .int .i64 a0), (3, .bool (decide (a0 ≤ (0 : Int))))] (by kernel_rfl) fun a ha => ?_
 refine hK3 _ _ ?_; try clear hK3 K3
 refine cnd ha rfl (fun hc4 => ?_) (fun hc4 => ?_)
 ·have H := ite_t hc4 H
  refine wp_seq_k fun K5 hK5 => ?_
  refine wp_region_lit ?_
  refine seg ha 1 [(2, .int .u8 (0 : Int))] (by kernel_rfl) fun a ha => ?_
  refine hK5 _ _ ?_; try clear hK5 K5
  refine wp_ret ?_
  try simp only [Exit.then, Exit.inBlock]
  obtain rfl := Option.some.inj H
  refine rt1 ha rfl rfl ?_
  exact ⟨rfl, hC, hM⟩
 ·have H := ite_f hc4 H
  refine wp_seq_k fun K6 hK6 => ?_
  refine wp_region_lit ?_
  refine seg ha 3 [(0, .int .i64 a0), (6, .bool (decide (a0 ≥ (8 : Int))))] (by kernel_rfl) fun a ha => ?_
  refine hK6 _ _ ?_; try clear hK6 K6
  refine cnd ha rfl (fun hc7 => ?_) (fun hc7 => ?_)
  ·have H := ite_t hc7 H
   refine wp_seq_k fun K8 hK8 => ?_
   refine wp_region_lit ?_
   refine seg ha 1 [(2, .int .u8 (255 : Int))] (by kernel_rfl) fun a ha => ?_
   refine hK8 _ _ ?_; try clear hK8 K8
   refine wp_ret ?_
   try simp only [Exit.then, Exit.inBlock]
   obtain rfl := Option.some.inj H
   refine rt1 ha rfl rfl ?_
   exact ⟨rfl, hC, hM⟩
  ·have H := ite_f hc7 H
   refine wp_skip ?_
   refine hK2 _ _ ?_; try clear hK2 K2
   refine wp_seq_k fun K9 hK9 => ?_
   refine wp_region_lit ?_
   refine seg ha 2 [(10, .int .i64 (IntKind.i64.wrap ((8 : Int) - a0)))] (by kernel_rfl) fun a ha => ?_
   obtain ⟨hx10, H⟩ := ite_some H
   refine hop (v := .int .u8 (IntKind.u8.wrap ((255 : Int) * 2 ^ (min (Int.toNat (IntKind.i64.wrap ((8 : Int) - a0))) IntKind.u8.bits)))) (w' := w) ha rfl rfl rfl (shl_run ha (by rfl) (by rfl) hx10 _) fun a ha => ?_
   refine seg ha 1 [(2, .int .u8 (IntKind.u8.wrap ((255 : Int) * 2 ^ (min (Int.toNat (IntKind.i64.wrap ((8 : Int) - a0))) IntKind.u8.bits))))] (by kernel_rfl) fun a ha => ?_
   refine hK9 _ _ ?_; try clear hK9 K9
   refine wp_ret ?_
   try simp only [Exit.then, Exit.inBlock]
   obtain rfl := Option.some.inj H
   refine rt1 ha rfl rfl ?_
   exact ⟨rfl, hC, hM⟩
def addr_cut.l0 (a1 : Int) : Nat → Int → (List Int) → Option (List Int)
  | 0, _, _ => none
  | kk + 1, x13, x14 => (if (decide (x13 < (16 : Int))) = true then (if 0 ≤ x13 ∧ x13 < (16 : Int) then (addr_mask.f (IntKind.i64.wrap (a1 - (IntKind.i64.wrap ((8 : Int) * x13))))).bind fun t24 => (if 0 ≤ x13 ∧ x13 < (16 : Int) then addr_cut.l0 a1 kk (IntKind.i64.wrap (x13 + (1 : Int))) ((arL 16 x14).set (Int.toNat x13) (IntKind.u8.wrap (BitVec.ofInt IntKind.u8.bits (ar x14 (Int.toNat x13)) &&& BitVec.ofInt IntKind.u8.bits t24).toNat)) else none) else none) else some (x14 : List Int))
def addr_cut.f (k : Nat) (a0 : S_api_Addr) (a1 : Int) : Option (S_api_Addr) := (addr_cut.l0 a1 k (0 : Int) a0.B).bind fun s12 => some (((⟨a0.Size, s12⟩ : S_api_Addr) : S_api_Addr))
set_option maxRecDepth 100000 in
theorem addr_cut.walk (w : World) (M : List Nat) (hM : MS M w) (a0 : S_api_Addr) (a1 : Int) (k : Nat) (r : S_api_Addr) (H : addr_cut.f k a0 a1 = some r) :
    To Tryd.prog 45 [.agg (cS_api_Addr a0).toArray, .int .i64 a1] w fun v w' => v = .agg (cS_api_Addr r).toArray ∧ Chg [] w w' ∧ MS (M) w' := by
 unfold addr_cut.f at H
 refine ent Tryd.func45 rfl [(0, .agg (cS_api_Addr a0).toArray), (1, .int .i64 a1)] rfl (by rfl) fun a ha => ?_
 have hC : Chg [] w w := Chg.refl _ _
 refine wp_seq_k fun K1 hK1 => ?_
 refine wp_region_lit ?_
 refine bx (cs := (cS_api_Addr a0)) ha rfl rfl rfl rfl rfl fun a w2 g3 hN4 ha => ?_
 have p_i5_M : ∀ x ∈ [g3], x ∉ M := fun x hx hy => absurd (hM x (hy)) (Nat.not_lt.2 ((hN4.ge1) x hx))
 have e_i5 : ∀ x ∈ [g3], w.heap.size ≤ x := fun x hx => Nat.le_trans hC.size ((hN4.ge1) x hx)
 have hM : MS ([g3] ++ (M)) w2 := (MS.app hN4.ms (hM.chg hN4.chg))
 have hC := hC.trans hN4.chg (Ok.nil _ _)
 have hBg3 : Box w2 g3 (cS_api_Addr a0) := hN4.box
 refine al (cs := (cS_api_Addr (⟨(0 : Int), (List.replicate 16 (0 : Int))⟩ : S_api_Addr))) (z := .agg (cS_api_Addr (⟨(0 : Int), (List.replicate 16 (0 : Int))⟩ : S_api_Addr)).toArray) ha (fun w => by kernel_rfl) rfl rfl rfl rfl fun a w6 g7 hN8 ha => ?_
 have hBg3 := hBg3.chg hN8.chg (fun h => nomatch h)
 have p_i9_i5 : ∀ x ∈ [g7], x ∉ ([g3]) := fun x hx hy => absurd (hM x (ml hy)) (Nat.not_lt.2 ((hN8.ge1) x hx))
 have p_i9_M : ∀ x ∈ [g7], x ∉ M := fun x hx hy => absurd (hM x (mr (hy))) (Nat.not_lt.2 ((hN8.ge1) x hx))
 have e_i9 : ∀ x ∈ [g7], w.heap.size ≤ x := fun x hx => Nat.le_trans hC.size ((hN8.ge1) x hx)
 have hM : MS ([g7] ++ ([g3] ++ (M))) w6 := (MS.app hN8.ms (hM.chg hN8.chg))
 have hC := hC.trans hN8.chg (Ok.nil _ _)
 have hBg7 : Box w6 g7 (cS_api_Addr (⟨(0 : Int), (List.replicate 16 (0 : Int))⟩ : S_api_Addr)) := hN8.box
 refine hK1 _ _ ?_; try clear hK1 K1
 refine wp_seq_k fun K10 hK10 => ?_
 refine wp_seq_k fun K11 hK11 => ?_
 refine wp_region_lit ?_
 refine seg ha 1 [(1, .int .i64 a1), (2, .pointer (some ⟨g3, 0, none⟩)), (4, .pointer (some ⟨g7, 0, none⟩)), (6, .int .i64 (0 : Int))] (by kernel_rfl) fun a ha => ?_
 refine hK11 _ _ ?_; try clear hK11 K11
 refine wp_block ?_
 obtain ⟨s12, H12, H⟩ := bind_some H
 have J12 : ∀ (a : Act) (wx12 : World), Has a Tryd.f45.ntmps [(2, .pointer (some ⟨g3, 0, none⟩)), (4, .pointer (some ⟨g7, 0, none⟩))] → (Box wx12 g3 (cS_api_Addr (⟨a0.Size, s12⟩ : S_api_Addr))) → (Box wx12 g7 (cS_api_Addr (⟨(0 : Int), (List.replicate 16 (0 : Int))⟩ : S_api_Addr))) → (Chg [] w wx12) → (MS ([g7] ++ ([g3] ++ (M))) wx12) → K10 a wx12 := by
  intro a wx12 ha hBg3 hBg7 hC hM
  refine hK10 _ _ ?_; try clear hK10 K10
  refine wp_seq_k fun K15 hK15 => ?_
  refine wp_region_lit ?_
  refine ldA (cs := (cS_api_Addr (⟨a0.Size, s12⟩ : S_api_Addr))) ha rfl (by kernel_rfl) rfl rfl rfl (cells_sub (Box.cells hBg3) (all := (cS_api_Addr (⟨a0.Size, s12⟩ : S_api_Addr))) [] [] (by kernel_rfl)) fun a ha => ?_
  refine stA (l := (cS_api_Addr (⟨a0.Size, s12⟩ : S_api_Addr))) ha rfl rfl rfl (by kernel_rfl) rfl rfl hBg7 rfl fun a w16 ha hb2 hc17 _ => ?_
  have hBg3 := hBg3.chg hc17 ((fun x (hx : x ∈ [g3]) (hy : x ∈ [g7]) => p_i9_i5 x hy hx) g3 (by simp))
  have hM : MS ([g7] ++ ([g3] ++ (M))) w16 := (hM.chg hc17)
  have hC := hC.trans hc17 (fun x h => .inr (e_i9 x h))
  have hBg7 : Box w16 g7 (cS_api_Addr (⟨a0.Size, s12⟩ : S_api_Addr)) := hb2
  refine hK15 _ _ ?_; try clear hK15 K15
  refine wp_ret ?_
  try simp only [Exit.then, Exit.inBlock]
  have hBg3 := hBg3.chg (Chg.refl [] _) (fun h => nomatch h)
  have hBg7 := hBg7.chg (Chg.refl [] _) (fun h => nomatch h)
  have hM : MS (M) w16 := (fun x h => hM.chg (Chg.refl [] _) x (mr (mr (h))))
  have hC := hC.trans (Chg.refl [] _) (Ok.nil _ _)
  obtain rfl := Option.some.inj H
  refine rtr ha (res1 rfl (roA ha rfl hBg7 (by kernel_rfl))) ?_
  exact ⟨rfl, hC, hM⟩
 have Hc12 := H
 have H := H12
 refine wp_loop_ghost (fun kk a w12 => ∃ (x13 : Int) (x14 : List Int), addr_cut.l0 a1 kk x13 x14 = some s12 ∧ Has a Tryd.f45.ntmps [(1, .int .i64 a1), (2, .pointer (some ⟨g3, 0, none⟩)), (4, .pointer (some ⟨g7, 0, none⟩)), (6, .int .i64 x13)] ∧ (Box w12 g3 (cS_api_Addr (⟨a0.Size, x14⟩ : S_api_Addr))) ∧ (Box w12 g7 (cS_api_Addr (⟨(0 : Int), (List.replicate 16 (0 : Int))⟩ : S_api_Addr))) ∧ (Chg [] w w12) ∧ (MS ([g7] ++ ([g3] ++ (M))) w12)) k ?_ ?_
 ·skip
  exact ⟨(0 : Int), a0.B, H, (ha.sel (by kernel_rfl)), hBg3, hBg7, hC, hM⟩
 ·rintro kk a w12 ⟨x13, x14, H, ha, hBg3, hBg7, hC, hM⟩
  obtain _ | kk := kk
  ·exact nomatch (show none = some _ from H)
  rw [addr_cut.l0] at H
  refine wp_seq_k fun K18 hK18 => ?_
  refine wp_region_lit ?_
  refine seg ha 1 [(1, .int .i64 a1), (2, .pointer (some ⟨g3, 0, none⟩)), (4, .pointer (some ⟨g7, 0, none⟩)), (6, .int .i64 x13), (7, .bool (decide (x13 < (16 : Int))))] (by kernel_rfl) fun a ha => ?_
  refine hK18 _ _ ?_; try clear hK18 K18
  refine wp_seq_k fun K19 hK19 => ?_
  refine cnd ha rfl (fun hc20 => ?_) (fun hc20 => ?_)
  ·have H := ite_t hc20 H
   refine wp_skip ?_
   refine hK19 _ _ ?_; try clear hK19 K19
   refine wp_seq_k fun K21 hK21 => ?_
   refine wp_block ?_
   refine wp_seq_k fun K22 hK22 => ?_
   refine wp_region_lit ?_
   refine seg ha 2 [(1, .int .i64 a1), (2, .pointer (some ⟨g3, 0, none⟩)), (4, .pointer (some ⟨g7, 0, none⟩)), (5, .int .i64 x13), (6, .int .i64 x13)] (by kernel_rfl) fun a ha => ?_
   refine hK22 _ _ ?_; try clear hK22 K22
   refine drq 12 (fun w' => Chg [] w12 w') (by kernel_rfl) (by kernel_rfl) (fun _ h => h) ?_
   refine qp 0 (.int .i64 x13) ha rfl rfl rfl (by kernel_rfl) fun a ha => ?_
   refine qp 0 (.pointer (some ⟨g3, 1, none⟩)) ha rfl rfl rfl (by kernel_rfl) fun a ha => ?_
   obtain ⟨⟨hx23, hx23'⟩, H⟩ := ite_some H
   have hi23 : (Int.toNat x13) < 16 := by omega
   refine qv (v := .pointer (some ⟨g3, 1 + (Int.toNat x13), none⟩)) ha rfl rfl rfl (fun w' hs => ixA_run (T := 5) (N := 16) (g := g3) (o' := 1) (k := .i64) (i := x13) ha (by kernel_rfl) (by kernel_rfl) (by rfl) (by rfl) hx23 hx23' w') fun a ha => ?_
   refine qv (v := .int .u8 (ar x14 (Int.toNat x13))) ha rfl rfl rfl (fun w' hs => ld_run ha rfl (by kernel_rfl) ((Box.chg hBg3 hs (fun h => nomatch h)).cell' (o := 1 + (Int.toNat x13)) rfl (arr_cell (k := .u8) (m := 16) (x := x14) ([.int .i64 a0.Size] : List Value) ([] : List Value) (by kernel_rfl) hi23))) fun a ha => ?_
   refine qp 0 (.int .i64 a1) ha rfl rfl rfl (by kernel_rfl) fun a ha => ?_
   refine qp 0 (.int .i64 x13) ha rfl rfl rfl (by kernel_rfl) fun a ha => ?_
   refine qp 0 (.int .i64 (IntKind.i64.wrap ((8 : Int) * x13))) ha rfl rfl rfl (by kernel_rfl) fun a ha => ?_
   refine qp 0 (.int .i64 (IntKind.i64.wrap (a1 - (IntKind.i64.wrap ((8 : Int) * x13))))) ha rfl rfl rfl (by kernel_rfl) fun a ha => ?_
   obtain ⟨t24, H24, H⟩ := bind_some H
   refine qc (.int .u8 t24) ha (by rfl) (by kernel_rfl) (by rfl) (by rfl) (by rfl) (fun w' hs => (addr_mask.walk w' [] (MS.nil _) (IntKind.i64.wrap (a1 - (IntKind.i64.wrap ((8 : Int) * x13)))) _ H24).mono fun v w'' ⟨hv, hc, _⟩ => ⟨hv, hs.trans hc (Ok.nil _ _)⟩) fun a ha => ?_
   refine qp 0 (.int .u8 (IntKind.u8.wrap (BitVec.ofInt IntKind.u8.bits (ar x14 (Int.toNat x13)) &&& BitVec.ofInt IntKind.u8.bits t24).toNat)) ha rfl rfl rfl (by kernel_rfl) fun a ha => ?_
   refine qp 0 (.pointer (some ⟨g3, 1, none⟩)) ha rfl rfl rfl (by kernel_rfl) fun a ha => ?_
   obtain ⟨⟨hx25, hx25'⟩, H⟩ := ite_some H
   have hi25 : (Int.toNat x13) < 16 := by omega
   refine qv (v := .pointer (some ⟨g3, 1 + (Int.toNat x13), none⟩)) ha rfl rfl rfl (fun w' hs => ixA_run (T := 5) (N := 16) (g := g3) (o' := 1) (k := .i64) (i := x13) ha (by kernel_rfl) (by kernel_rfl) (by rfl) (by rfl) hx25 hx25' w') fun a ha => ?_
   refine wpQuiet_nil ?_
   intro w26 hc27
   have hBg3 := hBg3.chg hc27 (fun h => nomatch h)
   have hBg7 := hBg7.chg hc27 (fun h => nomatch h)
   have hM : MS ([g7] ++ ([g3] ++ (M))) w26 := (hM.chg hc27)
   have hC := hC.trans hc27 (Ok.nil _ _)
   refine st (o' := 1 + (Int.toNat x13)) ha rfl rfl rfl (by kernel_rfl) rfl rfl hBg3 (arr_lt (k := .u8) (m := 16) (x := x14) ([.int .i64 a0.Size] : List Value) ([] : List Value) (by kernel_rfl) hi25) fun a w28 ha hb2 hc29 _ => ?_
   have hBg7 := hBg7.chg hc29 (p_i9_i5 g7 (by simp))
   have hM : MS ([g7] ++ ([g3] ++ (M))) w28 := (hM.chg hc29)
   have hC := hC.trans hc29 (fun x h => .inr (e_i5 x h))
   have hBg3 : Box w28 g3 (cS_api_Addr (⟨a0.Size, ((arL 16 x14).set (Int.toNat x13) (IntKind.u8.wrap (BitVec.ofInt IntKind.u8.bits (ar x14 (Int.toNat x13)) &&& BitVec.ofInt IntKind.u8.bits t24).toNat))⟩ : S_api_Addr)) := Box.setA (k := .u8) (m := 16) (x := x14) ([.int .i64 a0.Size] : List Value) ([] : List Value) hb2 (by kernel_rfl) hi25 (by kernel_rfl)
   refine hK21 _ _ ?_; try clear hK21 K21
   refine wp_region_lit ?_
   refine seg ha 2 [(1, .int .i64 a1), (2, .pointer (some ⟨g3, 0, none⟩)), (4, .pointer (some ⟨g7, 0, none⟩)), (6, .int .i64 (IntKind.i64.wrap (x13 + (1 : Int))))] (by kernel_rfl) fun a ha => ?_
   exact ⟨kk, Nat.lt_succ_self _, ⟨IntKind.i64.wrap (x13 + (1 : Int)), ((arL 16 x14).set (Int.toNat x13) (IntKind.u8.wrap (BitVec.ofInt IntKind.u8.bits (ar x14 (Int.toNat x13)) &&& BitVec.ofInt IntKind.u8.bits t24).toNat)), H, (ha.sel (by kernel_rfl)), hBg3, hBg7, hC, hM⟩⟩
  ·have H := ite_f hc20 H
   refine wp_exit ?_
   simp only [Exit.then, Exit.inBlock, ↓reduceIte, Nat.reduceEqDiff]
   obtain rfl := Option.some.inj H
   exact J12 _ _ (ha.sel (by kernel_rfl)) hBg3 hBg7 hC hM
def addr_Cut.f (k : Nat) (a0 : S_api_Addr) (a1 : Int) : Option (S_api_Prefix × Int) := ((addr_Right.f k a0).bind fun t22 => (if (!t22) = true then some (true : Bool) else (if (a0.Size == (0 : Int)) = true then some (true : Bool) else (if (decide (a1 < (0 : Int))) = true then some (true : Bool) else some (decide (a1 > (IntKind.i64.wrap ((8 : Int) * a0.Size))) : Bool))))).bind fun s13 => (if s13 = true then some (((⟨(⟨(0 : Int), (List.replicate 16 (0 : Int))⟩ : S_api_Addr), (0 : Int)⟩ : S_api_Prefix) : S_api_Prefix), ((1 : Int) : Int)) else (addr_cut.f k a0 a1).bind fun t19 => some (((⟨t19, a1⟩ : S_api_Prefix) : S_api_Prefix), ((0 : Int) : Int)))
set_option maxRecDepth 100000 in
theorem addr_Cut.walk (w : World) (M : List Nat) (hM : MS M w) (a0 : S_api_Addr) (a1 : Int) (k : Nat) (r : S_api_Prefix × Int) (H : addr_Cut.f k a0 a1 = some r) :
    To Tryd.prog 16 [.agg (cS_api_Addr a0).toArray, .int .i64 a1] w fun v w' => v = .tuple #[.agg (cS_api_Prefix r.1).toArray, .int .i64 r.2] ∧ Chg [] w w' ∧ MS (M) w' := by
 unfold addr_Cut.f at H
 refine ent Tryd.func16 rfl [(0, .agg (cS_api_Addr a0).toArray), (1, .int .i64 a1)] rfl (by rfl) fun a ha => ?_
 have hC : Chg [] w w := Chg.refl _ _
 refine wp_seq_k fun K1 hK1 => ?_
 refine wp_region_lit ?_
 refine bx (cs := (cS_api_Addr a0)) ha rfl rfl rfl rfl rfl fun a w2 g3 hN4 ha => ?_
 have hn6 := hN4.notin hM
 have hM : MS (M) w2 := (hM.chg hN4.chg)
 have hC := hC.trans hN4.chg (Ok.nil _ _)
 have hE5 : ∀ j v, (cS_api_Addr a0)[j]? = some v → w2.cell? ⟨g3, 0 + j, none⟩ = some v := Box.cells (New.box hN4)
 refine al (cs := (cS_api_Prefix (⟨(⟨(0 : Int), (List.replicate 16 (0 : Int))⟩ : S_api_Addr), (0 : Int)⟩ : S_api_Prefix))) (z := .agg (cS_api_Prefix (⟨(⟨(0 : Int), (List.replicate 16 (0 : Int))⟩ : S_api_Addr), (0 : Int)⟩ : S_api_Prefix)).toArray) ha (fun w => by kernel_rfl) rfl rfl rfl rfl fun a w7 g8 hN9 ha => ?_
 have o1 : Ok [] (M) w2.heap.size := Ok.nil _ _
 have o2 : Ok ([g8] ++ (M)) (M) w2.heap.size := (Ok.app (hN9.ok _) (Ok.refl _ _))
 have q_hn6 : g3 ∉ [g8] ++ (M) := fun h => (o2 g3 h).elim hn6 (fun h => absurd (lt_cell (hE5 0 _ rfl)) (Nat.not_lt.2 h))
 have hE5 : ∀ j v, (cS_api_Addr a0)[j]? = some v → w7.cell? ⟨g3, 0 + j, none⟩ = some v := fun j v hv => (cell_keep hN9.chg o1 hn6 (hE5 j v hv))
 have hn6 := q_hn6
 have p_i10_M : ∀ x ∈ [g8], x ∉ M := fun x hx hy => absurd (hM x (hy)) (Nat.not_lt.2 ((hN9.ge1) x hx))
 have e_i10 : ∀ x ∈ [g8], w.heap.size ≤ x := fun x hx => Nat.le_trans hC.size ((hN9.ge1) x hx)
 have hM : MS ([g8] ++ (M)) w7 := (MS.app hN9.ms (hM.chg hN9.chg))
 have hC := hC.trans hN9.chg (Ok.nil _ _)
 have hBg8 : Box w7 g8 (cS_api_Prefix (⟨(⟨(0 : Int), (List.replicate 16 (0 : Int))⟩ : S_api_Addr), (0 : Int)⟩ : S_api_Prefix)) := hN9.box
 refine seg ha 1 [(1, .int .i64 a1), (2, .pointer (some ⟨g3, 0, none⟩)), (4, .pointer (some ⟨g8, 0, none⟩))] (by kernel_rfl) fun a ha => ?_
 refine hK1 _ _ ?_; try clear hK1 K1
 refine wp_seq_k fun K11 hK11 => ?_
 refine wp_seq_k fun K12 hK12 => ?_
 refine wp_region_lit ?_
 obtain ⟨s13, H13, H⟩ := bind_some H
 have J13 : ∀ (a : Act) (w13 : World), Has a Tryd.f16.ntmps [(1, .int .i64 a1), (2, .pointer (some ⟨g3, 0, none⟩)), (4, .pointer (some ⟨g8, 0, none⟩)), (24, .bool s13)] → (Box w13 g8 (cS_api_Prefix (⟨(⟨(0 : Int), (List.replicate 16 (0 : Int))⟩ : S_api_Addr), (0 : Int)⟩ : S_api_Prefix))) → (∀ j v, (cS_api_Addr a0)[j]? = some v → w13.cell? ⟨g3, 0 + j, none⟩ = some v) → (g3 ∉ ([g8] ++ (M))) → (Chg [] w w13) → (MS ([g8] ++ (M)) w13) → K12 a w13 := by
  intro a w13 ha hBg8 hE5 hn6 hC hM
  refine hK12 _ _ ?_; try clear hK12 K12
  refine cnd ha rfl (fun hc14 => ?_) (fun hc14 => ?_)
  ·have H := ite_t hc14 H
   refine wp_seq_k fun K15 hK15 => ?_
   refine wp_region_lit ?_
   refine opk (v := .agg (cS_api_Prefix (⟨(⟨(0 : Int), (List.replicate 16 (0 : Int))⟩ : S_api_Addr), (0 : Int)⟩ : S_api_Prefix)).toArray) ha rfl rfl rfl rfl rfl (fun w => by kernel_rfl) fun a ha => ?_
   refine stA (l := (cS_api_Prefix (⟨(⟨(0 : Int), (List.replicate 16 (0 : Int))⟩ : S_api_Addr), (0 : Int)⟩ : S_api_Prefix))) ha rfl rfl rfl (by kernel_rfl) rfl rfl hBg8 rfl fun a w16 ha hb2 hc17 _ => ?_
   have hM : MS ([g8] ++ (M)) w16 := (hM.chg hc17)
   have hC := hC.trans hc17 (fun x h => .inr (e_i10 x h))
   have hBg8 : Box w16 g8 (cS_api_Prefix (⟨(⟨(0 : Int), (List.replicate 16 (0 : Int))⟩ : S_api_Addr), (0 : Int)⟩ : S_api_Prefix)) := hb2
   refine seg ha 1 [(4, .pointer (some ⟨g8, 0, none⟩)), (5, .int .i64 (1 : Int))] (by kernel_rfl) fun a ha => ?_
   refine hK15 _ _ ?_; try clear hK15 K15
   refine wp_ret ?_
   try simp only [Exit.then, Exit.inBlock]
   have hBg8 := hBg8.chg (Chg.refl [] _) (fun h => nomatch h)
   have hM : MS (M) w16 := (fun x h => hM.chg (Chg.refl [] _) x (mr (h)))
   have hC := hC.trans (Chg.refl [] _) (Ok.nil _ _)
   obtain rfl := Option.some.inj H
   refine rtr ha (res2 rfl (roA ha rfl hBg8 (by kernel_rfl)) (roT ha rfl)) ?_
   exact ⟨rfl, hC, hM⟩
  ·have H := ite_f hc14 H
   refine wp_skip ?_
   refine hK11 _ _ ?_; try clear hK11 K11
   refine wp_seq_k fun K18 hK18 => ?_
   refine wp_region_lit ?_
   refine ldA (cs := (cS_api_Addr a0)) ha rfl (by kernel_rfl) rfl rfl rfl (cells_sub hE5 (all := (cS_api_Addr a0)) [] [] (by kernel_rfl)) fun a ha => ?_
   refine seg ha 1 [(1, .int .i64 a1), (4, .pointer (some ⟨g8, 0, none⟩)), (26, .agg (cS_api_Addr a0).toArray), (27, .int .i64 a1)] (by kernel_rfl) fun a ha => ?_
   obtain ⟨t19, H19, H⟩ := bind_some H
   refine cl ha (by rfl) (by kernel_rfl) (by rfl) (by rfl) (by rfl) (addr_cut.walk w13 _ hM a0 a1 k _ H19) ?_
   rintro _ w19 ⟨rfl, hc19, hMn⟩ a ha
   have hBg8 := hBg8.chg hc19 (fun h => nomatch h)
   have hM : MS ([g8] ++ (M)) w19 := (hM.chg hc19)
   have hC := hC.trans hc19 (Ok.nil _ _)
   refine seg ha 1 [(4, .pointer (some ⟨g8, 0, none⟩)), (28, .agg (cS_api_Addr t19).toArray), (29, .int .i64 a1)] (by kernel_rfl) fun a ha => ?_
   refine opk (v := .agg (cS_api_Prefix (⟨t19, a1⟩ : S_api_Prefix)).toArray) ha rfl rfl rfl rfl rfl (fun w => by kernel_rfl) fun a ha => ?_
   refine stA (l := (cS_api_Prefix (⟨t19, a1⟩ : S_api_Prefix))) ha rfl rfl rfl (by kernel_rfl) rfl rfl hBg8 rfl fun a w20 ha hb2 hc21 _ => ?_
   have hM : MS ([g8] ++ (M)) w20 := (hM.chg hc21)
   have hC := hC.trans hc21 (fun x h => .inr (e_i10 x h))
   have hBg8 : Box w20 g8 (cS_api_Prefix (⟨t19, a1⟩ : S_api_Prefix)) := hb2
   refine seg ha 1 [(4, .pointer (some ⟨g8, 0, none⟩)), (5, .int .i64 (0 : Int))] (by kernel_rfl) fun a ha => ?_
   refine hK18 _ _ ?_; try clear hK18 K18
   refine wp_ret ?_
   try simp only [Exit.then, Exit.inBlock]
   have hBg8 := hBg8.chg (Chg.refl [] _) (fun h => nomatch h)
   have hM : MS (M) w20 := (fun x h => hM.chg (Chg.refl [] _) x (mr (h)))
   have hC := hC.trans (Chg.refl [] _) (Ok.nil _ _)
   obtain rfl := Option.some.inj H
   refine rtr ha (res2 rfl (roA ha rfl hBg8 (by kernel_rfl)) (roT ha rfl)) ?_
   exact ⟨rfl, hC, hM⟩
 have H := H13
 refine ldA (cs := (cS_api_Addr a0)) ha rfl (by kernel_rfl) rfl rfl rfl (cells_sub hE5 (all := (cS_api_Addr a0)) [] [] (by kernel_rfl)) fun a ha => ?_
 obtain ⟨t22, H22, H⟩ := bind_some H
 refine cl ha (by rfl) (by kernel_rfl) (by rfl) (by rfl) (by rfl) (addr_Right.walk w7 _ hM a0 k _ H22) ?_
 rintro _ w22 ⟨rfl, hc22, hMn⟩ a ha
 have o1 : Ok [] ([g8] ++ (M)) w7.heap.size := Ok.nil _ _
 have o2 : Ok ([g8] ++ (M)) ([g8] ++ (M)) w7.heap.size := (Ok.refl _ _)
 have hBg8 := hBg8.chg hc22 (fun h => nomatch h)
 have q_hn6 : g3 ∉ [g8] ++ (M) := fun h => (o2 g3 h).elim hn6 (fun h => absurd (lt_cell (hE5 0 _ rfl)) (Nat.not_lt.2 h))
 have hE5 : ∀ j v, (cS_api_Addr a0)[j]? = some v → w22.cell? ⟨g3, 0 + j, none⟩ = some v := fun j v hv => (cell_keep hc22 o1 hn6 (hE5 j v hv))
 have hn6 := q_hn6
 have hM : MS ([g8] ++ (M)) w22 := (hM.chg hc22)
 have hC := hC.trans hc22 (Ok.nil _ _)
 refine seg ha 2 [(9, .bool (!t22)), (1, .int .i64 a1), (2, .pointer (some ⟨g3, 0, none⟩)), (4, .pointer (some ⟨g8, 0, none⟩))] (by kernel_rfl) fun a ha => ?_
 rcases Bool.eq_false_or_eq_true (!t22) with hb23 | hb23
 ·have ha := ha.lit hb23
  have H := ite_t hb23 H
  refine sgh ha 15 [1, 1, 1, 3, 0, 1, 1, 3, 0, 1, 1, 1, 1, 1, 3] [(1, .int .i64 a1), (2, .pointer (some ⟨g3, 0, none⟩)), (4, .pointer (some ⟨g8, 0, none⟩)), (24, .bool true)] (by kernel_rfl) fun a ha => ?_
  obtain rfl := Option.some.inj H
  exact J13 _ _ (ha.sel (by kernel_rfl)) hBg8 hE5 hn6 hC hM
 ·have ha := ha.lit hb23
  have H := ite_f hb23 H
  refine sgh ha 1 [2] [(1, .int .i64 a1), (2, .pointer (some ⟨g3, 0, none⟩)), (4, .pointer (some ⟨g8, 0, none⟩)), (9, .bool false), (10, .pointer (some ⟨g3, 0, none⟩))] (by kernel_rfl) fun a ha => ?_
  refine ld ha rfl (by kernel_rfl) rfl rfl rfl (hE5 0 (.int .i64 a0.Size) (by kernel_rfl)) fun a ha => ?_
  refine sgh ha 3 [2, 4, 0] [(14, .bool (a0.Size == (0 : Int))), (1, .int .i64 a1), (2, .pointer (some ⟨g3, 0, none⟩)), (4, .pointer (some ⟨g8, 0, none⟩))] (by kernel_rfl) fun a ha => ?_
  rcases Bool.eq_false_or_eq_true (a0.Size == (0 : Int)) with hb24 | hb24
  ·have ha := ha.lit hb24
   have H := ite_t hb24 H
   refine sgh ha 10 [1, 1, 3, 0, 1, 1, 1, 1, 1, 3] [(1, .int .i64 a1), (2, .pointer (some ⟨g3, 0, none⟩)), (4, .pointer (some ⟨g8, 0, none⟩)), (24, .bool true)] (by kernel_rfl) fun a ha => ?_
   obtain rfl := Option.some.inj H
   exact J13 _ _ (ha.sel (by kernel_rfl)) hBg8 hE5 hn6 hC hM
  ·have ha := ha.lit hb24
   have H := ite_f hb24 H
   refine sgh ha 4 [2, 2, 4, 0] [(18, .bool (decide (a1 < (0 : Int)))), (1, .int .i64 a1), (2, .pointer (some ⟨g3, 0, none⟩)), (4, .pointer (some ⟨g8, 0, none⟩))] (by kernel_rfl) fun a ha => ?_
   rcases Bool.eq_false_or_eq_true (decide (a1 < (0 : Int))) with hb25 | hb25
   ·have ha := ha.lit hb25
    have H := ite_t hb25 H
    refine sgh ha 6 [1, 1, 1, 1, 1, 3] [(1, .int .i64 a1), (2, .pointer (some ⟨g3, 0, none⟩)), (4, .pointer (some ⟨g8, 0, none⟩)), (24, .bool true)] (by kernel_rfl) fun a ha => ?_
    obtain rfl := Option.some.inj H
    exact J13 _ _ (ha.sel (by kernel_rfl)) hBg8 hE5 hn6 hC hM
   ·have ha := ha.lit hb25
    have H := ite_f hb25 H
    refine sgh ha 2 [2, 2] [(1, .int .i64 a1), (2, .pointer (some ⟨g3, 0, none⟩)), (4, .pointer (some ⟨g8, 0, none⟩)), (18, .bool false), (19, .int .i64 a1), (20, .pointer (some ⟨g3, 0, none⟩))] (by kernel_rfl) fun a ha => ?_
    refine ld ha rfl (by kernel_rfl) rfl rfl rfl (hE5 0 (.int .i64 a0.Size) (by kernel_rfl)) fun a ha => ?_
    refine sgh ha 3 [2, 2, 4] [(1, .int .i64 a1), (2, .pointer (some ⟨g3, 0, none⟩)), (4, .pointer (some ⟨g8, 0, none⟩)), (24, .bool (decide (a1 > (IntKind.i64.wrap ((8 : Int) * a0.Size)))))] (by kernel_rfl) fun a ha => ?_
    obtain rfl := Option.some.inj H
    exact J13 _ _ (ha.sel (by kernel_rfl)) hBg8 hE5 hn6 hC hM
def addr_right.f (k : Nat) (a0 : S_api_Prefix) : Option (Bool) := (addr_Cut.f k a0.Addr a0.Bits).bind fun t8 => ((if (t8.2 == (0 : Int)) = true then some ((((t8.1.Addr.Size == a0.Addr.Size) && ((eqA 16 t8.1.Addr.B a0.Addr.B) && true)) && ((t8.1.Bits == a0.Bits) && true)) : Bool) else some (false : Bool))).bind fun s16 => some ((s16 : Bool))
set_option maxRecDepth 100000 in
theorem addr_right.walk (w : World) (M : List Nat) (hM : MS M w) (a0 : S_api_Prefix) (k : Nat) (r : Bool) (H : addr_right.f k a0 = some r) :
    To Tryd.prog 46 [.agg (cS_api_Prefix a0).toArray] w fun v w' => v = .bool r ∧ Chg [] w w' ∧ MS (M) w' := by
 unfold addr_right.f at H
 refine ent Tryd.func46 rfl [(0, .agg (cS_api_Prefix a0).toArray)] rfl (by rfl) fun a ha => ?_
 have hC : Chg [] w w := Chg.refl _ _
 refine wp_seq_k fun K1 hK1 => ?_
 refine wp_region_lit ?_
 refine bx (cs := (cS_api_Prefix a0)) ha rfl rfl rfl rfl rfl fun a w2 g3 hN4 ha => ?_
 have hn6 := hN4.notin hM
 have hM : MS (M) w2 := (hM.chg hN4.chg)
 have hC := hC.trans hN4.chg (Ok.nil _ _)
 have hE5 : ∀ j v, (cS_api_Prefix a0)[j]? = some v → w2.cell? ⟨g3, 0 + j, none⟩ = some v := Box.cells (New.box hN4)
 refine seg ha 1 [(1, .pointer (some ⟨g3, 0, none⟩))] (by kernel_rfl) fun a ha => ?_
 refine hK1 _ _ ?_; try clear hK1 K1
 refine wp_seq_k fun K7 hK7 => ?_
 refine wp_region_lit ?_
 refine seg ha 1 [(1, .pointer (some ⟨g3, 0, none⟩)), (6, .pointer (some ⟨g3, 0, none⟩))] (by kernel_rfl) fun a ha => ?_
 refine ldA (cs := (cS_api_Addr a0.Addr)) ha rfl (by kernel_rfl) rfl rfl rfl (cells_sub hE5 (all := (cS_api_Prefix a0)) [] [.int .i64 a0.Bits] (by kernel_rfl)) fun a ha => ?_
 refine seg ha 1 [(1, .pointer (some ⟨g3, 0, none⟩)), (7, .agg (cS_api_Addr a0.Addr).toArray), (8, .pointer (some ⟨g3, 0 + 17, none⟩))] (by kernel_rfl) fun a ha => ?_
 refine ld ha rfl (by kernel_rfl) rfl rfl rfl (hE5 17 (.int .i64 a0.Bits) (by kernel_rfl)) fun a ha => ?_
 obtain ⟨t8, H8, H⟩ := bind_some H
 refine cl ha (by rfl) (by kernel_rfl) (by rfl) (by rfl) (by rfl) (addr_Cut.walk w2 _ hM a0.Addr a0.Bits k _ H8) ?_
 rintro _ w8 ⟨rfl, hc8, hMn⟩ a ha
 have o1 : Ok [] (M) w2.heap.size := Ok.nil _ _
 have o2 : Ok (M) (M) w2.heap.size := (Ok.refl _ _)
 have q_hn6 : g3 ∉ M := fun h => (o2 g3 h).elim hn6 (fun h => absurd (lt_cell (hE5 0 _ rfl)) (Nat.not_lt.2 h))
 have hE5 : ∀ j v, (cS_api_Prefix a0)[j]? = some v → w8.cell? ⟨g3, 0 + j, none⟩ = some v := fun j v hv => (cell_keep hc8 o1 hn6 (hE5 j v hv))
 have hn6 := q_hn6
 have hM : MS (M) w8 := (hM.chg hc8)
 have hC := hC.trans hc8 (Ok.nil _ _)
 refine seg ha 3 [(1, .pointer (some ⟨g3, 0, none⟩)), (11, .agg (cS_api_Prefix t8.1).toArray), (12, .int .i64 t8.2)] (by kernel_rfl) fun a ha => ?_
 refine al (cs := (cS_api_Prefix (⟨(⟨(0 : Int), (List.replicate 16 (0 : Int))⟩ : S_api_Addr), (0 : Int)⟩ : S_api_Prefix))) (z := .agg (cS_api_Prefix (⟨(⟨(0 : Int), (List.replicate 16 (0 : Int))⟩ : S_api_Addr), (0 : Int)⟩ : S_api_Prefix)).toArray) ha (fun w => by kernel_rfl) rfl rfl rfl rfl fun a w9 g10 hN11 ha => ?_
 have o1 : Ok [] (M) w8.heap.size := Ok.nil _ _
 have o2 : Ok ([g10] ++ (M)) (M) w8.heap.size := (Ok.app (hN11.ok _) (Ok.refl _ _))
 have q_hn6 : g3 ∉ [g10] ++ (M) := fun h => (o2 g3 h).elim hn6 (fun h => absurd (lt_cell (hE5 0 _ rfl)) (Nat.not_lt.2 h))
 have hE5 : ∀ j v, (cS_api_Prefix a0)[j]? = some v → w9.cell? ⟨g3, 0 + j, none⟩ = some v := fun j v hv => (cell_keep hN11.chg o1 hn6 (hE5 j v hv))
 have hn6 := q_hn6
 have p_i12_M : ∀ x ∈ [g10], x ∉ M := fun x hx hy => absurd (hM x (hy)) (Nat.not_lt.2 ((hN11.ge1) x hx))
 have e_i12 : ∀ x ∈ [g10], w.heap.size ≤ x := fun x hx => Nat.le_trans hC.size ((hN11.ge1) x hx)
 have hM : MS ([g10] ++ (M)) w9 := (MS.app hN11.ms (hM.chg hN11.chg))
 have hC := hC.trans hN11.chg (Ok.nil _ _)
 have hBg10 : Box w9 g10 (cS_api_Prefix (⟨(⟨(0 : Int), (List.replicate 16 (0 : Int))⟩ : S_api_Addr), (0 : Int)⟩ : S_api_Prefix)) := hN11.box
 refine stA (l := (cS_api_Prefix t8.1)) ha rfl rfl rfl (by kernel_rfl) rfl rfl hBg10 rfl fun a w13 ha hb2 hc14 _ => ?_
 have o1 : Ok [g10] ([g10] ++ (M)) w9.heap.size := (fun _ h => .inl (ml h))
 have o2 : Ok ([g10] ++ (M)) ([g10] ++ (M)) w9.heap.size := (Ok.refl _ _)
 have q_hn6 : g3 ∉ [g10] ++ (M) := fun h => (o2 g3 h).elim hn6 (fun h => absurd (lt_cell (hE5 0 _ rfl)) (Nat.not_lt.2 h))
 have hE5 : ∀ j v, (cS_api_Prefix a0)[j]? = some v → w13.cell? ⟨g3, 0 + j, none⟩ = some v := fun j v hv => (cell_keep hc14 o1 hn6 (hE5 j v hv))
 have hn6 := q_hn6
 have hM : MS ([g10] ++ (M)) w13 := (hM.chg hc14)
 have hC := hC.trans hc14 (fun x h => .inr (e_i12 x h))
 have hBg10 : Box w13 g10 (cS_api_Prefix t8.1) := hb2
 refine seg ha 1 [(1, .pointer (some ⟨g3, 0, none⟩)), (3, .pointer (some ⟨g10, 0, none⟩)), (4, .int .i64 t8.2)] (by kernel_rfl) fun a ha => ?_
 refine hK7 _ _ ?_; try clear hK7 K7
 refine wp_seq_k fun K15 hK15 => ?_
 refine wp_region_lit ?_
 obtain ⟨s16, H16, H⟩ := bind_some H
 have J16 : ∀ (a : Act) (w16 : World), Has a Tryd.f46.ntmps [(2, .bool s16)] → (Box w16 g10 (cS_api_Prefix t8.1)) → (Chg [] w w16) → (MS ([g10] ++ (M)) w16) → K15 a w16 := by
  intro a w16 ha hBg10 hC hM
  refine hK15 _ _ ?_; try clear hK15 K15
  refine wp_ret ?_
  try simp only [Exit.then, Exit.inBlock]
  have hBg10 := hBg10.chg (Chg.refl [] _) (fun h => nomatch h)
  have hM : MS (M) w16 := (fun x h => hM.chg (Chg.refl [] _) x (mr (h)))
  have hC := hC.trans (Chg.refl [] _) (Ok.nil _ _)
  obtain rfl := Option.some.inj H
  refine rt1 ha rfl rfl ?_
  exact ⟨rfl, hC, hM⟩
 have H := H16
 refine seg ha 3 [(15, .bool (t8.2 == (0 : Int))), (1, .pointer (some ⟨g3, 0, none⟩)), (3, .pointer (some ⟨g10, 0, none⟩))] (by kernel_rfl) fun a ha => ?_
 rcases Bool.eq_false_or_eq_true (t8.2 == (0 : Int)) with hb17 | hb17
 ·have ha := ha.lit hb17
  have H := ite_t hb17 H
  refine ldA (cs := (cS_api_Prefix t8.1)) ha rfl (by kernel_rfl) rfl rfl rfl (cells_sub (Box.cells hBg10) (all := (cS_api_Prefix t8.1)) [] [] (by kernel_rfl)) fun a ha => ?_
  refine ldA (cs := (cS_api_Prefix a0)) ha rfl (by kernel_rfl) rfl rfl rfl (cells_sub hE5 (all := (cS_api_Prefix a0)) [] [] (by kernel_rfl)) fun a ha => ?_
  refine hop (v := .bool (((t8.1.Addr.Size == a0.Addr.Size) && ((eqA 16 t8.1.Addr.B a0.Addr.B) && true)) && ((t8.1.Bits == a0.Bits) && true))) (w' := w13) ha rfl rfl rfl (eqs_run (r := (((t8.1.Addr.Size == a0.Addr.Size) && ((eqA 16 t8.1.Addr.B a0.Addr.B) && true)) && ((t8.1.Bits == a0.Bits) && true))) (m := 9) ha rfl rfl (by kernel_rfl) rfl (by kernel_rfl) _) fun a ha => ?_
  refine sgh ha 2 [3, 0] [(2, .bool (((t8.1.Addr.Size == a0.Addr.Size) && ((eqA 16 t8.1.Addr.B a0.Addr.B) && true)) && ((t8.1.Bits == a0.Bits) && true)))] (by kernel_rfl) fun a ha => ?_
  obtain rfl := Option.some.inj H
  exact J16 _ _ (ha.sel (by kernel_rfl)) hBg10 hC hM
 ·have ha := ha.lit hb17
  have H := ite_f hb17 H
  refine sgh ha 5 [1, 1, 1, 4, 0] [(2, .bool false)] (by kernel_rfl) fun a ha => ?_
  obtain rfl := Option.some.inj H
  exact J16 _ _ (ha.sel (by kernel_rfl)) hBg10 hC hM
def addr_PrefixText.f (k : Nat) (a0 : S_api_Prefix) : Option (List UInt8) := (addr_right.f k a0).bind fun t9 => (if (!t9) = true then some ((([] : List UInt8) : List UInt8)) else (addr_Text.f k a0.Addr).bind fun t13 => (if (t13 ++ ([47] : List UInt8)).length ≤ 9223372036854775807 then (strconv_Itoa.f a0.Bits).bind fun t15 => (if ((t13 ++ ([47] : List UInt8)) ++ t15).length ≤ 9223372036854775807 then some (((t13 ++ ([47] : List UInt8)) ++ t15 : List UInt8)) else none) else none))
set_option maxRecDepth 100000 in
theorem addr_PrefixText.walk (w : World) (M : List Nat) (hM : MS M w) (hG : GF w M) (a0 : S_api_Prefix) (k : Nat) (r : List UInt8) (H : addr_PrefixText.f k a0 = some r) :
    To Tryd.prog 21 [.agg (cS_api_Prefix a0).toArray] w fun v w' => v = .string (bstr r) ∧ Chg [] w w' ∧ MS (M) w' := by
 unfold addr_PrefixText.f at H
 refine ent Tryd.func21 rfl [(0, .agg (cS_api_Prefix a0).toArray)] rfl (by rfl) fun a ha => ?_
 have hC : Chg [] w w := Chg.refl _ _
 refine wp_seq_k fun K1 hK1 => ?_
 refine wp_region_lit ?_
 refine bx (cs := (cS_api_Prefix a0)) ha rfl rfl rfl rfl rfl fun a w2 g3 hN4 ha => ?_
 have hn6 := hN4.notin hM
 have o1 : Ok [] (M) w.heap.size := Ok.nil _ _
 have o2 : Ok (M) (M) w.heap.size := (Ok.refl _ _)
 have hG := hG.chg hN4.chg o1 o2
 have hM : MS (M) w2 := (hM.chg hN4.chg)
 have hC := hC.trans hN4.chg (Ok.nil _ _)
 have hE5 : ∀ j v, (cS_api_Prefix a0)[j]? = some v → w2.cell? ⟨g3, 0 + j, none⟩ = some v := Box.cells (New.box hN4)
 refine seg ha 1 [(1, .pointer (some ⟨g3, 0, none⟩))] (by kernel_rfl) fun a ha => ?_
 refine hK1 _ _ ?_; try clear hK1 K1
 refine wp_seq_k fun K7 hK7 => ?_
 refine wp_seq_k fun K8 hK8 => ?_
 refine wp_region_lit ?_
 refine ldA (cs := (cS_api_Prefix a0)) ha rfl (by kernel_rfl) rfl rfl rfl (cells_sub hE5 (all := (cS_api_Prefix a0)) [] [] (by kernel_rfl)) fun a ha => ?_
 obtain ⟨t9, H9, H⟩ := bind_some H
 refine cl ha (by rfl) (by kernel_rfl) (by rfl) (by rfl) (by rfl) (addr_right.walk w2 _ hM a0 k _ H9) ?_
 rintro _ w9 ⟨rfl, hc9, hMn⟩ a ha
 have o1 : Ok [] (M) w2.heap.size := Ok.nil _ _
 have o2 : Ok (M) (M) w2.heap.size := (Ok.refl _ _)
 have hG := hG.chg hc9 o1 o2
 have q_hn6 : g3 ∉ M := fun h => (o2 g3 h).elim hn6 (fun h => absurd (lt_cell (hE5 0 _ rfl)) (Nat.not_lt.2 h))
 have hE5 : ∀ j v, (cS_api_Prefix a0)[j]? = some v → w9.cell? ⟨g3, 0 + j, none⟩ = some v := fun j v hv => (cell_keep hc9 o1 hn6 (hE5 j v hv))
 have hn6 := q_hn6
 have hM : MS (M) w9 := (hM.chg hc9)
 have hC := hC.trans hc9 (Ok.nil _ _)
 refine seg ha 1 [(1, .pointer (some ⟨g3, 0, none⟩)), (5, .bool (!t9))] (by kernel_rfl) fun a ha => ?_
 refine hK8 _ _ ?_; try clear hK8 K8
 refine cnd ha rfl (fun hc10 => ?_) (fun hc10 => ?_)
 ·have H := ite_t hc10 H
  refine wp_seq_k fun K11 hK11 => ?_
  refine wp_region_lit ?_
  refine seg ha 1 [(2, .string (bstr ([] : List UInt8)))] (by kernel_rfl) fun a ha => ?_
  refine hK11 _ _ ?_; try clear hK11 K11
  refine wp_ret ?_
  try simp only [Exit.then, Exit.inBlock]
  obtain rfl := Option.some.inj H
  refine rt1 ha rfl rfl ?_
  exact ⟨rfl, hC, hM⟩
 ·have H := ite_f hc10 H
  refine wp_skip ?_
  refine hK7 _ _ ?_; try clear hK7 K7
  refine wp_seq_k fun K12 hK12 => ?_
  refine drq0 (fun w' => Chg [] w9 w') (by kernel_rfl) (by kernel_rfl) (fun _ h => h) ?_
  refine qp 0 (.pointer (some ⟨g3, 0, none⟩)) ha rfl rfl rfl (by kernel_rfl) fun a ha => ?_
  refine qv (v := .agg (cS_api_Addr a0.Addr).toArray) ha rfl rfl rfl (fun w' hs => ldA_run (cs := (cS_api_Addr a0.Addr)) ha rfl (by kernel_rfl) (cells_sub (fun j v hv => hs.keep (hE5 j v hv)) (all := (cS_api_Prefix a0)) [] [.int .i64 a0.Bits] (by kernel_rfl))) fun a ha => ?_
  obtain ⟨t13, H13, H⟩ := bind_some H
  refine qc (.string (bstr t13)) ha (by rfl) (by kernel_rfl) (by rfl) (by rfl) (by rfl) (fun w' hs => (addr_Text.walk w' [] (MS.nil _) (hG.chg (M' := []) hs (Ok.nil _ _) (Ok.nil _ _)) a0.Addr k _ H13).mono fun v w'' ⟨hv, hc, _⟩ => ⟨hv, hs.trans hc (Ok.nil _ _)⟩) fun a ha => ?_
  obtain ⟨hx14, H⟩ := ite_some H
  refine qv (v := .string (bstr (t13 ++ ([47] : List UInt8)))) ha rfl rfl rfl (fun w' hs => sadd_run ha rfl rfl hx14 w') fun a ha => ?_
  refine qp 0 (.pointer (some ⟨g3, 0 + 17, none⟩)) ha rfl rfl rfl (by kernel_rfl) fun a ha => ?_
  refine qv (v := .int .i64 a0.Bits) ha rfl rfl rfl (fun w' hs => ld_run ha rfl (by kernel_rfl) (hs.keep (hE5 17 (.int .i64 a0.Bits) (by kernel_rfl)))) fun a ha => ?_
  obtain ⟨t15, H15, H⟩ := bind_some H
  refine qc (.string (bstr t15)) ha (by rfl) (by kernel_rfl) (by rfl) (by rfl) (by rfl) (fun w' hs => (strconv_Itoa.walk w' [] (MS.nil _) (hG.chg (M' := []) hs (Ok.nil _ _) (Ok.nil _ _)) a0.Bits _ H15).mono fun v w'' ⟨hv, hc, _⟩ => ⟨hv, hs.trans hc (Ok.nil _ _)⟩) fun a ha => ?_
  obtain ⟨hx16, H⟩ := ite_some H
  refine qv (v := .string (bstr ((t13 ++ ([47] : List UInt8)) ++ t15))) ha rfl rfl rfl (fun w' hs => sadd_run ha rfl rfl hx16 w') fun a ha => ?_
  refine qp 0 (.string (bstr ((t13 ++ ([47] : List UInt8)) ++ t15))) ha rfl rfl rfl (by kernel_rfl) fun a ha => ?_
  refine wpQuiet_nil ?_
  intro w17 hc18
  have o1 : Ok [] (M) w9.heap.size := Ok.nil _ _
  have o2 : Ok (M) (M) w9.heap.size := (Ok.refl _ _)
  have hG := hG.chg hc18 o1 o2
  have q_hn6 : g3 ∉ M := fun h => (o2 g3 h).elim hn6 (fun h => absurd (lt_cell (hE5 0 _ rfl)) (Nat.not_lt.2 h))
  have hE5 : ∀ j v, (cS_api_Prefix a0)[j]? = some v → w17.cell? ⟨g3, 0 + j, none⟩ = some v := fun j v hv => (cell_keep hc18 o1 hn6 (hE5 j v hv))
  have hn6 := q_hn6
  have hM : MS (M) w17 := (hM.chg hc18)
  have hC := hC.trans hc18 (Ok.nil _ _)
  refine wpl_end ?_
  refine hK12 _ _ ?_; try clear hK12 K12
  refine wp_ret ?_
  try simp only [Exit.then, Exit.inBlock]
  obtain rfl := Option.some.inj H
  refine rt1 ha rfl rfl ?_
  exact ⟨rfl, hC, hM⟩
def addr_Has.f (k : Nat) (a0 : S_api_Prefix) (a1 : S_api_Addr) : Option (Bool) := ((addr_right.f k a0).bind fun t14 => (if t14 = true then (addr_Right.f k a1).bind fun t16 => (if t16 = true then (if (a1.Size == a0.Addr.Size) = true then (addr_cut.f k a1 a0.Bits).bind fun t19 => some (((t19.Size == a0.Addr.Size) && ((eqA 16 t19.B a0.Addr.B) && true)) : Bool) else some (false : Bool)) else some (false : Bool)) else some (false : Bool))).bind fun s13 => some ((s13 : Bool))
set_option maxRecDepth 100000 in
theorem addr_Has.walk (w : World) (M : List Nat) (hM : MS M w) (a0 : S_api_Prefix) (a1 : S_api_Addr) (k : Nat) (r : Bool) (H : addr_Has.f k a0 a1 = some r) :
    To Tryd.prog 17 [.agg (cS_api_Prefix a0).toArray, .agg (cS_api_Addr a1).toArray] w fun v w' => v = .bool r ∧ Chg [] w w' ∧ MS (M) w' := by
 unfold addr_Has.f at H
 refine ent Tryd.func17 rfl [(0, .agg (cS_api_Prefix a0).toArray), (1, .agg (cS_api_Addr a1).toArray)] rfl (by rfl) fun a ha => ?_
 have hC : Chg [] w w := Chg.refl _ _
 refine wp_seq_k fun K1 hK1 => ?_
 refine wp_region_lit ?_
 refine bx (cs := (cS_api_Prefix a0)) ha rfl rfl rfl rfl rfl fun a w2 g3 hN4 ha => ?_
 have hn6 := hN4.notin hM
 have hM : MS (M) w2 := (hM.chg hN4.chg)
 have hC := hC.trans hN4.chg (Ok.nil _ _)
 have hE5 : ∀ j v, (cS_api_Prefix a0)[j]? = some v → w2.cell? ⟨g3, 0 + j, none⟩ = some v := Box.cells (New.box hN4)
 refine bx (cs := (cS_api_Addr a1)) ha rfl rfl rfl rfl rfl fun a w7 g8 hN9 ha => ?_
 have hn11 := hN9.notin hM
 have o1 : Ok [] (M) w2.heap.size := Ok.nil _ _
 have o2 : Ok (M) (M) w2.heap.size := (Ok.refl _ _)
 have q_hn6 : g3 ∉ M := fun h => (o2 g3 h).elim hn6 (fun h => absurd (lt_cell (hE5 0 _ rfl)) (Nat.not_lt.2 h))
 have hE5 : ∀ j v, (cS_api_Prefix a0)[j]? = some v → w7.cell? ⟨g3, 0 + j, none⟩ = some v := fun j v hv => (cell_keep hN9.chg o1 hn6 (hE5 j v hv))
 have hn6 := q_hn6
 have hM : MS (M) w7 := (hM.chg hN9.chg)
 have hC := hC.trans hN9.chg (Ok.nil _ _)
 have hE10 : ∀ j v, (cS_api_Addr a1)[j]? = some v → w7.cell? ⟨g8, 0 + j, none⟩ = some v := Box.cells (New.box hN9)
 refine seg ha 1 [(2, .pointer (some ⟨g3, 0, none⟩)), (3, .pointer (some ⟨g8, 0, none⟩))] (by kernel_rfl) fun a ha => ?_
 refine hK1 _ _ ?_; try clear hK1 K1
 refine wp_seq_k fun K12 hK12 => ?_
 refine drq0 (fun w' => Chg [] w7 w') (by kernel_rfl) (by kernel_rfl) (fun _ h => h) ?_
 obtain ⟨s13, H13, H⟩ := bind_some H
 have J13 : ∀ (a : Act) (w13 : World), Has a Tryd.f17.ntmps [(4, .bool s13)] → (Chg [] w w13) → (MS (M) w13) → K12 a w13 := by
  intro a w13 ha hC hM
  refine hK12 _ _ ?_; try clear hK12 K12
  refine wp_ret ?_
  try simp only [Exit.then, Exit.inBlock]
  obtain rfl := Option.some.inj H
  refine rt1 ha rfl rfl ?_
  exact ⟨rfl, hC, hM⟩
 have H := H13
 refine qv (v := .agg (cS_api_Prefix a0).toArray) ha rfl rfl rfl (fun w' hs => ldA_run (cs := (cS_api_Prefix a0)) ha rfl (by kernel_rfl) (cells_sub (fun j v hv => hs.keep (hE5 j v hv)) (all := (cS_api_Prefix a0)) [] [] (by kernel_rfl))) fun a ha => ?_
 obtain ⟨t14, H14, H⟩ := bind_some H
 refine qc (.bool t14) ha (by rfl) (by kernel_rfl) (by rfl) (by rfl) (by rfl) (fun w' hs => (addr_right.walk w' [] (MS.nil _) a0 k _ H14).mono fun v w'' ⟨hv, hc, _⟩ => ⟨hv, hs.trans hc (Ok.nil _ _)⟩) fun a ha => ?_
 refine qp 0 (.bool t14) ha rfl rfl rfl (by kernel_rfl) fun a ha => ?_
 have ha := ha.sel (env' := [(7, .bool t14), (2, .pointer (some ⟨g3, 0, none⟩)), (3, .pointer (some ⟨g8, 0, none⟩))]) (by kernel_rfl)
 rcases Bool.eq_false_or_eq_true (t14) with hb15 | hb15
 ·have ha := ha.lit hb15
  have H := ite_t hb15 H
  refine qv (v := .agg (cS_api_Addr a1).toArray) ha rfl rfl rfl (fun w' hs => ldA_run (cs := (cS_api_Addr a1)) ha rfl (by kernel_rfl) (cells_sub (fun j v hv => hs.keep (hE10 j v hv)) (all := (cS_api_Addr a1)) [] [] (by kernel_rfl))) fun a ha => ?_
  obtain ⟨t16, H16, H⟩ := bind_some H
  refine qc (.bool t16) ha (by rfl) (by kernel_rfl) (by rfl) (by rfl) (by rfl) (fun w' hs => (addr_Right.walk w' [] (MS.nil _) a1 k _ H16).mono fun v w'' ⟨hv, hc, _⟩ => ⟨hv, hs.trans hc (Ok.nil _ _)⟩) fun a ha => ?_
  refine qp 3 (.bool t16) ha rfl rfl rfl (by kernel_rfl) fun a ha => ?_
  refine qp 0 (.bool t16) ha rfl rfl rfl (by kernel_rfl) fun a ha => ?_
  have ha := ha.sel (env' := [(11, .bool t16), (2, .pointer (some ⟨g3, 0, none⟩)), (3, .pointer (some ⟨g8, 0, none⟩))]) (by kernel_rfl)
  rcases Bool.eq_false_or_eq_true (t16) with hb17 | hb17
  ·have ha := ha.lit hb17
   have H := ite_t hb17 H
   refine qp 0 (.pointer (some ⟨g8, 0, none⟩)) ha rfl rfl rfl (by kernel_rfl) fun a ha => ?_
   refine qv (v := .int .i64 a1.Size) ha rfl rfl rfl (fun w' hs => ld_run ha rfl (by kernel_rfl) (hs.keep (hE10 0 (.int .i64 a1.Size) (by kernel_rfl)))) fun a ha => ?_
   refine qp 0 (.pointer (some ⟨g3, 0, none⟩)) ha rfl rfl rfl (by kernel_rfl) fun a ha => ?_
   refine qp 0 (.pointer (some ⟨g3, 0, none⟩)) ha rfl rfl rfl (by kernel_rfl) fun a ha => ?_
   refine qv (v := .int .i64 a0.Addr.Size) ha rfl rfl rfl (fun w' hs => ld_run ha rfl (by kernel_rfl) (hs.keep (hE5 0 (.int .i64 a0.Addr.Size) (by kernel_rfl)))) fun a ha => ?_
   refine qp 0 (.bool (a1.Size == a0.Addr.Size)) ha rfl rfl rfl (by kernel_rfl) fun a ha => ?_
   refine qp 3 (.bool (a1.Size == a0.Addr.Size)) ha rfl rfl rfl (by kernel_rfl) fun a ha => ?_
   refine qp 0 (.bool (a1.Size == a0.Addr.Size)) ha rfl rfl rfl (by kernel_rfl) fun a ha => ?_
   have ha := ha.sel (env' := [(19, .bool (a1.Size == a0.Addr.Size)), (2, .pointer (some ⟨g3, 0, none⟩)), (3, .pointer (some ⟨g8, 0, none⟩))]) (by kernel_rfl)
   rcases Bool.eq_false_or_eq_true (a1.Size == a0.Addr.Size) with hb18 | hb18
   ·have ha := ha.lit hb18
    have H := ite_t hb18 H
    refine qv (v := .agg (cS_api_Addr a1).toArray) ha rfl rfl rfl (fun w' hs => ldA_run (cs := (cS_api_Addr a1)) ha rfl (by kernel_rfl) (cells_sub (fun j v hv => hs.keep (hE10 j v hv)) (all := (cS_api_Addr a1)) [] [] (by kernel_rfl))) fun a ha => ?_
    refine qp 0 (.pointer (some ⟨g3, 0 + 17, none⟩)) ha rfl rfl rfl (by kernel_rfl) fun a ha => ?_
    refine qv (v := .int .i64 a0.Bits) ha rfl rfl rfl (fun w' hs => ld_run ha rfl (by kernel_rfl) (hs.keep (hE5 17 (.int .i64 a0.Bits) (by kernel_rfl)))) fun a ha => ?_
    obtain ⟨t19, H19, H⟩ := bind_some H
    refine qc (.agg (cS_api_Addr t19).toArray) ha (by rfl) (by kernel_rfl) (by rfl) (by rfl) (by rfl) (fun w' hs => (addr_cut.walk w' [] (MS.nil _) a1 a0.Bits k _ H19).mono fun v w'' ⟨hv, hc, _⟩ => ⟨hv, hs.trans hc (Ok.nil _ _)⟩) fun a ha => ?_
    refine qp 0 (.pointer (some ⟨g3, 0, none⟩)) ha rfl rfl rfl (by kernel_rfl) fun a ha => ?_
    refine qv (v := .agg (cS_api_Addr a0.Addr).toArray) ha rfl rfl rfl (fun w' hs => ldA_run (cs := (cS_api_Addr a0.Addr)) ha rfl (by kernel_rfl) (cells_sub (fun j v hv => hs.keep (hE5 j v hv)) (all := (cS_api_Prefix a0)) [] [.int .i64 a0.Bits] (by kernel_rfl))) fun a ha => ?_
    refine qv (v := .bool ((t19.Size == a0.Addr.Size) && ((eqA 16 t19.B a0.Addr.B) && true))) ha rfl rfl rfl (fun w' hs => eqs_run (r := ((t19.Size == a0.Addr.Size) && ((eqA 16 t19.B a0.Addr.B) && true))) (m := 9) ha rfl rfl (by kernel_rfl) rfl (by kernel_rfl) w') fun a ha => ?_
    refine qp 3 (.bool ((t19.Size == a0.Addr.Size) && ((eqA 16 t19.B a0.Addr.B) && true))) ha rfl rfl rfl (by kernel_rfl) fun a ha => ?_
    refine qp 0 (.bool ((t19.Size == a0.Addr.Size) && ((eqA 16 t19.B a0.Addr.B) && true))) ha rfl rfl rfl (by kernel_rfl) fun a ha => ?_
    refine wpQuiet_nil ?_
    intro w20 hc21
    have o1 : Ok [] (M) w7.heap.size := Ok.nil _ _
    have o2 : Ok (M) (M) w7.heap.size := (Ok.refl _ _)
    have q_hn6 : g3 ∉ M := fun h => (o2 g3 h).elim hn6 (fun h => absurd (lt_cell (hE5 0 _ rfl)) (Nat.not_lt.2 h))
    have hE5 : ∀ j v, (cS_api_Prefix a0)[j]? = some v → w20.cell? ⟨g3, 0 + j, none⟩ = some v := fun j v hv => (cell_keep hc21 o1 hn6 (hE5 j v hv))
    have hn6 := q_hn6
    have q_hn11 : g8 ∉ M := fun h => (o2 g8 h).elim hn11 (fun h => absurd (lt_cell (hE10 0 _ rfl)) (Nat.not_lt.2 h))
    have hE10 : ∀ j v, (cS_api_Addr a1)[j]? = some v → w20.cell? ⟨g8, 0 + j, none⟩ = some v := fun j v hv => (cell_keep hc21 o1 hn11 (hE10 j v hv))
    have hn11 := q_hn11
    have hM : MS (M) w20 := (hM.chg hc21)
    have hC := hC.trans hc21 (Ok.nil _ _)
    refine wpl_end ?_
    obtain rfl := Option.some.inj H
    exact J13 _ _ (ha.sel (by kernel_rfl)) hC hM
   ·have ha := ha.lit hb18
    have H := ite_f hb18 H
    refine qo ha rfl rfl rfl fun a ha => ?_
    refine qo ha rfl rfl rfl fun a ha => ?_
    refine qo ha rfl rfl rfl fun a ha => ?_
    refine qo ha rfl rfl rfl fun a ha => ?_
    refine qo ha rfl rfl rfl fun a ha => ?_
    refine qo ha rfl rfl rfl fun a ha => ?_
    refine qo ha rfl rfl rfl fun a ha => ?_
    refine qp 4 (.bool false) ha rfl rfl rfl (by kernel_rfl) fun a ha => ?_
    refine qp 0 (.bool false) ha rfl rfl rfl (by kernel_rfl) fun a ha => ?_
    refine wpQuiet_nil ?_
    intro w22 hc23
    have o1 : Ok [] (M) w7.heap.size := Ok.nil _ _
    have o2 : Ok (M) (M) w7.heap.size := (Ok.refl _ _)
    have q_hn6 : g3 ∉ M := fun h => (o2 g3 h).elim hn6 (fun h => absurd (lt_cell (hE5 0 _ rfl)) (Nat.not_lt.2 h))
    have hE5 : ∀ j v, (cS_api_Prefix a0)[j]? = some v → w22.cell? ⟨g3, 0 + j, none⟩ = some v := fun j v hv => (cell_keep hc23 o1 hn6 (hE5 j v hv))
    have hn6 := q_hn6
    have q_hn11 : g8 ∉ M := fun h => (o2 g8 h).elim hn11 (fun h => absurd (lt_cell (hE10 0 _ rfl)) (Nat.not_lt.2 h))
    have hE10 : ∀ j v, (cS_api_Addr a1)[j]? = some v → w22.cell? ⟨g8, 0 + j, none⟩ = some v := fun j v hv => (cell_keep hc23 o1 hn11 (hE10 j v hv))
    have hn11 := q_hn11
    have hM : MS (M) w22 := (hM.chg hc23)
    have hC := hC.trans hc23 (Ok.nil _ _)
    refine wpl_end ?_
    obtain rfl := Option.some.inj H
    exact J13 _ _ (ha.sel (by kernel_rfl)) hC hM
  ·have ha := ha.lit hb17
   have H := ite_f hb17 H
   refine qo ha rfl rfl rfl fun a ha => ?_
   refine qo ha rfl rfl rfl fun a ha => ?_
   refine qo ha rfl rfl rfl fun a ha => ?_
   refine qo ha rfl rfl rfl fun a ha => ?_
   refine qo ha rfl rfl rfl fun a ha => ?_
   refine qo ha rfl rfl rfl fun a ha => ?_
   refine qp 4 (.bool false) ha rfl rfl rfl (by kernel_rfl) fun a ha => ?_
   refine qp 0 (.bool false) ha rfl rfl rfl (by kernel_rfl) fun a ha => ?_
   refine qo ha rfl rfl rfl fun a ha => ?_
   refine qo ha rfl rfl rfl fun a ha => ?_
   refine qo ha rfl rfl rfl fun a ha => ?_
   refine qo ha rfl rfl rfl fun a ha => ?_
   refine qo ha rfl rfl rfl fun a ha => ?_
   refine qo ha rfl rfl rfl fun a ha => ?_
   refine qo ha rfl rfl rfl fun a ha => ?_
   refine qp 4 (.bool false) ha rfl rfl rfl (by kernel_rfl) fun a ha => ?_
   refine qp 0 (.bool false) ha rfl rfl rfl (by kernel_rfl) fun a ha => ?_
   refine wpQuiet_nil ?_
   intro w24 hc25
   have o1 : Ok [] (M) w7.heap.size := Ok.nil _ _
   have o2 : Ok (M) (M) w7.heap.size := (Ok.refl _ _)
   have q_hn6 : g3 ∉ M := fun h => (o2 g3 h).elim hn6 (fun h => absurd (lt_cell (hE5 0 _ rfl)) (Nat.not_lt.2 h))
   have hE5 : ∀ j v, (cS_api_Prefix a0)[j]? = some v → w24.cell? ⟨g3, 0 + j, none⟩ = some v := fun j v hv => (cell_keep hc25 o1 hn6 (hE5 j v hv))
   have hn6 := q_hn6
   have q_hn11 : g8 ∉ M := fun h => (o2 g8 h).elim hn11 (fun h => absurd (lt_cell (hE10 0 _ rfl)) (Nat.not_lt.2 h))
   have hE10 : ∀ j v, (cS_api_Addr a1)[j]? = some v → w24.cell? ⟨g8, 0 + j, none⟩ = some v := fun j v hv => (cell_keep hc25 o1 hn11 (hE10 j v hv))
   have hn11 := q_hn11
   have hM : MS (M) w24 := (hM.chg hc25)
   have hC := hC.trans hc25 (Ok.nil _ _)
   refine wpl_end ?_
   obtain rfl := Option.some.inj H
   exact J13 _ _ (ha.sel (by kernel_rfl)) hC hM
 ·have ha := ha.lit hb15
  have H := ite_f hb15 H
  refine qo ha rfl rfl rfl fun a ha => ?_
  refine qo ha rfl rfl rfl fun a ha => ?_
  refine qp 4 (.bool false) ha rfl rfl rfl (by kernel_rfl) fun a ha => ?_
  refine qp 0 (.bool false) ha rfl rfl rfl (by kernel_rfl) fun a ha => ?_
  refine qo ha rfl rfl rfl fun a ha => ?_
  refine qo ha rfl rfl rfl fun a ha => ?_
  refine qo ha rfl rfl rfl fun a ha => ?_
  refine qo ha rfl rfl rfl fun a ha => ?_
  refine qo ha rfl rfl rfl fun a ha => ?_
  refine qo ha rfl rfl rfl fun a ha => ?_
  refine qp 4 (.bool false) ha rfl rfl rfl (by kernel_rfl) fun a ha => ?_
  refine qp 0 (.bool false) ha rfl rfl rfl (by kernel_rfl) fun a ha => ?_
  refine qo ha rfl rfl rfl fun a ha => ?_
  refine qo ha rfl rfl rfl fun a ha => ?_
  refine qo ha rfl rfl rfl fun a ha => ?_
  refine qo ha rfl rfl rfl fun a ha => ?_
  refine qo ha rfl rfl rfl fun a ha => ?_
  refine qo ha rfl rfl rfl fun a ha => ?_
  refine qo ha rfl rfl rfl fun a ha => ?_
  refine qp 4 (.bool false) ha rfl rfl rfl (by kernel_rfl) fun a ha => ?_
  refine qp 0 (.bool false) ha rfl rfl rfl (by kernel_rfl) fun a ha => ?_
  refine wpQuiet_nil ?_
  intro w26 hc27
  have o1 : Ok [] (M) w7.heap.size := Ok.nil _ _
  have o2 : Ok (M) (M) w7.heap.size := (Ok.refl _ _)
  have q_hn6 : g3 ∉ M := fun h => (o2 g3 h).elim hn6 (fun h => absurd (lt_cell (hE5 0 _ rfl)) (Nat.not_lt.2 h))
  have hE5 : ∀ j v, (cS_api_Prefix a0)[j]? = some v → w26.cell? ⟨g3, 0 + j, none⟩ = some v := fun j v hv => (cell_keep hc27 o1 hn6 (hE5 j v hv))
  have hn6 := q_hn6
  have q_hn11 : g8 ∉ M := fun h => (o2 g8 h).elim hn11 (fun h => absurd (lt_cell (hE10 0 _ rfl)) (Nat.not_lt.2 h))
  have hE10 : ∀ j v, (cS_api_Addr a1)[j]? = some v → w26.cell? ⟨g8, 0 + j, none⟩ = some v := fun j v hv => (cell_keep hc27 o1 hn11 (hE10 j v hv))
  have hn11 := q_hn11
  have hM : MS (M) w26 := (hM.chg hc27)
  have hC := hC.trans hc27 (Ok.nil _ _)
  refine wpl_end ?_
  obtain rfl := Option.some.inj H
  exact J13 _ _ (ha.sel (by kernel_rfl)) hC hM
def vinerylaw02_small.f (k : Nat) : Option (Bool) := (addr_Parse.f k ([49, 57, 50, 46, 48, 46, 50, 46, 49] : List UInt8)).bind fun t3 => (addr_Parse.f k ([50, 48, 48, 49, 58, 100, 98, 56, 58, 58] : List UInt8)).bind fun t11 => (addr_Parse.f k ([48, 49, 46, 50, 46, 51, 46, 52] : List UInt8)).bind fun t19 => (addr_Cut.f k t3.1 (8 : Int)).bind fun t27 => ((if (t3.2 == (0 : Int)) = true then (if ((t3.1.Size == (4 : Int)) && ((eqA 16 t3.1.B ([(192 : Int), (0 : Int), (2 : Int), (1 : Int), (0 : Int), (0 : Int), (0 : Int), (0 : Int), (0 : Int), (0 : Int), (0 : Int), (0 : Int), (0 : Int), (0 : Int), (0 : Int), (0 : Int)] : List Int)) && true)) = true then (addr_Text.f k t3.1).bind fun t38 => (if ((bstr t38).toList == (bstr ([49, 57, 50, 46, 48, 46, 50, 46, 49] : List UInt8)).toList) = true then (if (t11.2 == (0 : Int)) = true then (addr_Text.f k t11.1).bind fun t41 => (if ((bstr t41).toList == (bstr ([50, 48, 48, 49, 58, 100, 98, 56, 58, 58] : List UInt8)).toList) = true then (if (t19.2 == (4 : Int)) = true then (if (t27.2 == (0 : Int)) = true then (addr_PrefixText.f k t27.1).bind fun t45 => (if ((bstr t45).toList == (bstr ([49, 57, 50, 46, 48, 46, 48, 46, 48, 47, 56] : List UInt8)).toList) = true then (addr_Has.f k t27.1 t3.1).bind fun t47 => some (t47 : Bool) else some (false : Bool)) else some (false : Bool)) else some (false : Bool)) else some (false : Bool)) else some (false : Bool)) else some (false : Bool)) else some (false : Bool)) else some (false : Bool))).bind fun s35 => some ((s35 : Bool))
set_option maxRecDepth 100000 in
theorem vinerylaw02_small.walk (w : World) (M : List Nat) (hM : MS M w) (hG : GF w M)  (k : Nat) (r : Bool) (H : vinerylaw02_small.f k = some r) :
    To Tryd.prog 11 [] w fun v w' => v = .bool r ∧ Chg [] w w' ∧ MS (M) w' := by
 unfold vinerylaw02_small.f at H
 refine ent Tryd.func11 rfl [] rfl (by rfl) fun a ha => ?_
 have hC : Chg [] w w := Chg.refl _ _
 refine wp_seq_k fun K1 hK1 => ?_
 refine wp_region_lit ?_
 refine seg ha 1 [] (by kernel_rfl) fun a ha => ?_
 refine hK1 _ _ ?_; try clear hK1 K1
 refine wp_seq_k fun K2 hK2 => ?_
 refine wp_region_lit ?_
 obtain ⟨t3, H3, H⟩ := bind_some H
 refine cl ha (by rfl) (by kernel_rfl) (by rfl) (by rfl) (by rfl) (addr_Parse.walk w _ hM hG ([49, 57, 50, 46, 48, 46, 50, 46, 49] : List UInt8) k _ H3) ?_
 rintro _ w3 ⟨rfl, hc3, hMn⟩ a ha
 have o1 : Ok [] (M) w.heap.size := Ok.nil _ _
 have o2 : Ok (M) (M) w.heap.size := (Ok.refl _ _)
 have hG := hG.chg hc3 o1 o2
 have hM : MS (M) w3 := (hM.chg hc3)
 have hC := hC.trans hc3 (Ok.nil _ _)
 refine seg ha 3 [(11, .agg (cS_api_Addr t3.1).toArray), (12, .int .i64 t3.2)] (by kernel_rfl) fun a ha => ?_
 refine al (cs := (cS_api_Addr (⟨(0 : Int), (List.replicate 16 (0 : Int))⟩ : S_api_Addr))) (z := .agg (cS_api_Addr (⟨(0 : Int), (List.replicate 16 (0 : Int))⟩ : S_api_Addr)).toArray) ha (fun w => by kernel_rfl) rfl rfl rfl rfl fun a w4 g5 hN6 ha => ?_
 have o1 : Ok [] (M) w3.heap.size := Ok.nil _ _
 have o2 : Ok ([g5] ++ (M)) (M) w3.heap.size := (Ok.app (hN6.ok _) (Ok.refl _ _))
 have hG := hG.chg hN6.chg o1 o2
 have p_i7_M : ∀ x ∈ [g5], x ∉ M := fun x hx hy => absurd (hM x (hy)) (Nat.not_lt.2 ((hN6.ge1) x hx))
 have e_i7 : ∀ x ∈ [g5], w.heap.size ≤ x := fun x hx => Nat.le_trans hC.size ((hN6.ge1) x hx)
 have hM : MS ([g5] ++ (M)) w4 := (MS.app hN6.ms (hM.chg hN6.chg))
 have hC := hC.trans hN6.chg (Ok.nil _ _)
 have hBg5 : Box w4 g5 (cS_api_Addr (⟨(0 : Int), (List.replicate 16 (0 : Int))⟩ : S_api_Addr)) := hN6.box
 refine stA (l := (cS_api_Addr t3.1)) ha rfl rfl rfl (by kernel_rfl) rfl rfl hBg5 rfl fun a w8 ha hb2 hc9 _ => ?_
 have o1 : Ok [g5] ([g5] ++ (M)) w4.heap.size := (fun _ h => .inl (ml h))
 have o2 : Ok ([g5] ++ (M)) ([g5] ++ (M)) w4.heap.size := (Ok.refl _ _)
 have hG := hG.chg hc9 o1 o2
 have hM : MS ([g5] ++ (M)) w8 := (hM.chg hc9)
 have hC := hC.trans hc9 (fun x h => .inr (e_i7 x h))
 have hBg5 : Box w8 g5 (cS_api_Addr t3.1) := hb2
 refine seg ha 1 [(1, .pointer (some ⟨g5, 0, none⟩)), (2, .int .i64 t3.2)] (by kernel_rfl) fun a ha => ?_
 refine hK2 _ _ ?_; try clear hK2 K2
 refine wp_seq_k fun K10 hK10 => ?_
 refine wp_region_lit ?_
 obtain ⟨t11, H11, H⟩ := bind_some H
 refine cl ha (by rfl) (by kernel_rfl) (by rfl) (by rfl) (by rfl) (addr_Parse.walk w8 _ hM hG ([50, 48, 48, 49, 58, 100, 98, 56, 58, 58] : List UInt8) k _ H11) ?_
 rintro _ w11 ⟨rfl, hc11, hMn⟩ a ha
 have o1 : Ok [] ([g5] ++ (M)) w8.heap.size := Ok.nil _ _
 have o2 : Ok ([g5] ++ (M)) ([g5] ++ (M)) w8.heap.size := (Ok.refl _ _)
 have hG := hG.chg hc11 o1 o2
 have hBg5 := hBg5.chg hc11 (fun h => nomatch h)
 have hM : MS ([g5] ++ (M)) w11 := (hM.chg hc11)
 have hC := hC.trans hc11 (Ok.nil _ _)
 refine seg ha 3 [(1, .pointer (some ⟨g5, 0, none⟩)), (2, .int .i64 t3.2), (15, .agg (cS_api_Addr t11.1).toArray), (16, .int .i64 t11.2)] (by kernel_rfl) fun a ha => ?_
 refine al (cs := (cS_api_Addr (⟨(0 : Int), (List.replicate 16 (0 : Int))⟩ : S_api_Addr))) (z := .agg (cS_api_Addr (⟨(0 : Int), (List.replicate 16 (0 : Int))⟩ : S_api_Addr)).toArray) ha (fun w => by kernel_rfl) rfl rfl rfl rfl fun a w12 g13 hN14 ha => ?_
 have o1 : Ok [] ([g5] ++ (M)) w11.heap.size := Ok.nil _ _
 have o2 : Ok ([g13] ++ ([g5] ++ (M))) ([g5] ++ (M)) w11.heap.size := (Ok.app (hN14.ok _) (Ok.refl _ _))
 have hG := hG.chg hN14.chg o1 o2
 have hBg5 := hBg5.chg hN14.chg (fun h => nomatch h)
 have p_i15_i7 : ∀ x ∈ [g13], x ∉ ([g5]) := fun x hx hy => absurd (hM x (ml hy)) (Nat.not_lt.2 ((hN14.ge1) x hx))
 have p_i15_M : ∀ x ∈ [g13], x ∉ M := fun x hx hy => absurd (hM x (mr (hy))) (Nat.not_lt.2 ((hN14.ge1) x hx))
 have e_i15 : ∀ x ∈ [g13], w.heap.size ≤ x := fun x hx => Nat.le_trans hC.size ((hN14.ge1) x hx)
 have hM : MS ([g13] ++ ([g5] ++ (M))) w12 := (MS.app hN14.ms (hM.chg hN14.chg))
 have hC := hC.trans hN14.chg (Ok.nil _ _)
 have hBg13 : Box w12 g13 (cS_api_Addr (⟨(0 : Int), (List.replicate 16 (0 : Int))⟩ : S_api_Addr)) := hN14.box
 refine stA (l := (cS_api_Addr t11.1)) ha rfl rfl rfl (by kernel_rfl) rfl rfl hBg13 rfl fun a w16 ha hb2 hc17 _ => ?_
 have o1 : Ok [g13] ([g13] ++ ([g5] ++ (M))) w12.heap.size := (fun _ h => .inl (ml h))
 have o2 : Ok ([g13] ++ ([g5] ++ (M))) ([g13] ++ ([g5] ++ (M))) w12.heap.size := (Ok.refl _ _)
 have hG := hG.chg hc17 o1 o2
 have hBg5 := hBg5.chg hc17 ((fun x (hx : x ∈ [g5]) (hy : x ∈ [g13]) => p_i15_i7 x hy hx) g5 (by simp))
 have hM : MS ([g13] ++ ([g5] ++ (M))) w16 := (hM.chg hc17)
 have hC := hC.trans hc17 (fun x h => .inr (e_i15 x h))
 have hBg13 : Box w16 g13 (cS_api_Addr t11.1) := hb2
 refine seg ha 1 [(1, .pointer (some ⟨g5, 0, none⟩)), (2, .int .i64 t3.2), (3, .pointer (some ⟨g13, 0, none⟩)), (4, .int .i64 t11.2)] (by kernel_rfl) fun a ha => ?_
 refine hK10 _ _ ?_; try clear hK10 K10
 refine wp_seq_k fun K18 hK18 => ?_
 refine wp_region_lit ?_
 obtain ⟨t19, H19, H⟩ := bind_some H
 refine cl ha (by rfl) (by kernel_rfl) (by rfl) (by rfl) (by rfl) (addr_Parse.walk w16 _ hM hG ([48, 49, 46, 50, 46, 51, 46, 52] : List UInt8) k _ H19) ?_
 rintro _ w19 ⟨rfl, hc19, hMn⟩ a ha
 have o1 : Ok [] ([g13] ++ ([g5] ++ (M))) w16.heap.size := Ok.nil _ _
 have o2 : Ok ([g13] ++ ([g5] ++ (M))) ([g13] ++ ([g5] ++ (M))) w16.heap.size := (Ok.refl _ _)
 have hG := hG.chg hc19 o1 o2
 have hBg5 := hBg5.chg hc19 (fun h => nomatch h)
 have hBg13 := hBg13.chg hc19 (fun h => nomatch h)
 have hM : MS ([g13] ++ ([g5] ++ (M))) w19 := (hM.chg hc19)
 have hC := hC.trans hc19 (Ok.nil _ _)
 refine seg ha 3 [(1, .pointer (some ⟨g5, 0, none⟩)), (2, .int .i64 t3.2), (3, .pointer (some ⟨g13, 0, none⟩)), (4, .int .i64 t11.2), (19, .agg (cS_api_Addr t19.1).toArray), (20, .int .i64 t19.2)] (by kernel_rfl) fun a ha => ?_
 refine al (cs := (cS_api_Addr (⟨(0 : Int), (List.replicate 16 (0 : Int))⟩ : S_api_Addr))) (z := .agg (cS_api_Addr (⟨(0 : Int), (List.replicate 16 (0 : Int))⟩ : S_api_Addr)).toArray) ha (fun w => by kernel_rfl) rfl rfl rfl rfl fun a w20 g21 hN22 ha => ?_
 have o1 : Ok [] ([g13] ++ ([g5] ++ (M))) w19.heap.size := Ok.nil _ _
 have o2 : Ok ([g21] ++ ([g13] ++ ([g5] ++ (M)))) ([g13] ++ ([g5] ++ (M))) w19.heap.size := (Ok.app (hN22.ok _) (Ok.refl _ _))
 have hG := hG.chg hN22.chg o1 o2
 have hBg5 := hBg5.chg hN22.chg (fun h => nomatch h)
 have hBg13 := hBg13.chg hN22.chg (fun h => nomatch h)
 have p_i23_i15 : ∀ x ∈ [g21], x ∉ ([g13]) := fun x hx hy => absurd (hM x (ml hy)) (Nat.not_lt.2 ((hN22.ge1) x hx))
 have p_i23_i7 : ∀ x ∈ [g21], x ∉ ([g5]) := fun x hx hy => absurd (hM x (mr (ml hy))) (Nat.not_lt.2 ((hN22.ge1) x hx))
 have p_i23_M : ∀ x ∈ [g21], x ∉ M := fun x hx hy => absurd (hM x (mr (mr (hy)))) (Nat.not_lt.2 ((hN22.ge1) x hx))
 have e_i23 : ∀ x ∈ [g21], w.heap.size ≤ x := fun x hx => Nat.le_trans hC.size ((hN22.ge1) x hx)
 have hM : MS ([g21] ++ ([g13] ++ ([g5] ++ (M)))) w20 := (MS.app hN22.ms (hM.chg hN22.chg))
 have hC := hC.trans hN22.chg (Ok.nil _ _)
 have hBg21 : Box w20 g21 (cS_api_Addr (⟨(0 : Int), (List.replicate 16 (0 : Int))⟩ : S_api_Addr)) := hN22.box
 refine stA (l := (cS_api_Addr t19.1)) ha rfl rfl rfl (by kernel_rfl) rfl rfl hBg21 rfl fun a w24 ha hb2 hc25 _ => ?_
 have o1 : Ok [g21] ([g21] ++ ([g13] ++ ([g5] ++ (M)))) w20.heap.size := (fun _ h => .inl (ml h))
 have o2 : Ok ([g21] ++ ([g13] ++ ([g5] ++ (M)))) ([g21] ++ ([g13] ++ ([g5] ++ (M)))) w20.heap.size := (Ok.refl _ _)
 have hG := hG.chg hc25 o1 o2
 have hBg5 := hBg5.chg hc25 ((fun x (hx : x ∈ [g5]) (hy : x ∈ [g21]) => p_i23_i7 x hy hx) g5 (by simp))
 have hBg13 := hBg13.chg hc25 ((fun x (hx : x ∈ [g13]) (hy : x ∈ [g21]) => p_i23_i15 x hy hx) g13 (by simp))
 have hM : MS ([g21] ++ ([g13] ++ ([g5] ++ (M)))) w24 := (hM.chg hc25)
 have hC := hC.trans hc25 (fun x h => .inr (e_i23 x h))
 have hBg21 : Box w24 g21 (cS_api_Addr t19.1) := hb2
 refine seg ha 1 [(1, .pointer (some ⟨g5, 0, none⟩)), (2, .int .i64 t3.2), (3, .pointer (some ⟨g13, 0, none⟩)), (4, .int .i64 t11.2), (6, .int .i64 t19.2)] (by kernel_rfl) fun a ha => ?_
 refine hK18 _ _ ?_; try clear hK18 K18
 refine wp_seq_k fun K26 hK26 => ?_
 refine wp_region_lit ?_
 refine ldA (cs := (cS_api_Addr t3.1)) ha rfl (by kernel_rfl) rfl rfl rfl (cells_sub (Box.cells hBg5) (all := (cS_api_Addr t3.1)) [] [] (by kernel_rfl)) fun a ha => ?_
 obtain ⟨t27, H27, H⟩ := bind_some H
 refine cl ha (by rfl) (by kernel_rfl) (by rfl) (by rfl) (by rfl) (addr_Cut.walk w24 _ hM t3.1 (8 : Int) k _ H27) ?_
 rintro _ w27 ⟨rfl, hc27, hMn⟩ a ha
 have o1 : Ok [] ([g21] ++ ([g13] ++ ([g5] ++ (M)))) w24.heap.size := Ok.nil _ _
 have o2 : Ok ([g21] ++ ([g13] ++ ([g5] ++ (M)))) ([g21] ++ ([g13] ++ ([g5] ++ (M)))) w24.heap.size := (Ok.refl _ _)
 have hG := hG.chg hc27 o1 o2
 have hBg5 := hBg5.chg hc27 (fun h => nomatch h)
 have hBg13 := hBg13.chg hc27 (fun h => nomatch h)
 have hBg21 := hBg21.chg hc27 (fun h => nomatch h)
 have hM : MS ([g21] ++ ([g13] ++ ([g5] ++ (M)))) w27 := (hM.chg hc27)
 have hC := hC.trans hc27 (Ok.nil _ _)
 refine seg ha 3 [(1, .pointer (some ⟨g5, 0, none⟩)), (2, .int .i64 t3.2), (3, .pointer (some ⟨g13, 0, none⟩)), (4, .int .i64 t11.2), (6, .int .i64 t19.2), (24, .agg (cS_api_Prefix t27.1).toArray), (25, .int .i64 t27.2)] (by kernel_rfl) fun a ha => ?_
 refine al (cs := (cS_api_Prefix (⟨(⟨(0 : Int), (List.replicate 16 (0 : Int))⟩ : S_api_Addr), (0 : Int)⟩ : S_api_Prefix))) (z := .agg (cS_api_Prefix (⟨(⟨(0 : Int), (List.replicate 16 (0 : Int))⟩ : S_api_Addr), (0 : Int)⟩ : S_api_Prefix)).toArray) ha (fun w => by kernel_rfl) rfl rfl rfl rfl fun a w28 g29 hN30 ha => ?_
 have o1 : Ok [] ([g21] ++ ([g13] ++ ([g5] ++ (M)))) w27.heap.size := Ok.nil _ _
 have o2 : Ok ([g29] ++ ([g21] ++ ([g13] ++ ([g5] ++ (M))))) ([g21] ++ ([g13] ++ ([g5] ++ (M)))) w27.heap.size := (Ok.app (hN30.ok _) (Ok.refl _ _))
 have hG := hG.chg hN30.chg o1 o2
 have hBg5 := hBg5.chg hN30.chg (fun h => nomatch h)
 have hBg13 := hBg13.chg hN30.chg (fun h => nomatch h)
 have hBg21 := hBg21.chg hN30.chg (fun h => nomatch h)
 have p_i31_i23 : ∀ x ∈ [g29], x ∉ ([g21]) := fun x hx hy => absurd (hM x (ml hy)) (Nat.not_lt.2 ((hN30.ge1) x hx))
 have p_i31_i15 : ∀ x ∈ [g29], x ∉ ([g13]) := fun x hx hy => absurd (hM x (mr (ml hy))) (Nat.not_lt.2 ((hN30.ge1) x hx))
 have p_i31_i7 : ∀ x ∈ [g29], x ∉ ([g5]) := fun x hx hy => absurd (hM x (mr (mr (ml hy)))) (Nat.not_lt.2 ((hN30.ge1) x hx))
 have p_i31_M : ∀ x ∈ [g29], x ∉ M := fun x hx hy => absurd (hM x (mr (mr (mr (hy))))) (Nat.not_lt.2 ((hN30.ge1) x hx))
 have e_i31 : ∀ x ∈ [g29], w.heap.size ≤ x := fun x hx => Nat.le_trans hC.size ((hN30.ge1) x hx)
 have hM : MS ([g29] ++ ([g21] ++ ([g13] ++ ([g5] ++ (M))))) w28 := (MS.app hN30.ms (hM.chg hN30.chg))
 have hC := hC.trans hN30.chg (Ok.nil _ _)
 have hBg29 : Box w28 g29 (cS_api_Prefix (⟨(⟨(0 : Int), (List.replicate 16 (0 : Int))⟩ : S_api_Addr), (0 : Int)⟩ : S_api_Prefix)) := hN30.box
 refine stA (l := (cS_api_Prefix t27.1)) ha rfl rfl rfl (by kernel_rfl) rfl rfl hBg29 rfl fun a w32 ha hb2 hc33 _ => ?_
 have o1 : Ok [g29] ([g29] ++ ([g21] ++ ([g13] ++ ([g5] ++ (M))))) w28.heap.size := (fun _ h => .inl (ml h))
 have o2 : Ok ([g29] ++ ([g21] ++ ([g13] ++ ([g5] ++ (M))))) ([g29] ++ ([g21] ++ ([g13] ++ ([g5] ++ (M))))) w28.heap.size := (Ok.refl _ _)
 have hG := hG.chg hc33 o1 o2
 have hBg5 := hBg5.chg hc33 ((fun x (hx : x ∈ [g5]) (hy : x ∈ [g29]) => p_i31_i7 x hy hx) g5 (by simp))
 have hBg13 := hBg13.chg hc33 ((fun x (hx : x ∈ [g13]) (hy : x ∈ [g29]) => p_i31_i15 x hy hx) g13 (by simp))
 have hBg21 := hBg21.chg hc33 ((fun x (hx : x ∈ [g21]) (hy : x ∈ [g29]) => p_i31_i23 x hy hx) g21 (by simp))
 have hM : MS ([g29] ++ ([g21] ++ ([g13] ++ ([g5] ++ (M))))) w32 := (hM.chg hc33)
 have hC := hC.trans hc33 (fun x h => .inr (e_i31 x h))
 have hBg29 : Box w32 g29 (cS_api_Prefix t27.1) := hb2
 refine seg ha 1 [(1, .pointer (some ⟨g5, 0, none⟩)), (2, .int .i64 t3.2), (3, .pointer (some ⟨g13, 0, none⟩)), (4, .int .i64 t11.2), (6, .int .i64 t19.2), (7, .pointer (some ⟨g29, 0, none⟩)), (8, .int .i64 t27.2)] (by kernel_rfl) fun a ha => ?_
 refine hK26 _ _ ?_; try clear hK26 K26
 refine wp_seq_k fun K34 hK34 => ?_
 refine wp_region_lit ?_
 obtain ⟨s35, H35, H⟩ := bind_some H
 have J35 : ∀ (a : Act) (w35 : World), Has a Tryd.f11.ntmps [(0, .bool s35)] → (Box w35 g5 (cS_api_Addr t3.1)) → (Box w35 g13 (cS_api_Addr t11.1)) → (Box w35 g21 (cS_api_Addr t19.1)) → (Box w35 g29 (cS_api_Prefix t27.1)) → (GF w35 ([g29] ++ ([g21] ++ ([g13] ++ ([g5] ++ (M)))))) → (Chg [] w w35) → (MS ([g29] ++ ([g21] ++ ([g13] ++ ([g5] ++ (M))))) w35) → K34 a w35 := by
  intro a w35 ha hBg5 hBg13 hBg21 hBg29 hG hC hM
  refine hK34 _ _ ?_; try clear hK34 K34
  refine wp_ret ?_
  try simp only [Exit.then, Exit.inBlock]
  have o1 : Ok [] ([g29] ++ ([g21] ++ ([g13] ++ ([g5] ++ (M))))) w35.heap.size := Ok.nil _ _
  have o2 : Ok (M) ([g29] ++ ([g21] ++ ([g13] ++ ([g5] ++ (M))))) w35.heap.size := (fun _ h => .inl (mr (mr (mr (mr (h))))))
  have hG := hG.chg (Chg.refl [] _) o1 o2
  have hBg5 := hBg5.chg (Chg.refl [] _) (fun h => nomatch h)
  have hBg13 := hBg13.chg (Chg.refl [] _) (fun h => nomatch h)
  have hBg21 := hBg21.chg (Chg.refl [] _) (fun h => nomatch h)
  have hBg29 := hBg29.chg (Chg.refl [] _) (fun h => nomatch h)
  have hM : MS (M) w35 := (fun x h => hM.chg (Chg.refl [] _) x (mr (mr (mr (mr (h))))))
  have hC := hC.trans (Chg.refl [] _) (Ok.nil _ _)
  obtain rfl := Option.some.inj H
  refine rt1 ha rfl rfl ?_
  exact ⟨rfl, hC, hM⟩
 have H := H35
 refine seg ha 3 [(28, .bool (t3.2 == (0 : Int))), (1, .pointer (some ⟨g5, 0, none⟩)), (3, .pointer (some ⟨g13, 0, none⟩)), (4, .int .i64 t11.2), (6, .int .i64 t19.2), (7, .pointer (some ⟨g29, 0, none⟩)), (8, .int .i64 t27.2)] (by kernel_rfl) fun a ha => ?_
 rcases Bool.eq_false_or_eq_true (t3.2 == (0 : Int)) with hb36 | hb36
 ·have ha := ha.lit hb36
  have H := ite_t hb36 H
  refine ldA (cs := (cS_api_Addr t3.1)) ha rfl (by kernel_rfl) rfl rfl rfl (cells_sub (Box.cells hBg5) (all := (cS_api_Addr t3.1)) [] [] (by kernel_rfl)) fun a ha => ?_
  refine opk (v := .agg (cA .u8 16 ([(192 : Int), (0 : Int), (2 : Int), (1 : Int), (0 : Int), (0 : Int), (0 : Int), (0 : Int), (0 : Int), (0 : Int), (0 : Int), (0 : Int), (0 : Int), (0 : Int), (0 : Int), (0 : Int)] : List Int)).toArray) ha rfl rfl rfl rfl rfl (fun w => by kernel_rfl) fun a ha => ?_
  refine opk (v := .agg (cS_api_Addr (⟨(4 : Int), ([(192 : Int), (0 : Int), (2 : Int), (1 : Int), (0 : Int), (0 : Int), (0 : Int), (0 : Int), (0 : Int), (0 : Int), (0 : Int), (0 : Int), (0 : Int), (0 : Int), (0 : Int), (0 : Int)] : List Int)⟩ : S_api_Addr)).toArray) ha rfl rfl rfl rfl rfl (fun w => by kernel_rfl) fun a ha => ?_
  refine hop (v := .bool ((t3.1.Size == (4 : Int)) && ((eqA 16 t3.1.B ([(192 : Int), (0 : Int), (2 : Int), (1 : Int), (0 : Int), (0 : Int), (0 : Int), (0 : Int), (0 : Int), (0 : Int), (0 : Int), (0 : Int), (0 : Int), (0 : Int), (0 : Int), (0 : Int)] : List Int)) && true))) (w' := w32) ha rfl rfl rfl (eqs_run (r := ((t3.1.Size == (4 : Int)) && ((eqA 16 t3.1.B ([(192 : Int), (0 : Int), (2 : Int), (1 : Int), (0 : Int), (0 : Int), (0 : Int), (0 : Int), (0 : Int), (0 : Int), (0 : Int), (0 : Int), (0 : Int), (0 : Int), (0 : Int), (0 : Int)] : List Int)) && true))) (m := 9) ha rfl rfl (by kernel_rfl) rfl (by kernel_rfl) _) fun a ha => ?_
  refine sgh ha 2 [3, 0] [(34, .bool ((t3.1.Size == (4 : Int)) && ((eqA 16 t3.1.B ([(192 : Int), (0 : Int), (2 : Int), (1 : Int), (0 : Int), (0 : Int), (0 : Int), (0 : Int), (0 : Int), (0 : Int), (0 : Int), (0 : Int), (0 : Int), (0 : Int), (0 : Int), (0 : Int)] : List Int)) && true))), (1, .pointer (some ⟨g5, 0, none⟩)), (3, .pointer (some ⟨g13, 0, none⟩)), (4, .int .i64 t11.2), (6, .int .i64 t19.2), (7, .pointer (some ⟨g29, 0, none⟩)), (8, .int .i64 t27.2)] (by kernel_rfl) fun a ha => ?_
  rcases Bool.eq_false_or_eq_true (((t3.1.Size == (4 : Int)) && ((eqA 16 t3.1.B ([(192 : Int), (0 : Int), (2 : Int), (1 : Int), (0 : Int), (0 : Int), (0 : Int), (0 : Int), (0 : Int), (0 : Int), (0 : Int), (0 : Int), (0 : Int), (0 : Int), (0 : Int), (0 : Int)] : List Int)) && true))) with hb37 | hb37
  ·have ha := ha.lit hb37
   have H := ite_t hb37 H
   refine ldA (cs := (cS_api_Addr t3.1)) ha rfl (by kernel_rfl) rfl rfl rfl (cells_sub (Box.cells hBg5) (all := (cS_api_Addr t3.1)) [] [] (by kernel_rfl)) fun a ha => ?_
   obtain ⟨t38, H38, H⟩ := bind_some H
   refine cl ha (by rfl) (by kernel_rfl) (by rfl) (by rfl) (by rfl) (addr_Text.walk w32 _ hM hG t3.1 k _ H38) ?_
   rintro _ w38 ⟨rfl, hc38, hMn⟩ a ha
   have o1 : Ok [] ([g29] ++ ([g21] ++ ([g13] ++ ([g5] ++ (M))))) w32.heap.size := Ok.nil _ _
   have o2 : Ok ([g29] ++ ([g21] ++ ([g13] ++ ([g5] ++ (M))))) ([g29] ++ ([g21] ++ ([g13] ++ ([g5] ++ (M))))) w32.heap.size := (Ok.refl _ _)
   have hG := hG.chg hc38 o1 o2
   have hBg5 := hBg5.chg hc38 (fun h => nomatch h)
   have hBg13 := hBg13.chg hc38 (fun h => nomatch h)
   have hBg21 := hBg21.chg hc38 (fun h => nomatch h)
   have hBg29 := hBg29.chg hc38 (fun h => nomatch h)
   have hM : MS ([g29] ++ ([g21] ++ ([g13] ++ ([g5] ++ (M))))) w38 := (hM.chg hc38)
   have hC := hC.trans hc38 (Ok.nil _ _)
   refine sgh ha 3 [2, 3, 0] [(39, .bool ((bstr t38).toList == (bstr ([49, 57, 50, 46, 48, 46, 50, 46, 49] : List UInt8)).toList)), (1, .pointer (some ⟨g5, 0, none⟩)), (3, .pointer (some ⟨g13, 0, none⟩)), (4, .int .i64 t11.2), (6, .int .i64 t19.2), (7, .pointer (some ⟨g29, 0, none⟩)), (8, .int .i64 t27.2)] (by kernel_rfl) fun a ha => ?_
   rcases Bool.eq_false_or_eq_true ((bstr t38).toList == (bstr ([49, 57, 50, 46, 48, 46, 50, 46, 49] : List UInt8)).toList) with hb39 | hb39
   ·have ha := ha.lit hb39
    have H := ite_t hb39 H
    refine sgh ha 4 [2, 2, 3, 0] [(43, .bool (t11.2 == (0 : Int))), (1, .pointer (some ⟨g5, 0, none⟩)), (3, .pointer (some ⟨g13, 0, none⟩)), (6, .int .i64 t19.2), (7, .pointer (some ⟨g29, 0, none⟩)), (8, .int .i64 t27.2)] (by kernel_rfl) fun a ha => ?_
    rcases Bool.eq_false_or_eq_true (t11.2 == (0 : Int)) with hb40 | hb40
    ·have ha := ha.lit hb40
     have H := ite_t hb40 H
     refine ldA (cs := (cS_api_Addr t11.1)) ha rfl (by kernel_rfl) rfl rfl rfl (cells_sub (Box.cells hBg13) (all := (cS_api_Addr t11.1)) [] [] (by kernel_rfl)) fun a ha => ?_
     obtain ⟨t41, H41, H⟩ := bind_some H
     refine cl ha (by rfl) (by kernel_rfl) (by rfl) (by rfl) (by rfl) (addr_Text.walk w38 _ hM hG t11.1 k _ H41) ?_
     rintro _ w41 ⟨rfl, hc41, hMn⟩ a ha
     have o1 : Ok [] ([g29] ++ ([g21] ++ ([g13] ++ ([g5] ++ (M))))) w38.heap.size := Ok.nil _ _
     have o2 : Ok ([g29] ++ ([g21] ++ ([g13] ++ ([g5] ++ (M))))) ([g29] ++ ([g21] ++ ([g13] ++ ([g5] ++ (M))))) w38.heap.size := (Ok.refl _ _)
     have hG := hG.chg hc41 o1 o2
     have hBg5 := hBg5.chg hc41 (fun h => nomatch h)
     have hBg13 := hBg13.chg hc41 (fun h => nomatch h)
     have hBg21 := hBg21.chg hc41 (fun h => nomatch h)
     have hBg29 := hBg29.chg hc41 (fun h => nomatch h)
     have hM : MS ([g29] ++ ([g21] ++ ([g13] ++ ([g5] ++ (M))))) w41 := (hM.chg hc41)
     have hC := hC.trans hc41 (Ok.nil _ _)
     refine sgh ha 3 [2, 3, 0] [(48, .bool ((bstr t41).toList == (bstr ([50, 48, 48, 49, 58, 100, 98, 56, 58, 58] : List UInt8)).toList)), (1, .pointer (some ⟨g5, 0, none⟩)), (6, .int .i64 t19.2), (7, .pointer (some ⟨g29, 0, none⟩)), (8, .int .i64 t27.2)] (by kernel_rfl) fun a ha => ?_
     rcases Bool.eq_false_or_eq_true ((bstr t41).toList == (bstr ([50, 48, 48, 49, 58, 100, 98, 56, 58, 58] : List UInt8)).toList) with hb42 | hb42
     ·have ha := ha.lit hb42
      have H := ite_t hb42 H
      refine sgh ha 4 [2, 2, 3, 0] [(52, .bool (t19.2 == (4 : Int))), (1, .pointer (some ⟨g5, 0, none⟩)), (7, .pointer (some ⟨g29, 0, none⟩)), (8, .int .i64 t27.2)] (by kernel_rfl) fun a ha => ?_
      rcases Bool.eq_false_or_eq_true (t19.2 == (4 : Int)) with hb43 | hb43
      ·have ha := ha.lit hb43
       have H := ite_t hb43 H
       refine sgh ha 4 [2, 2, 3, 0] [(56, .bool (t27.2 == (0 : Int))), (1, .pointer (some ⟨g5, 0, none⟩)), (7, .pointer (some ⟨g29, 0, none⟩))] (by kernel_rfl) fun a ha => ?_
       rcases Bool.eq_false_or_eq_true (t27.2 == (0 : Int)) with hb44 | hb44
       ·have ha := ha.lit hb44
        have H := ite_t hb44 H
        refine ldA (cs := (cS_api_Prefix t27.1)) ha rfl (by kernel_rfl) rfl rfl rfl (cells_sub (Box.cells hBg29) (all := (cS_api_Prefix t27.1)) [] [] (by kernel_rfl)) fun a ha => ?_
        obtain ⟨t45, H45, H⟩ := bind_some H
        refine cl ha (by rfl) (by kernel_rfl) (by rfl) (by rfl) (by rfl) (addr_PrefixText.walk w41 _ hM hG t27.1 k _ H45) ?_
        rintro _ w45 ⟨rfl, hc45, hMn⟩ a ha
        have o1 : Ok [] ([g29] ++ ([g21] ++ ([g13] ++ ([g5] ++ (M))))) w41.heap.size := Ok.nil _ _
        have o2 : Ok ([g29] ++ ([g21] ++ ([g13] ++ ([g5] ++ (M))))) ([g29] ++ ([g21] ++ ([g13] ++ ([g5] ++ (M))))) w41.heap.size := (Ok.refl _ _)
        have hG := hG.chg hc45 o1 o2
        have hBg5 := hBg5.chg hc45 (fun h => nomatch h)
        have hBg13 := hBg13.chg hc45 (fun h => nomatch h)
        have hBg21 := hBg21.chg hc45 (fun h => nomatch h)
        have hBg29 := hBg29.chg hc45 (fun h => nomatch h)
        have hM : MS ([g29] ++ ([g21] ++ ([g13] ++ ([g5] ++ (M))))) w45 := (hM.chg hc45)
        have hC := hC.trans hc45 (Ok.nil _ _)
        refine sgh ha 3 [2, 3, 0] [(61, .bool ((bstr t45).toList == (bstr ([49, 57, 50, 46, 48, 46, 48, 46, 48, 47, 56] : List UInt8)).toList)), (1, .pointer (some ⟨g5, 0, none⟩)), (7, .pointer (some ⟨g29, 0, none⟩))] (by kernel_rfl) fun a ha => ?_
        rcases Bool.eq_false_or_eq_true ((bstr t45).toList == (bstr ([49, 57, 50, 46, 48, 46, 48, 46, 48, 47, 56] : List UInt8)).toList) with hb46 | hb46
        ·have ha := ha.lit hb46
         have H := ite_t hb46 H
         refine ldA (cs := (cS_api_Prefix t27.1)) ha rfl (by kernel_rfl) rfl rfl rfl (cells_sub (Box.cells hBg29) (all := (cS_api_Prefix t27.1)) [] [] (by kernel_rfl)) fun a ha => ?_
         refine ldA (cs := (cS_api_Addr t3.1)) ha rfl (by kernel_rfl) rfl rfl rfl (cells_sub (Box.cells hBg5) (all := (cS_api_Addr t3.1)) [] [] (by kernel_rfl)) fun a ha => ?_
         obtain ⟨t47, H47, H⟩ := bind_some H
         refine cl ha (by rfl) (by kernel_rfl) (by rfl) (by rfl) (by rfl) (addr_Has.walk w45 _ hM t27.1 t3.1 k _ H47) ?_
         rintro _ w47 ⟨rfl, hc47, hMn⟩ a ha
         have o1 : Ok [] ([g29] ++ ([g21] ++ ([g13] ++ ([g5] ++ (M))))) w45.heap.size := Ok.nil _ _
         have o2 : Ok ([g29] ++ ([g21] ++ ([g13] ++ ([g5] ++ (M))))) ([g29] ++ ([g21] ++ ([g13] ++ ([g5] ++ (M))))) w45.heap.size := (Ok.refl _ _)
         have hG := hG.chg hc47 o1 o2
         have hBg5 := hBg5.chg hc47 (fun h => nomatch h)
         have hBg13 := hBg13.chg hc47 (fun h => nomatch h)
         have hBg21 := hBg21.chg hc47 (fun h => nomatch h)
         have hBg29 := hBg29.chg hc47 (fun h => nomatch h)
         have hM : MS ([g29] ++ ([g21] ++ ([g13] ++ ([g5] ++ (M))))) w47 := (hM.chg hc47)
         have hC := hC.trans hc47 (Ok.nil _ _)
         refine sgh ha 2 [3, 0] [(0, .bool t47)] (by kernel_rfl) fun a ha => ?_
         obtain rfl := Option.some.inj H
         exact J35 _ _ (ha.sel (by kernel_rfl)) hBg5 hBg13 hBg21 hBg29 hG hC hM
        ·have ha := ha.lit hb46
         have H := ite_f hb46 H
         refine sgh ha 5 [1, 1, 1, 4, 0] [(0, .bool false)] (by kernel_rfl) fun a ha => ?_
         obtain rfl := Option.some.inj H
         exact J35 _ _ (ha.sel (by kernel_rfl)) hBg5 hBg13 hBg21 hBg29 hG hC hM
       ·have ha := ha.lit hb44
        have H := ite_f hb44 H
        refine sgh ha 10 [1, 1, 1, 4, 0, 1, 1, 1, 4, 0] [(0, .bool false)] (by kernel_rfl) fun a ha => ?_
        obtain rfl := Option.some.inj H
        exact J35 _ _ (ha.sel (by kernel_rfl)) hBg5 hBg13 hBg21 hBg29 hG hC hM
      ·have ha := ha.lit hb43
       have H := ite_f hb43 H
       refine sgh ha 14 [1, 1, 4, 0, 1, 1, 1, 4, 0, 1, 1, 1, 4, 0] [(0, .bool false)] (by kernel_rfl) fun a ha => ?_
       obtain rfl := Option.some.inj H
       exact J35 _ _ (ha.sel (by kernel_rfl)) hBg5 hBg13 hBg21 hBg29 hG hC hM
     ·have ha := ha.lit hb42
      have H := ite_f hb42 H
      refine sgh ha 18 [1, 1, 4, 0, 1, 1, 4, 0, 1, 1, 1, 4, 0, 1, 1, 1, 4, 0] [(0, .bool false)] (by kernel_rfl) fun a ha => ?_
      obtain rfl := Option.some.inj H
      exact J35 _ _ (ha.sel (by kernel_rfl)) hBg5 hBg13 hBg21 hBg29 hG hC hM
    ·have ha := ha.lit hb40
     have H := ite_f hb40 H
     refine sgh ha 23 [1, 1, 1, 4, 0, 1, 1, 4, 0, 1, 1, 4, 0, 1, 1, 1, 4, 0, 1, 1, 1, 4, 0] [(0, .bool false)] (by kernel_rfl) fun a ha => ?_
     obtain rfl := Option.some.inj H
     exact J35 _ _ (ha.sel (by kernel_rfl)) hBg5 hBg13 hBg21 hBg29 hG hC hM
   ·have ha := ha.lit hb39
    have H := ite_f hb39 H
    refine sgh ha 27 [1, 1, 4, 0, 1, 1, 1, 4, 0, 1, 1, 4, 0, 1, 1, 4, 0, 1, 1, 1, 4, 0, 1, 1, 1, 4, 0] [(0, .bool false)] (by kernel_rfl) fun a ha => ?_
    obtain rfl := Option.some.inj H
    exact J35 _ _ (ha.sel (by kernel_rfl)) hBg5 hBg13 hBg21 hBg29 hG hC hM
  ·have ha := ha.lit hb37
   have H := ite_f hb37 H
   refine sgh ha 32 [1, 1, 1, 4, 0, 1, 1, 4, 0, 1, 1, 1, 4, 0, 1, 1, 4, 0, 1, 1, 4, 0, 1, 1, 1, 4, 0, 1, 1, 1, 4, 0] [(0, .bool false)] (by kernel_rfl) fun a ha => ?_
   obtain rfl := Option.some.inj H
   exact J35 _ _ (ha.sel (by kernel_rfl)) hBg5 hBg13 hBg21 hBg29 hG hC hM
 ·have ha := ha.lit hb36
  have H := ite_f hb36 H
  refine sgh ha 38 [1, 1, 1, 1, 4, 0, 1, 1, 1, 4, 0, 1, 1, 4, 0, 1, 1, 1, 4, 0, 1, 1, 4, 0, 1, 1, 4, 0, 1, 1, 1, 4, 0, 1, 1, 1, 4, 0] [(0, .bool false)] (by kernel_rfl) fun a ha => ?_
  obtain rfl := Option.some.inj H
  exact J35 _ _ (ha.sel (by kernel_rfl)) hBg5 hBg13 hBg21 hBg29 hG hC hM
def addr_ParsePrefix.f (k : Nat) (a0 : List UInt8) : Option (S_api_Prefix × Int) := (strings_Cut.f a0 ([47] : List UInt8)).bind fun t7 => (addr_Parse.f k t7.1).bind fun t9 => (addr_parts.f k t7.2.1 (47 : Int) (10 : Int) (256 : Int)).bind fun t17 => (if (if (if (if (!t7.2.2) = true then true else (t9.2 != (0 : Int))) = true then true else (!t17.2)) = true then true else ((t17.1.length : Int) != (1 : Int))) = true then some (((⟨(⟨(0 : Int), (List.replicate 16 (0 : Int))⟩ : S_api_Addr), (0 : Int)⟩ : S_api_Prefix) : S_api_Prefix), ((4 : Int) : Int)) else ((if 0 ≤ (0 : Int) ∧ (0 : Int) < (t17.1.length : Int) then some (() : Unit) else none)).bind fun s28 => (addr_right.f k (⟨t9.1, rd t17.1 (0 : Int)⟩ : S_api_Prefix)).bind fun t31 => (if (!t31) = true then some (((⟨(⟨(0 : Int), (List.replicate 16 (0 : Int))⟩ : S_api_Addr), (0 : Int)⟩ : S_api_Prefix) : S_api_Prefix), ((4 : Int) : Int)) else some (((⟨t9.1, rd t17.1 (0 : Int)⟩ : S_api_Prefix) : S_api_Prefix), ((0 : Int) : Int))))
set_option maxRecDepth 100000 in
theorem addr_ParsePrefix.walk (w : World) (M : List Nat) (hM : MS M w) (hG : GF w M) (a0 : List UInt8) (k : Nat) (r : S_api_Prefix × Int) (H : addr_ParsePrefix.f k a0 = some r) :
    To Tryd.prog 19 [.string (bstr a0)] w fun v w' => v = .tuple #[.agg (cS_api_Prefix r.1).toArray, .int .i64 r.2] ∧ Chg [] w w' ∧ MS (M) w' := by
 unfold addr_ParsePrefix.f at H
 refine ent Tryd.func19 rfl [(0, .string (bstr a0))] rfl (by rfl) fun a ha => ?_
 have hC : Chg [] w w := Chg.refl _ _
 refine wp_seq_k fun K1 hK1 => ?_
 refine wp_region_lit ?_
 refine al (cs := (cS_api_Prefix (⟨(⟨(0 : Int), (List.replicate 16 (0 : Int))⟩ : S_api_Addr), (0 : Int)⟩ : S_api_Prefix))) (z := .agg (cS_api_Prefix (⟨(⟨(0 : Int), (List.replicate 16 (0 : Int))⟩ : S_api_Addr), (0 : Int)⟩ : S_api_Prefix)).toArray) ha (fun w => by kernel_rfl) rfl rfl rfl rfl fun a w2 g3 hN4 ha => ?_
 have o1 : Ok [] (M) w.heap.size := Ok.nil _ _
 have o2 : Ok ([g3] ++ (M)) (M) w.heap.size := (Ok.app (hN4.ok _) (Ok.refl _ _))
 have hG := hG.chg hN4.chg o1 o2
 have p_i5_M : ∀ x ∈ [g3], x ∉ M := fun x hx hy => absurd (hM x (hy)) (Nat.not_lt.2 ((hN4.ge1) x hx))
 have e_i5 : ∀ x ∈ [g3], w.heap.size ≤ x := fun x hx => Nat.le_trans hC.size ((hN4.ge1) x hx)
 have hM : MS ([g3] ++ (M)) w2 := (MS.app hN4.ms (hM.chg hN4.chg))
 have hC := hC.trans hN4.chg (Ok.nil _ _)
 have hBg3 : Box w2 g3 (cS_api_Prefix (⟨(⟨(0 : Int), (List.replicate 16 (0 : Int))⟩ : S_api_Addr), (0 : Int)⟩ : S_api_Prefix)) := hN4.box
 refine seg ha 1 [(0, .string (bstr a0)), (2, .pointer (some ⟨g3, 0, none⟩))] (by kernel_rfl) fun a ha => ?_
 refine hK1 _ _ ?_; try clear hK1 K1
 refine wp_seq_k fun K6 hK6 => ?_
 refine wp_region_lit ?_
 refine seg ha 1 [(2, .pointer (some ⟨g3, 0, none⟩)), (13, .string (bstr a0))] (by kernel_rfl) fun a ha => ?_
 obtain ⟨t7, H7, H⟩ := bind_some H
 refine cl ha (by rfl) (by kernel_rfl) (by rfl) (by rfl) (by rfl) (strings_Cut.walk w2 _ hM hG a0 ([47] : List UInt8) _ H7) ?_
 rintro _ w7 ⟨rfl, hc7, hMn⟩ a ha
 have o1 : Ok [] ([g3] ++ (M)) w2.heap.size := Ok.nil _ _
 have o2 : Ok ([g3] ++ (M)) ([g3] ++ (M)) w2.heap.size := (Ok.refl _ _)
 have hG := hG.chg hc7 o1 o2
 have hBg3 := hBg3.chg hc7 (fun h => nomatch h)
 have hM : MS ([g3] ++ (M)) w7 := (hM.chg hc7)
 have hC := hC.trans hc7 (Ok.nil _ _)
 refine seg ha 7 [(2, .pointer (some ⟨g3, 0, none⟩)), (4, .string (bstr t7.1)), (5, .string (bstr t7.2.1)), (6, .bool t7.2.2)] (by kernel_rfl) fun a ha => ?_
 refine hK6 _ _ ?_; try clear hK6 K6
 refine wp_seq_k fun K8 hK8 => ?_
 refine wp_region_lit ?_
 refine seg ha 1 [(2, .pointer (some ⟨g3, 0, none⟩)), (5, .string (bstr t7.2.1)), (6, .bool t7.2.2), (19, .string (bstr t7.1))] (by kernel_rfl) fun a ha => ?_
 obtain ⟨t9, H9, H⟩ := bind_some H
 refine cl ha (by rfl) (by kernel_rfl) (by rfl) (by rfl) (by rfl) (addr_Parse.walk w7 _ hM hG t7.1 k _ H9) ?_
 rintro _ w9 ⟨rfl, hc9, hMn⟩ a ha
 have o1 : Ok [] ([g3] ++ (M)) w7.heap.size := Ok.nil _ _
 have o2 : Ok ([g3] ++ (M)) ([g3] ++ (M)) w7.heap.size := (Ok.refl _ _)
 have hG := hG.chg hc9 o1 o2
 have hBg3 := hBg3.chg hc9 (fun h => nomatch h)
 have hM : MS ([g3] ++ (M)) w9 := (hM.chg hc9)
 have hC := hC.trans hc9 (Ok.nil _ _)
 refine seg ha 3 [(2, .pointer (some ⟨g3, 0, none⟩)), (5, .string (bstr t7.2.1)), (6, .bool t7.2.2), (21, .agg (cS_api_Addr t9.1).toArray), (22, .int .i64 t9.2)] (by kernel_rfl) fun a ha => ?_
 refine al (cs := (cS_api_Addr (⟨(0 : Int), (List.replicate 16 (0 : Int))⟩ : S_api_Addr))) (z := .agg (cS_api_Addr (⟨(0 : Int), (List.replicate 16 (0 : Int))⟩ : S_api_Addr)).toArray) ha (fun w => by kernel_rfl) rfl rfl rfl rfl fun a w10 g11 hN12 ha => ?_
 have o1 : Ok [] ([g3] ++ (M)) w9.heap.size := Ok.nil _ _
 have o2 : Ok ([g11] ++ ([g3] ++ (M))) ([g3] ++ (M)) w9.heap.size := (Ok.app (hN12.ok _) (Ok.refl _ _))
 have hG := hG.chg hN12.chg o1 o2
 have hBg3 := hBg3.chg hN12.chg (fun h => nomatch h)
 have p_i13_i5 : ∀ x ∈ [g11], x ∉ ([g3]) := fun x hx hy => absurd (hM x (ml hy)) (Nat.not_lt.2 ((hN12.ge1) x hx))
 have p_i13_M : ∀ x ∈ [g11], x ∉ M := fun x hx hy => absurd (hM x (mr (hy))) (Nat.not_lt.2 ((hN12.ge1) x hx))
 have e_i13 : ∀ x ∈ [g11], w.heap.size ≤ x := fun x hx => Nat.le_trans hC.size ((hN12.ge1) x hx)
 have hM : MS ([g11] ++ ([g3] ++ (M))) w10 := (MS.app hN12.ms (hM.chg hN12.chg))
 have hC := hC.trans hN12.chg (Ok.nil _ _)
 have hBg11 : Box w10 g11 (cS_api_Addr (⟨(0 : Int), (List.replicate 16 (0 : Int))⟩ : S_api_Addr)) := hN12.box
 refine stA (l := (cS_api_Addr t9.1)) ha rfl rfl rfl (by kernel_rfl) rfl rfl hBg11 rfl fun a w14 ha hb2 hc15 _ => ?_
 have o1 : Ok [g11] ([g11] ++ ([g3] ++ (M))) w10.heap.size := (fun _ h => .inl (ml h))
 have o2 : Ok ([g11] ++ ([g3] ++ (M))) ([g11] ++ ([g3] ++ (M))) w10.heap.size := (Ok.refl _ _)
 have hG := hG.chg hc15 o1 o2
 have hBg3 := hBg3.chg hc15 ((fun x (hx : x ∈ [g3]) (hy : x ∈ [g11]) => p_i13_i5 x hy hx) g3 (by simp))
 have hM : MS ([g11] ++ ([g3] ++ (M))) w14 := (hM.chg hc15)
 have hC := hC.trans hc15 (fun x h => .inr (e_i13 x h))
 have hBg11 : Box w14 g11 (cS_api_Addr t9.1) := hb2
 refine seg ha 1 [(2, .pointer (some ⟨g3, 0, none⟩)), (5, .string (bstr t7.2.1)), (6, .bool t7.2.2), (7, .pointer (some ⟨g11, 0, none⟩)), (8, .int .i64 t9.2)] (by kernel_rfl) fun a ha => ?_
 refine hK8 _ _ ?_; try clear hK8 K8
 refine wp_seq_k fun K16 hK16 => ?_
 refine wp_region_lit ?_
 refine seg ha 1 [(2, .pointer (some ⟨g3, 0, none⟩)), (6, .bool t7.2.2), (7, .pointer (some ⟨g11, 0, none⟩)), (8, .int .i64 t9.2), (24, .string (bstr t7.2.1))] (by kernel_rfl) fun a ha => ?_
 obtain ⟨t17, H17, H⟩ := bind_some H
 refine cl ha (by rfl) (by kernel_rfl) (by rfl) (by rfl) (by rfl) (addr_parts.walk w14 _ hM t7.2.1 (47 : Int) (10 : Int) (256 : Int) k _ H17) ?_
 rintro _ w17 ⟨ao18, cap18, rfl, f18, ne_i18, hc17, hMn⟩ a ha
 have o1 : Ok [] ([g11] ++ ([g3] ++ (M))) w14.heap.size := Ok.nil _ _
 have o2 : Ok (blkL ao18 ++ ([g11] ++ ([g3] ++ (M)))) ([g11] ++ ([g3] ++ (M))) w14.heap.size := (Ok.app (fun x h => .inr (ne_i18 x h)) (Ok.refl _ _))
 have hG := hG.chg hc17 o1 o2
 have hBg3 := hBg3.chg hc17 (fun h => nomatch h)
 have hBg11 := hBg11.chg hc17 (fun h => nomatch h)
 have p_i18_i13 : ∀ x ∈ blkL ao18, x ∉ ([g11]) := fun x hx hy => absurd (hM x (ml hy)) (Nat.not_lt.2 (ne_i18 x hx))
 have p_i18_i5 : ∀ x ∈ blkL ao18, x ∉ ([g3]) := fun x hx hy => absurd (hM x (mr (ml hy))) (Nat.not_lt.2 (ne_i18 x hx))
 have p_i18_M : ∀ x ∈ blkL ao18, x ∉ M := fun x hx hy => absurd (hM x (mr (mr (hy)))) (Nat.not_lt.2 (ne_i18 x hx))
 have e_i18 : ∀ x ∈ blkL ao18, w.heap.size ≤ x := fun x hx => Nat.le_trans hC.size (ne_i18 x hx)
 have hM : MS (blkL ao18 ++ ([g11] ++ ([g3] ++ (M)))) w17 := (MS.app (fun x h => hMn x (ml h)) (hM.chg hc17))
 have hC := hC.trans hc17 (Ok.nil _ _)
 refine seg ha 5 [(2, .pointer (some ⟨g3, 0, none⟩)), (6, .bool t7.2.2), (7, .pointer (some ⟨g11, 0, none⟩)), (8, .int .i64 t9.2), (9, .slice ao18 t17.1.length cap18), (10, .bool t17.2)] (by kernel_rfl) fun a ha => ?_
 refine hK16 _ _ ?_; try clear hK16 K16
 refine wp_seq_k fun K19 hK19 => ?_
 refine wp_seq_k fun K20 hK20 => ?_
 refine wp_region_lit ?_
 refine seg ha 15 [(2, .pointer (some ⟨g3, 0, none⟩)), (7, .pointer (some ⟨g11, 0, none⟩)), (9, .slice ao18 t17.1.length cap18), (42, .bool (if (if (if (!t7.2.2) = true then true else (t9.2 != (0 : Int))) = true then true else (!t17.2)) = true then true else ((t17.1.length : Int) != (1 : Int))))] (by kernel_rfl) fun a ha => ?_
 refine hK20 _ _ ?_; try clear hK20 K20
 refine cnd ha rfl (fun hc21 => ?_) (fun hc21 => ?_)
 ·have H := ite_t hc21 H
  refine wp_seq_k fun K22 hK22 => ?_
  refine wp_region_lit ?_
  refine opk (v := .agg (cS_api_Prefix (⟨(⟨(0 : Int), (List.replicate 16 (0 : Int))⟩ : S_api_Addr), (0 : Int)⟩ : S_api_Prefix)).toArray) ha rfl rfl rfl rfl rfl (fun w => by kernel_rfl) fun a ha => ?_
  refine stA (l := (cS_api_Prefix (⟨(⟨(0 : Int), (List.replicate 16 (0 : Int))⟩ : S_api_Addr), (0 : Int)⟩ : S_api_Prefix))) ha rfl rfl rfl (by kernel_rfl) rfl rfl hBg3 rfl fun a w23 ha hb2 hc24 _ => ?_
  have o1 : Ok [g3] (blkL ao18 ++ ([g11] ++ ([g3] ++ (M)))) w17.heap.size := (fun _ h => .inl (mr (mr (ml h))))
  have o2 : Ok (blkL ao18 ++ ([g11] ++ ([g3] ++ (M)))) (blkL ao18 ++ ([g11] ++ ([g3] ++ (M)))) w17.heap.size := (Ok.refl _ _)
  have hG := hG.chg hc24 o1 o2
  have hBg11 := hBg11.chg hc24 (p_i13_i5 g11 (by simp))
  have hM : MS (blkL ao18 ++ ([g11] ++ ([g3] ++ (M)))) w23 := (hM.chg hc24)
  have hC := hC.trans hc24 (fun x h => .inr (e_i5 x h))
  have hBg3 : Box w23 g3 (cS_api_Prefix (⟨(⟨(0 : Int), (List.replicate 16 (0 : Int))⟩ : S_api_Addr), (0 : Int)⟩ : S_api_Prefix)) := hb2
  refine seg ha 1 [(2, .pointer (some ⟨g3, 0, none⟩)), (3, .int .i64 (4 : Int))] (by kernel_rfl) fun a ha => ?_
  refine hK22 _ _ ?_; try clear hK22 K22
  refine wp_ret ?_
  try simp only [Exit.then, Exit.inBlock]
  have o1 : Ok [] (blkL ao18 ++ ([g11] ++ ([g3] ++ (M)))) w23.heap.size := Ok.nil _ _
  have o2 : Ok (M) (blkL ao18 ++ ([g11] ++ ([g3] ++ (M)))) w23.heap.size := (fun _ h => .inl (mr (mr (mr (h)))))
  have hG := hG.chg (Chg.refl [] _) o1 o2
  have hBg3 := hBg3.chg (Chg.refl [] _) (fun h => nomatch h)
  have hBg11 := hBg11.chg (Chg.refl [] _) (fun h => nomatch h)
  have hM : MS (M) w23 := (fun x h => hM.chg (Chg.refl [] _) x (mr (mr (mr (h)))))
  have hC := hC.trans (Chg.refl [] _) (Ok.nil _ _)
  obtain rfl := Option.some.inj H
  refine rtr ha (res2 rfl (roA ha rfl hBg3 (by kernel_rfl)) (roT ha rfl)) ?_
  exact ⟨rfl, hC, hM⟩
 ·have H := ite_f hc21 H
  refine wp_skip ?_
  refine hK19 _ _ ?_; try clear hK19 K19
  refine wp_seq_k fun K25 hK25 => ?_
  have okS : Ok [] (blkL ao18 ++ ([g11] ++ ([g3] ++ (M)))) w17.heap.size := Ok.nil _ _
  have z_f18 := (Own.toRSl (M' := []) f18 (Ok.nil _ _) (fun _ _ h => nomatch h))
  have z_hBg3 := hBg3
  have z_hBg11 := hBg11
  refine drw (fun w' => Chg [] w17 w') (by kernel_rfl) fun w26 hc27 _ => ?_
  have hS : Chg [] w17 w26 := (Chg.refl [] _).trans hc27 (Ok.nil _ _)
  have o1 : Ok [] (blkL ao18 ++ ([g11] ++ ([g3] ++ (M)))) w17.heap.size := Ok.nil _ _
  have o2 : Ok (blkL ao18 ++ ([g11] ++ ([g3] ++ (M)))) (blkL ao18 ++ ([g11] ++ ([g3] ++ (M)))) w17.heap.size := (Ok.refl _ _)
  have hG := hG.chg hc27 o1 o2
  have f18 := f18.chg hc27 o1 o2 (fun _ _ h => nomatch h) (fun _ h => ml h)
  have hBg3 := hBg3.chg hc27 (fun h => nomatch h)
  have hBg11 := hBg11.chg hc27 (fun h => nomatch h)
  have hM : MS (blkL ao18 ++ ([g11] ++ ([g3] ++ (M)))) w26 := (hM.chg hc27)
  have hC := hC.trans hc27 (Ok.nil _ _)
  obtain ⟨s28, H28, H⟩ := bind_some H
  have J28 : ∀ (a : Act) (w28 : World) (gd11 : Nat), Has a Tryd.f19.ntmps [(2, .pointer (some ⟨g3, 0, none⟩)), (11, .pointer (some ⟨gd11, 0, none⟩))] → (Box w28 g3 (cS_api_Prefix (⟨(⟨(0 : Int), (List.replicate 16 (0 : Int))⟩ : S_api_Addr), (0 : Int)⟩ : S_api_Prefix))) → (Box w28 g11 (cS_api_Addr t9.1)) → (Box w28 gd11 (cS_api_Prefix (⟨t9.1, rd t17.1 (0 : Int)⟩ : S_api_Prefix))) → (∀ x ∈ [gd11], w.heap.size ≤ x) → (∀ x ∈ [gd11], x ∉ [g11]) → (∀ x ∈ [gd11], x ∉ [g3]) → (∀ x ∈ [gd11], x ∉ M) → (GF w28 ([gd11] ++ ([g11] ++ ([g3] ++ (M))))) → (Chg [] w w28) → (MS ([gd11] ++ ([g11] ++ ([g3] ++ (M)))) w28) → K25 a w28 := by
   intro a w28 gd11 ha hBg3 hBg11 hBgd11 e_iD011 p_iD011_i13 p_iD011_i5 p_iD011_M hG hC hM
   refine hK25 _ _ ?_; try clear hK25 K25
   refine wp_seq_k fun K29 hK29 => ?_
   refine wp_seq_k fun K30 hK30 => ?_
   refine wp_region_lit ?_
   refine ldA (cs := (cS_api_Prefix (⟨t9.1, rd t17.1 (0 : Int)⟩ : S_api_Prefix))) ha rfl (by kernel_rfl) rfl rfl rfl (cells_sub (Box.cells hBgd11) (all := (cS_api_Prefix (⟨t9.1, rd t17.1 (0 : Int)⟩ : S_api_Prefix))) [] [] (by kernel_rfl)) fun a ha => ?_
   obtain ⟨t31, H31, H⟩ := bind_some H
   refine cl ha (by rfl) (by kernel_rfl) (by rfl) (by rfl) (by rfl) (addr_right.walk w28 _ hM (⟨t9.1, rd t17.1 (0 : Int)⟩ : S_api_Prefix) k _ H31) ?_
   rintro _ w31 ⟨rfl, hc31, hMn⟩ a ha
   have o1 : Ok [] ([gd11] ++ ([g11] ++ ([g3] ++ (M)))) w28.heap.size := Ok.nil _ _
   have o2 : Ok ([gd11] ++ ([g11] ++ ([g3] ++ (M)))) ([gd11] ++ ([g11] ++ ([g3] ++ (M)))) w28.heap.size := (Ok.refl _ _)
   have hG := hG.chg hc31 o1 o2
   have hBg3 := hBg3.chg hc31 (fun h => nomatch h)
   have hBg11 := hBg11.chg hc31 (fun h => nomatch h)
   have hBgd11 := hBgd11.chg hc31 (fun h => nomatch h)
   have hM : MS ([gd11] ++ ([g11] ++ ([g3] ++ (M)))) w31 := (hM.chg hc31)
   have hC := hC.trans hc31 (Ok.nil _ _)
   refine seg ha 1 [(2, .pointer (some ⟨g3, 0, none⟩)), (11, .pointer (some ⟨gd11, 0, none⟩)), (51, .bool (!t31))] (by kernel_rfl) fun a ha => ?_
   refine hK30 _ _ ?_; try clear hK30 K30
   refine cnd ha rfl (fun hc32 => ?_) (fun hc32 => ?_)
   ·have H := ite_t hc32 H
    refine wp_seq_k fun K33 hK33 => ?_
    refine wp_region_lit ?_
    refine opk (v := .agg (cS_api_Prefix (⟨(⟨(0 : Int), (List.replicate 16 (0 : Int))⟩ : S_api_Addr), (0 : Int)⟩ : S_api_Prefix)).toArray) ha rfl rfl rfl rfl rfl (fun w => by kernel_rfl) fun a ha => ?_
    refine stA (l := (cS_api_Prefix (⟨(⟨(0 : Int), (List.replicate 16 (0 : Int))⟩ : S_api_Addr), (0 : Int)⟩ : S_api_Prefix))) ha rfl rfl rfl (by kernel_rfl) rfl rfl hBg3 rfl fun a w34 ha hb2 hc35 _ => ?_
    have o1 : Ok [g3] ([gd11] ++ ([g11] ++ ([g3] ++ (M)))) w31.heap.size := (fun _ h => .inl (mr (mr (ml h))))
    have o2 : Ok ([gd11] ++ ([g11] ++ ([g3] ++ (M)))) ([gd11] ++ ([g11] ++ ([g3] ++ (M)))) w31.heap.size := (Ok.refl _ _)
    have hG := hG.chg hc35 o1 o2
    have hBg11 := hBg11.chg hc35 (p_i13_i5 g11 (by simp))
    have hBgd11 := hBgd11.chg hc35 (p_iD011_i5 gd11 (by simp))
    have hM : MS ([gd11] ++ ([g11] ++ ([g3] ++ (M)))) w34 := (hM.chg hc35)
    have hC := hC.trans hc35 (fun x h => .inr (e_i5 x h))
    have hBg3 : Box w34 g3 (cS_api_Prefix (⟨(⟨(0 : Int), (List.replicate 16 (0 : Int))⟩ : S_api_Addr), (0 : Int)⟩ : S_api_Prefix)) := hb2
    refine seg ha 1 [(2, .pointer (some ⟨g3, 0, none⟩)), (3, .int .i64 (4 : Int))] (by kernel_rfl) fun a ha => ?_
    refine hK33 _ _ ?_; try clear hK33 K33
    refine wp_ret ?_
    try simp only [Exit.then, Exit.inBlock]
    have o1 : Ok [] ([gd11] ++ ([g11] ++ ([g3] ++ (M)))) w34.heap.size := Ok.nil _ _
    have o2 : Ok (M) ([gd11] ++ ([g11] ++ ([g3] ++ (M)))) w34.heap.size := (fun _ h => .inl (mr (mr (mr (h)))))
    have hG := hG.chg (Chg.refl [] _) o1 o2
    have hBg3 := hBg3.chg (Chg.refl [] _) (fun h => nomatch h)
    have hBg11 := hBg11.chg (Chg.refl [] _) (fun h => nomatch h)
    have hBgd11 := hBgd11.chg (Chg.refl [] _) (fun h => nomatch h)
    have hM : MS (M) w34 := (fun x h => hM.chg (Chg.refl [] _) x (mr (mr (mr (h)))))
    have hC := hC.trans (Chg.refl [] _) (Ok.nil _ _)
    obtain rfl := Option.some.inj H
    refine rtr ha (res2 rfl (roA ha rfl hBg3 (by kernel_rfl)) (roT ha rfl)) ?_
    exact ⟨rfl, hC, hM⟩
   ·have H := ite_f hc32 H
    refine wp_skip ?_
    refine hK29 _ _ ?_; try clear hK29 K29
    refine wp_seq_k fun K36 hK36 => ?_
    refine wp_region_lit ?_
    refine ldA (cs := (cS_api_Prefix (⟨t9.1, rd t17.1 (0 : Int)⟩ : S_api_Prefix))) ha rfl (by kernel_rfl) rfl rfl rfl (cells_sub (Box.cells hBgd11) (all := (cS_api_Prefix (⟨t9.1, rd t17.1 (0 : Int)⟩ : S_api_Prefix))) [] [] (by kernel_rfl)) fun a ha => ?_
    refine stA (l := (cS_api_Prefix (⟨t9.1, rd t17.1 (0 : Int)⟩ : S_api_Prefix))) ha rfl rfl rfl (by kernel_rfl) rfl rfl hBg3 rfl fun a w37 ha hb2 hc38 _ => ?_
    have o1 : Ok [g3] ([gd11] ++ ([g11] ++ ([g3] ++ (M)))) w31.heap.size := (fun _ h => .inl (mr (mr (ml h))))
    have o2 : Ok ([gd11] ++ ([g11] ++ ([g3] ++ (M)))) ([gd11] ++ ([g11] ++ ([g3] ++ (M)))) w31.heap.size := (Ok.refl _ _)
    have hG := hG.chg hc38 o1 o2
    have hBg11 := hBg11.chg hc38 (p_i13_i5 g11 (by simp))
    have hBgd11 := hBgd11.chg hc38 (p_iD011_i5 gd11 (by simp))
    have hM : MS ([gd11] ++ ([g11] ++ ([g3] ++ (M)))) w37 := (hM.chg hc38)
    have hC := hC.trans hc38 (fun x h => .inr (e_i5 x h))
    have hBg3 : Box w37 g3 (cS_api_Prefix (⟨t9.1, rd t17.1 (0 : Int)⟩ : S_api_Prefix)) := hb2
    refine seg ha 1 [(2, .pointer (some ⟨g3, 0, none⟩)), (3, .int .i64 (0 : Int))] (by kernel_rfl) fun a ha => ?_
    refine hK36 _ _ ?_; try clear hK36 K36
    refine wp_ret ?_
    try simp only [Exit.then, Exit.inBlock]
    have o1 : Ok [] ([gd11] ++ ([g11] ++ ([g3] ++ (M)))) w37.heap.size := Ok.nil _ _
    have o2 : Ok (M) ([gd11] ++ ([g11] ++ ([g3] ++ (M)))) w37.heap.size := (fun _ h => .inl (mr (mr (mr (h)))))
    have hG := hG.chg (Chg.refl [] _) o1 o2
    have hBg3 := hBg3.chg (Chg.refl [] _) (fun h => nomatch h)
    have hBg11 := hBg11.chg (Chg.refl [] _) (fun h => nomatch h)
    have hBgd11 := hBgd11.chg (Chg.refl [] _) (fun h => nomatch h)
    have hM : MS (M) w37 := (fun x h => hM.chg (Chg.refl [] _) x (mr (mr (mr (h)))))
    have hC := hC.trans (Chg.refl [] _) (Ok.nil _ _)
    obtain rfl := Option.some.inj H
    refine rtr ha (res2 rfl (roA ha rfl hBg3 (by kernel_rfl)) (roT ha rfl)) ?_
    exact ⟨rfl, hC, hM⟩
  have H := H28
  refine tkz 0 ha (v := .agg (cS_api_Addr t9.1).toArray) (y := fun w' hs => ldA_run (cs := (cS_api_Addr t9.1)) ha rfl (by kernel_rfl) (cells_sub (Box.cells (Box.chg z_hBg11 hs (fun h => nomatch h))) (all := (cS_api_Addr t9.1)) [] [] (by kernel_rfl))) (s := hS) (q := fun a ha => ?_)
  refine tkpz 1 0 (.slice ao18 t17.1.length cap18) ha (s := hS) (q := fun a ha => ?_)
  obtain ⟨⟨hx39, hx39'⟩, H⟩ := ite_some H
  obtain ⟨ge40, oe410, cs42, hx39eq, hn45, hR43, hE44⟩ := RSl.elem z_f18 (Int.toNat (0 : Int)) (by omega)
  rw [rd_get] at hR43
  obtain rfl := hR43
  have hE44 : ∀ j v, ([.int .i64 (rd t17.1 (0 : Int))] : List Value)[j]? = some v → w17.cell? ⟨ge40, (oe410 + (Int.toNat (0 : Int)) * (rInt .i64).sz) + j, none⟩ = some v := hE44
  refine tkz 2 ha (v := .pointer (some ⟨ge40, (oe410 + (Int.toNat (0 : Int)) * (rInt .i64).sz), none⟩)) (y := fun w' _ => ix_run (r := (rInt .i64)) (T := 3) ha (by kernel_rfl) (by kernel_rfl) (by rfl) (by rfl) hx39eq hx39 hx39') (s := hS) (q := fun a ha => ?_)
  refine tkz 3 ha (v := .int .i64 (rd t17.1 (0 : Int))) (y := fun w' hs => ld_run ha rfl (by kernel_rfl) (cell_keep hs (Ok.nil _ _) hn45 (hE44 0 (.int .i64 (rd t17.1 (0 : Int))) (by kernel_rfl)))) (s := hS) (q := fun a ha => ?_)
  refine acs [4, 5] (by kernel_rfl) (by simp) fun i hi => ?_
  simp only [List.mem_cons, List.not_mem_nil, or_false] at hi
  rcases hi with rfl | rfl
  ·refine ⟨_, rfl, fun K46 hK46 => ?_⟩
   refine opk (v := .agg (cS_api_Prefix (⟨t9.1, rd t17.1 (0 : Int)⟩ : S_api_Prefix)).toArray) ha rfl rfl rfl rfl rfl (fun w => by kernel_rfl) fun a ha => ?_
   refine ae hK46 hS ?_; clear hK46 K46
   refine ac 5 (by kernel_rfl) (by rfl) fun K47 hK47 => ?_
   refine al (cs := (cS_api_Prefix (⟨(⟨(0 : Int), (List.replicate 16 (0 : Int))⟩ : S_api_Addr), (0 : Int)⟩ : S_api_Prefix))) (z := .agg (cS_api_Prefix (⟨(⟨(0 : Int), (List.replicate 16 (0 : Int))⟩ : S_api_Addr), (0 : Int)⟩ : S_api_Prefix)).toArray) ha (fun w => by kernel_rfl) rfl rfl rfl rfl fun a w48 gd11 hN49 ha => ?_
   have o1 : Ok [] (blkL ao18 ++ ([g11] ++ ([g3] ++ (M)))) w26.heap.size := Ok.nil _ _
   have o2 : Ok ([gd11] ++ (blkL ao18 ++ ([g11] ++ ([g3] ++ (M))))) (blkL ao18 ++ ([g11] ++ ([g3] ++ (M)))) w26.heap.size := (Ok.app (hN49.ok _) (Ok.refl _ _))
   have hG := hG.chg hN49.chg o1 o2
   have f18 := f18.chg hN49.chg o1 o2 (fun _ _ h => nomatch h) (fun _ h => mr (ml h))
   have hBg3 := hBg3.chg hN49.chg (fun h => nomatch h)
   have hBg11 := hBg11.chg hN49.chg (fun h => nomatch h)
   have p_i18_iD011 : ∀ x ∈ blkL ao18, x ∉ ([gd11]) := fun x hy hx => absurd (hM x (ml hy)) (Nat.not_lt.2 ((hN49.ge1) x hx))
   have p_i13_iD011 : ∀ x ∈ [g11], x ∉ ([gd11]) := fun x hy hx => absurd (hM x (mr (ml hy))) (Nat.not_lt.2 ((hN49.ge1) x hx))
   have p_iD011_i5 : ∀ x ∈ [gd11], x ∉ ([g3]) := fun x hx hy => absurd (hM x (mr (mr (ml hy)))) (Nat.not_lt.2 ((hN49.ge1) x hx))
   have p_iD011_M : ∀ x ∈ [gd11], x ∉ M := fun x hx hy => absurd (hM x (mr (mr (mr (hy))))) (Nat.not_lt.2 ((hN49.ge1) x hx))
   have e_iD011 : ∀ x ∈ [gd11], w.heap.size ≤ x := fun x hx => Nat.le_trans hC.size ((hN49.ge1) x hx)
   have hM : MS ([gd11] ++ (blkL ao18 ++ ([g11] ++ ([g3] ++ (M))))) w48 := (MS.app hN49.ms (hM.chg hN49.chg))
   have hC := hC.trans hN49.chg (Ok.nil _ _)
   have d_iD011 : Ok ([gd11]) [] w17.heap.size := fun x hx => .inr (Nat.le_trans hS.size ((hN49.ge1) x hx))
   have hS := hS.trans hN49.chg (Ok.nil _ _)
   have hBgd11 : Box w48 gd11 (cS_api_Prefix (⟨(⟨(0 : Int), (List.replicate 16 (0 : Int))⟩ : S_api_Addr), (0 : Int)⟩ : S_api_Prefix)) := hN49.box
   refine ae hK47 hS ?_; clear hK47 K47
   refine ac 6 (by kernel_rfl) (by rfl) fun K50 hK50 => ?_
   refine stA (l := (cS_api_Prefix (⟨t9.1, rd t17.1 (0 : Int)⟩ : S_api_Prefix))) ha rfl rfl rfl (by kernel_rfl) rfl rfl hBgd11 rfl fun a w51 ha hb2 hc52 _ => ?_
   have o1 : Ok [gd11] ([gd11] ++ (blkL ao18 ++ ([g11] ++ ([g3] ++ (M))))) w48.heap.size := (fun _ h => .inl (ml h))
   have o2 : Ok ([gd11] ++ (blkL ao18 ++ ([g11] ++ ([g3] ++ (M))))) ([gd11] ++ (blkL ao18 ++ ([g11] ++ ([g3] ++ (M))))) w48.heap.size := (Ok.refl _ _)
   have hG := hG.chg hc52 o1 o2
   have f18 := f18.chg hc52 o1 o2 p_i18_iD011 (fun _ h => mr (ml h))
   have hBg3 := hBg3.chg hc52 ((fun x (hx : x ∈ [g3]) (hy : x ∈ [gd11]) => p_iD011_i5 x hy hx) g3 (by simp))
   have hBg11 := hBg11.chg hc52 (p_i13_iD011 g11 (by simp))
   have hM : MS ([gd11] ++ (blkL ao18 ++ ([g11] ++ ([g3] ++ (M))))) w51 := (hM.chg hc52)
   have hC := hC.trans hc52 (fun x h => .inr (e_iD011 x h))
   have hS := hS.trans hc52 d_iD011
   have hBgd11 : Box w51 gd11 (cS_api_Prefix (⟨t9.1, rd t17.1 (0 : Int)⟩ : S_api_Prefix)) := hb2
   refine ae hK50 hS ?_; clear hK50 K50
   refine dn (by kernel_rfl) ?_
   obtain rfl := Option.some.inj H
   have o1 : Ok [] ([gd11] ++ (blkL ao18 ++ ([g11] ++ ([g3] ++ (M))))) w51.heap.size := Ok.nil _ _
   have o2 : Ok ([gd11] ++ ([g11] ++ ([g3] ++ (M)))) ([gd11] ++ (blkL ao18 ++ ([g11] ++ ([g3] ++ (M))))) w51.heap.size := (Ok.app (fun _ h => .inl (ml h)) (fun _ h => .inl (mr (mr (h)))))
   have hG := hG.chg (Chg.refl [] _) o1 o2
   have hBg3 := hBg3.chg (Chg.refl [] _) (fun h => nomatch h)
   have hBg11 := hBg11.chg (Chg.refl [] _) (fun h => nomatch h)
   have hBgd11 := hBgd11.chg (Chg.refl [] _) (fun h => nomatch h)
   have hM : MS ([gd11] ++ ([g11] ++ ([g3] ++ (M)))) w51 := (MS.app (fun x h => hM.chg (Chg.refl [] _) x (ml h)) (fun x h => hM.chg (Chg.refl [] _) x (mr (mr (h)))))
   have hC := hC.trans (Chg.refl [] _) (Ok.nil _ _)
   exact J28 _ _ gd11 (ha.sel (by kernel_rfl)) hBg3 hBg11 hBgd11 e_iD011 (fun x hx hy => p_i13_iD011 x hy hx) p_iD011_i5 p_iD011_M hG hC hM
  ·refine ⟨_, rfl, fun K53 hK53 => ?_⟩
   refine al (cs := (cS_api_Prefix (⟨(⟨(0 : Int), (List.replicate 16 (0 : Int))⟩ : S_api_Addr), (0 : Int)⟩ : S_api_Prefix))) (z := .agg (cS_api_Prefix (⟨(⟨(0 : Int), (List.replicate 16 (0 : Int))⟩ : S_api_Addr), (0 : Int)⟩ : S_api_Prefix)).toArray) ha (fun w => by kernel_rfl) rfl rfl rfl rfl fun a w54 gd11 hN55 ha => ?_
   have o1 : Ok [] (blkL ao18 ++ ([g11] ++ ([g3] ++ (M)))) w26.heap.size := Ok.nil _ _
   have o2 : Ok ([gd11] ++ (blkL ao18 ++ ([g11] ++ ([g3] ++ (M))))) (blkL ao18 ++ ([g11] ++ ([g3] ++ (M)))) w26.heap.size := (Ok.app (hN55.ok _) (Ok.refl _ _))
   have hG := hG.chg hN55.chg o1 o2
   have f18 := f18.chg hN55.chg o1 o2 (fun _ _ h => nomatch h) (fun _ h => mr (ml h))
   have hBg3 := hBg3.chg hN55.chg (fun h => nomatch h)
   have hBg11 := hBg11.chg hN55.chg (fun h => nomatch h)
   have p_i18_iD011 : ∀ x ∈ blkL ao18, x ∉ ([gd11]) := fun x hy hx => absurd (hM x (ml hy)) (Nat.not_lt.2 ((hN55.ge1) x hx))
   have p_i13_iD011 : ∀ x ∈ [g11], x ∉ ([gd11]) := fun x hy hx => absurd (hM x (mr (ml hy))) (Nat.not_lt.2 ((hN55.ge1) x hx))
   have p_iD011_i5 : ∀ x ∈ [gd11], x ∉ ([g3]) := fun x hx hy => absurd (hM x (mr (mr (ml hy)))) (Nat.not_lt.2 ((hN55.ge1) x hx))
   have p_iD011_M : ∀ x ∈ [gd11], x ∉ M := fun x hx hy => absurd (hM x (mr (mr (mr (hy))))) (Nat.not_lt.2 ((hN55.ge1) x hx))
   have e_iD011 : ∀ x ∈ [gd11], w.heap.size ≤ x := fun x hx => Nat.le_trans hC.size ((hN55.ge1) x hx)
   have hM : MS ([gd11] ++ (blkL ao18 ++ ([g11] ++ ([g3] ++ (M))))) w54 := (MS.app hN55.ms (hM.chg hN55.chg))
   have hC := hC.trans hN55.chg (Ok.nil _ _)
   have d_iD011 : Ok ([gd11]) [] w17.heap.size := fun x hx => .inr (Nat.le_trans hS.size ((hN55.ge1) x hx))
   have hS := hS.trans hN55.chg (Ok.nil _ _)
   have hBgd11 : Box w54 gd11 (cS_api_Prefix (⟨(⟨(0 : Int), (List.replicate 16 (0 : Int))⟩ : S_api_Addr), (0 : Int)⟩ : S_api_Prefix)) := hN55.box
   refine ae hK53 hS ?_; clear hK53 K53
   refine ac 4 (by kernel_rfl) (by rfl) fun K56 hK56 => ?_
   refine opk (v := .agg (cS_api_Prefix (⟨t9.1, rd t17.1 (0 : Int)⟩ : S_api_Prefix)).toArray) ha rfl rfl rfl rfl rfl (fun w => by kernel_rfl) fun a ha => ?_
   refine ae hK56 hS ?_; clear hK56 K56
   refine ac 6 (by kernel_rfl) (by rfl) fun K57 hK57 => ?_
   refine stA (l := (cS_api_Prefix (⟨t9.1, rd t17.1 (0 : Int)⟩ : S_api_Prefix))) ha rfl rfl rfl (by kernel_rfl) rfl rfl hBgd11 rfl fun a w58 ha hb2 hc59 _ => ?_
   have o1 : Ok [gd11] ([gd11] ++ (blkL ao18 ++ ([g11] ++ ([g3] ++ (M))))) w54.heap.size := (fun _ h => .inl (ml h))
   have o2 : Ok ([gd11] ++ (blkL ao18 ++ ([g11] ++ ([g3] ++ (M))))) ([gd11] ++ (blkL ao18 ++ ([g11] ++ ([g3] ++ (M))))) w54.heap.size := (Ok.refl _ _)
   have hG := hG.chg hc59 o1 o2
   have f18 := f18.chg hc59 o1 o2 p_i18_iD011 (fun _ h => mr (ml h))
   have hBg3 := hBg3.chg hc59 ((fun x (hx : x ∈ [g3]) (hy : x ∈ [gd11]) => p_iD011_i5 x hy hx) g3 (by simp))
   have hBg11 := hBg11.chg hc59 (p_i13_iD011 g11 (by simp))
   have hM : MS ([gd11] ++ (blkL ao18 ++ ([g11] ++ ([g3] ++ (M))))) w58 := (hM.chg hc59)
   have hC := hC.trans hc59 (fun x h => .inr (e_iD011 x h))
   have hS := hS.trans hc59 d_iD011
   have hBgd11 : Box w58 gd11 (cS_api_Prefix (⟨t9.1, rd t17.1 (0 : Int)⟩ : S_api_Prefix)) := hb2
   refine ae hK57 hS ?_; clear hK57 K57
   refine dn (by kernel_rfl) ?_
   obtain rfl := Option.some.inj H
   have o1 : Ok [] ([gd11] ++ (blkL ao18 ++ ([g11] ++ ([g3] ++ (M))))) w58.heap.size := Ok.nil _ _
   have o2 : Ok ([gd11] ++ ([g11] ++ ([g3] ++ (M)))) ([gd11] ++ (blkL ao18 ++ ([g11] ++ ([g3] ++ (M))))) w58.heap.size := (Ok.app (fun _ h => .inl (ml h)) (fun _ h => .inl (mr (mr (h)))))
   have hG := hG.chg (Chg.refl [] _) o1 o2
   have hBg3 := hBg3.chg (Chg.refl [] _) (fun h => nomatch h)
   have hBg11 := hBg11.chg (Chg.refl [] _) (fun h => nomatch h)
   have hBgd11 := hBgd11.chg (Chg.refl [] _) (fun h => nomatch h)
   have hM : MS ([gd11] ++ ([g11] ++ ([g3] ++ (M)))) w58 := (MS.app (fun x h => hM.chg (Chg.refl [] _) x (ml h)) (fun x h => hM.chg (Chg.refl [] _) x (mr (mr (h)))))
   have hC := hC.trans (Chg.refl [] _) (Ok.nil _ _)
   exact J28 _ _ gd11 (ha.sel (by kernel_rfl)) hBg3 hBg11 hBgd11 e_iD011 (fun x hx hy => p_i13_iD011 x hy hx) p_iD011_i5 p_iD011_M hG hC hM
def vinerylaw02_AddrBack.f (k : Nat) (a0 : S_api_Addr) (a1 : Int) (a2 : List UInt8) : Option (Bool) := (vinerylaw02_small.f k ).bind fun t8 => (addr_Right.f k a0).bind fun t10 => (addr_Text.f k a0).bind fun t12 => (addr_Parse.f k t12).bind fun t13 => ((if t10 = true then (if (t13.2 != (0 : Int)) = true then some (true : Bool) else some (!((t13.1.Size == a0.Size) && ((eqA 16 t13.1.B a0.B) && true)) : Bool)) else some (false : Bool))).bind fun s22 => (if s22 = true then some ((false : Bool)) else (addr_Cut.f k a0 a1).bind fun t26 => lv (S := Unit) ((if (t26.2 == (0 : Int)) = true then (addr_PrefixText.f k t26.1).bind fun t68 => (addr_ParsePrefix.f k t68).bind fun t69 => ((if (t69.2 != (0 : Int)) = true then some (true : Bool) else (if (!(((t69.1.Addr.Size == t26.1.Addr.Size) && ((eqA 16 t69.1.Addr.B t26.1.Addr.B) && true)) && ((t69.1.Bits == t26.1.Bits) && true))) = true then some (true : Bool) else (addr_Has.f k t26.1 a0).bind fun t82 => some (!t82 : Bool)))).bind fun s77 => (if s77 = true then some (.inl (some ((false : Bool)))) else some (.inr ((() : Unit)))) else some (.inr ((() : Unit))))) fun s34 => (addr_Parse.f k a2).bind fun t36 => ((if (t36.2 == (0 : Int)) = true then (addr_Text.f k t36.1).bind fun t62 => (if (!((bstr t62).toList == (bstr a2).toList)) = true then some (true : Bool) else (addr_Right.f k t36.1).bind fun t64 => some (!t64 : Bool)) else some (false : Bool))).bind fun s45 => (if s45 = true then some ((false : Bool)) else (addr_ParsePrefix.f k a2).bind fun t49 => ((if t8 = true then (if (t49.2 != (0 : Int)) = true then some (true : Bool) else (addr_PrefixText.f k t49.1).bind fun t60 => some ((bstr t60).toList == (bstr a2).toList : Bool)) else some (false : Bool))).bind fun s57 => some ((s57 : Bool))))
set_option maxRecDepth 100000 in
theorem vinerylaw02_AddrBack.walk (w : World) (M : List Nat) (hM : MS M w) (hG : GF w M) (a0 : S_api_Addr) (a1 : Int) (a2 : List UInt8) (k : Nat) (r : Bool) (H : vinerylaw02_AddrBack.f k a0 a1 a2 = some r) :
    To Tryd.prog 7 [.agg (cS_api_Addr a0).toArray, .int .i64 a1, .string (bstr a2)] w fun v w' => v = .bool r ∧ Chg [] w w' ∧ MS (M) w' := by
 unfold vinerylaw02_AddrBack.f at H
 refine ent Tryd.func7 rfl [(0, .agg (cS_api_Addr a0).toArray), (1, .int .i64 a1), (2, .string (bstr a2))] rfl (by rfl) fun a ha => ?_
 have hC : Chg [] w w := Chg.refl _ _
 refine wp_seq_k fun K1 hK1 => ?_
 refine wp_region_lit ?_
 refine bx (cs := (cS_api_Addr a0)) ha rfl rfl rfl rfl rfl fun a w2 g3 hN4 ha => ?_
 have hn6 := hN4.notin hM
 have o1 : Ok [] (M) w.heap.size := Ok.nil _ _
 have o2 : Ok (M) (M) w.heap.size := (Ok.refl _ _)
 have hG := hG.chg hN4.chg o1 o2
 have hM : MS (M) w2 := (hM.chg hN4.chg)
 have hC := hC.trans hN4.chg (Ok.nil _ _)
 have hE5 : ∀ j v, (cS_api_Addr a0)[j]? = some v → w2.cell? ⟨g3, 0 + j, none⟩ = some v := Box.cells (New.box hN4)
 refine seg ha 1 [(1, .int .i64 a1), (2, .string (bstr a2)), (3, .pointer (some ⟨g3, 0, none⟩))] (by kernel_rfl) fun a ha => ?_
 refine hK1 _ _ ?_; try clear hK1 K1
 refine wp_seq_k fun K7 hK7 => ?_
 refine wp_region_lit ?_
 obtain ⟨t8, H8, H⟩ := bind_some H
 refine cl ha (by rfl) (by kernel_rfl) (by rfl) (by rfl) (by rfl) (vinerylaw02_small.walk w2 _ hM hG  k _ H8) ?_
 rintro _ w8 ⟨rfl, hc8, hMn⟩ a ha
 have o1 : Ok [] (M) w2.heap.size := Ok.nil _ _
 have o2 : Ok (M) (M) w2.heap.size := (Ok.refl _ _)
 have hG := hG.chg hc8 o1 o2
 have q_hn6 : g3 ∉ M := fun h => (o2 g3 h).elim hn6 (fun h => absurd (lt_cell (hE5 0 _ rfl)) (Nat.not_lt.2 h))
 have hE5 : ∀ j v, (cS_api_Addr a0)[j]? = some v → w8.cell? ⟨g3, 0 + j, none⟩ = some v := fun j v hv => (cell_keep hc8 o1 hn6 (hE5 j v hv))
 have hn6 := q_hn6
 have hM : MS (M) w8 := (hM.chg hc8)
 have hC := hC.trans hc8 (Ok.nil _ _)
 refine seg ha 1 [(1, .int .i64 a1), (2, .string (bstr a2)), (3, .pointer (some ⟨g3, 0, none⟩)), (7, .bool t8)] (by kernel_rfl) fun a ha => ?_
 refine hK7 _ _ ?_; try clear hK7 K7
 refine wp_seq_k fun K9 hK9 => ?_
 refine wp_region_lit ?_
 refine ldA (cs := (cS_api_Addr a0)) ha rfl (by kernel_rfl) rfl rfl rfl (cells_sub hE5 (all := (cS_api_Addr a0)) [] [] (by kernel_rfl)) fun a ha => ?_
 obtain ⟨t10, H10, H⟩ := bind_some H
 refine cl ha (by rfl) (by kernel_rfl) (by rfl) (by rfl) (by rfl) (addr_Right.walk w8 _ hM a0 k _ H10) ?_
 rintro _ w10 ⟨rfl, hc10, hMn⟩ a ha
 have o1 : Ok [] (M) w8.heap.size := Ok.nil _ _
 have o2 : Ok (M) (M) w8.heap.size := (Ok.refl _ _)
 have hG := hG.chg hc10 o1 o2
 have q_hn6 : g3 ∉ M := fun h => (o2 g3 h).elim hn6 (fun h => absurd (lt_cell (hE5 0 _ rfl)) (Nat.not_lt.2 h))
 have hE5 : ∀ j v, (cS_api_Addr a0)[j]? = some v → w10.cell? ⟨g3, 0 + j, none⟩ = some v := fun j v hv => (cell_keep hc10 o1 hn6 (hE5 j v hv))
 have hn6 := q_hn6
 have hM : MS (M) w10 := (hM.chg hc10)
 have hC := hC.trans hc10 (Ok.nil _ _)
 refine seg ha 1 [(1, .int .i64 a1), (2, .string (bstr a2)), (3, .pointer (some ⟨g3, 0, none⟩)), (7, .bool t8), (8, .bool t10)] (by kernel_rfl) fun a ha => ?_
 refine hK9 _ _ ?_; try clear hK9 K9
 refine wp_seq_k fun K11 hK11 => ?_
 refine wp_region_lit ?_
 refine ldA (cs := (cS_api_Addr a0)) ha rfl (by kernel_rfl) rfl rfl rfl (cells_sub hE5 (all := (cS_api_Addr a0)) [] [] (by kernel_rfl)) fun a ha => ?_
 obtain ⟨t12, H12, H⟩ := bind_some H
 refine cl ha (by rfl) (by kernel_rfl) (by rfl) (by rfl) (by rfl) (addr_Text.walk w10 _ hM hG a0 k _ H12) ?_
 rintro _ w12 ⟨rfl, hc12, hMn⟩ a ha
 have o1 : Ok [] (M) w10.heap.size := Ok.nil _ _
 have o2 : Ok (M) (M) w10.heap.size := (Ok.refl _ _)
 have hG := hG.chg hc12 o1 o2
 have q_hn6 : g3 ∉ M := fun h => (o2 g3 h).elim hn6 (fun h => absurd (lt_cell (hE5 0 _ rfl)) (Nat.not_lt.2 h))
 have hE5 : ∀ j v, (cS_api_Addr a0)[j]? = some v → w12.cell? ⟨g3, 0 + j, none⟩ = some v := fun j v hv => (cell_keep hc12 o1 hn6 (hE5 j v hv))
 have hn6 := q_hn6
 have hM : MS (M) w12 := (hM.chg hc12)
 have hC := hC.trans hc12 (Ok.nil _ _)
 obtain ⟨t13, H13, H⟩ := bind_some H
 refine cl ha (by rfl) (by kernel_rfl) (by rfl) (by rfl) (by rfl) (addr_Parse.walk w12 _ hM hG t12 k _ H13) ?_
 rintro _ w13 ⟨rfl, hc13, hMn⟩ a ha
 have o1 : Ok [] (M) w12.heap.size := Ok.nil _ _
 have o2 : Ok (M) (M) w12.heap.size := (Ok.refl _ _)
 have hG := hG.chg hc13 o1 o2
 have q_hn6 : g3 ∉ M := fun h => (o2 g3 h).elim hn6 (fun h => absurd (lt_cell (hE5 0 _ rfl)) (Nat.not_lt.2 h))
 have hE5 : ∀ j v, (cS_api_Addr a0)[j]? = some v → w13.cell? ⟨g3, 0 + j, none⟩ = some v := fun j v hv => (cell_keep hc13 o1 hn6 (hE5 j v hv))
 have hn6 := q_hn6
 have hM : MS (M) w13 := (hM.chg hc13)
 have hC := hC.trans hc13 (Ok.nil _ _)
 refine seg ha 3 [(1, .int .i64 a1), (2, .string (bstr a2)), (3, .pointer (some ⟨g3, 0, none⟩)), (7, .bool t8), (8, .bool t10), (26, .agg (cS_api_Addr t13.1).toArray), (27, .int .i64 t13.2)] (by kernel_rfl) fun a ha => ?_
 refine al (cs := (cS_api_Addr (⟨(0 : Int), (List.replicate 16 (0 : Int))⟩ : S_api_Addr))) (z := .agg (cS_api_Addr (⟨(0 : Int), (List.replicate 16 (0 : Int))⟩ : S_api_Addr)).toArray) ha (fun w => by kernel_rfl) rfl rfl rfl rfl fun a w14 g15 hN16 ha => ?_
 have o1 : Ok [] (M) w13.heap.size := Ok.nil _ _
 have o2 : Ok ([g15] ++ (M)) (M) w13.heap.size := (Ok.app (hN16.ok _) (Ok.refl _ _))
 have hG := hG.chg hN16.chg o1 o2
 have q_hn6 : g3 ∉ [g15] ++ (M) := fun h => (o2 g3 h).elim hn6 (fun h => absurd (lt_cell (hE5 0 _ rfl)) (Nat.not_lt.2 h))
 have hE5 : ∀ j v, (cS_api_Addr a0)[j]? = some v → w14.cell? ⟨g3, 0 + j, none⟩ = some v := fun j v hv => (cell_keep hN16.chg o1 hn6 (hE5 j v hv))
 have hn6 := q_hn6
 have p_i17_M : ∀ x ∈ [g15], x ∉ M := fun x hx hy => absurd (hM x (hy)) (Nat.not_lt.2 ((hN16.ge1) x hx))
 have e_i17 : ∀ x ∈ [g15], w.heap.size ≤ x := fun x hx => Nat.le_trans hC.size ((hN16.ge1) x hx)
 have hM : MS ([g15] ++ (M)) w14 := (MS.app hN16.ms (hM.chg hN16.chg))
 have hC := hC.trans hN16.chg (Ok.nil _ _)
 have hBg15 : Box w14 g15 (cS_api_Addr (⟨(0 : Int), (List.replicate 16 (0 : Int))⟩ : S_api_Addr)) := hN16.box
 refine stA (l := (cS_api_Addr t13.1)) ha rfl rfl rfl (by kernel_rfl) rfl rfl hBg15 rfl fun a w18 ha hb2 hc19 _ => ?_
 have o1 : Ok [g15] ([g15] ++ (M)) w14.heap.size := (fun _ h => .inl (ml h))
 have o2 : Ok ([g15] ++ (M)) ([g15] ++ (M)) w14.heap.size := (Ok.refl _ _)
 have hG := hG.chg hc19 o1 o2
 have q_hn6 : g3 ∉ [g15] ++ (M) := fun h => (o2 g3 h).elim hn6 (fun h => absurd (lt_cell (hE5 0 _ rfl)) (Nat.not_lt.2 h))
 have hE5 : ∀ j v, (cS_api_Addr a0)[j]? = some v → w18.cell? ⟨g3, 0 + j, none⟩ = some v := fun j v hv => (cell_keep hc19 o1 hn6 (hE5 j v hv))
 have hn6 := q_hn6
 have hM : MS ([g15] ++ (M)) w18 := (hM.chg hc19)
 have hC := hC.trans hc19 (fun x h => .inr (e_i17 x h))
 have hBg15 : Box w18 g15 (cS_api_Addr t13.1) := hb2
 refine seg ha 1 [(1, .int .i64 a1), (2, .string (bstr a2)), (3, .pointer (some ⟨g3, 0, none⟩)), (7, .bool t8), (8, .bool t10), (9, .pointer (some ⟨g15, 0, none⟩)), (10, .int .i64 t13.2)] (by kernel_rfl) fun a ha => ?_
 refine hK11 _ _ ?_; try clear hK11 K11
 refine wp_seq_k fun K20 hK20 => ?_
 refine wp_seq_k fun K21 hK21 => ?_
 refine wp_region_lit ?_
 obtain ⟨s22, H22, H⟩ := bind_some H
 have J22 : ∀ (a : Act) (w22 : World), Has a Tryd.f7.ntmps [(1, .int .i64 a1), (2, .string (bstr a2)), (3, .pointer (some ⟨g3, 0, none⟩)), (7, .bool t8), (37, .bool s22)] → (Box w22 g15 (cS_api_Addr t13.1)) → (∀ j v, (cS_api_Addr a0)[j]? = some v → w22.cell? ⟨g3, 0 + j, none⟩ = some v) → (g3 ∉ ([g15] ++ (M))) → (GF w22 ([g15] ++ (M))) → (Chg [] w w22) → (MS ([g15] ++ (M)) w22) → K21 a w22 := by
  intro a w22 ha hBg15 hE5 hn6 hG hC hM
  refine hK21 _ _ ?_; try clear hK21 K21
  refine cnd ha rfl (fun hc23 => ?_) (fun hc23 => ?_)
  ·have H := ite_t hc23 H
   refine wp_seq_k fun K24 hK24 => ?_
   refine wp_region_lit ?_
   refine seg ha 1 [(6, .bool false)] (by kernel_rfl) fun a ha => ?_
   refine hK24 _ _ ?_; try clear hK24 K24
   refine wp_ret ?_
   try simp only [Exit.then, Exit.inBlock]
   have o1 : Ok [] ([g15] ++ (M)) w22.heap.size := Ok.nil _ _
   have o2 : Ok (M) ([g15] ++ (M)) w22.heap.size := (fun _ h => .inl (mr (h)))
   have hG := hG.chg (Chg.refl [] _) o1 o2
   have hBg15 := hBg15.chg (Chg.refl [] _) (fun h => nomatch h)
   have hM : MS (M) w22 := (fun x h => hM.chg (Chg.refl [] _) x (mr (h)))
   have hC := hC.trans (Chg.refl [] _) (Ok.nil _ _)
   obtain rfl := Option.some.inj H
   refine rt1 ha rfl rfl ?_
   exact ⟨rfl, hC, hM⟩
  ·have H := ite_f hc23 H
   refine wp_skip ?_
   refine hK20 _ _ ?_; try clear hK20 K20
   refine wp_seq_k fun K25 hK25 => ?_
   refine wp_region_lit ?_
   refine ldA (cs := (cS_api_Addr a0)) ha rfl (by kernel_rfl) rfl rfl rfl (cells_sub hE5 (all := (cS_api_Addr a0)) [] [] (by kernel_rfl)) fun a ha => ?_
   refine seg ha 1 [(2, .string (bstr a2)), (3, .pointer (some ⟨g3, 0, none⟩)), (7, .bool t8), (39, .agg (cS_api_Addr a0).toArray), (40, .int .i64 a1)] (by kernel_rfl) fun a ha => ?_
   obtain ⟨t26, H26, H⟩ := bind_some H
   refine cl ha (by rfl) (by kernel_rfl) (by rfl) (by rfl) (by rfl) (addr_Cut.walk w22 _ hM a0 a1 k _ H26) ?_
   rintro _ w26 ⟨rfl, hc26, hMn⟩ a ha
   have o1 : Ok [] ([g15] ++ (M)) w22.heap.size := Ok.nil _ _
   have o2 : Ok ([g15] ++ (M)) ([g15] ++ (M)) w22.heap.size := (Ok.refl _ _)
   have hG := hG.chg hc26 o1 o2
   have hBg15 := hBg15.chg hc26 (fun h => nomatch h)
   have q_hn6 : g3 ∉ [g15] ++ (M) := fun h => (o2 g3 h).elim hn6 (fun h => absurd (lt_cell (hE5 0 _ rfl)) (Nat.not_lt.2 h))
   have hE5 : ∀ j v, (cS_api_Addr a0)[j]? = some v → w26.cell? ⟨g3, 0 + j, none⟩ = some v := fun j v hv => (cell_keep hc26 o1 hn6 (hE5 j v hv))
   have hn6 := q_hn6
   have hM : MS ([g15] ++ (M)) w26 := (hM.chg hc26)
   have hC := hC.trans hc26 (Ok.nil _ _)
   refine seg ha 3 [(2, .string (bstr a2)), (3, .pointer (some ⟨g3, 0, none⟩)), (7, .bool t8), (42, .agg (cS_api_Prefix t26.1).toArray), (43, .int .i64 t26.2)] (by kernel_rfl) fun a ha => ?_
   refine al (cs := (cS_api_Prefix (⟨(⟨(0 : Int), (List.replicate 16 (0 : Int))⟩ : S_api_Addr), (0 : Int)⟩ : S_api_Prefix))) (z := .agg (cS_api_Prefix (⟨(⟨(0 : Int), (List.replicate 16 (0 : Int))⟩ : S_api_Addr), (0 : Int)⟩ : S_api_Prefix)).toArray) ha (fun w => by kernel_rfl) rfl rfl rfl rfl fun a w27 g28 hN29 ha => ?_
   have o1 : Ok [] ([g15] ++ (M)) w26.heap.size := Ok.nil _ _
   have o2 : Ok ([g28] ++ ([g15] ++ (M))) ([g15] ++ (M)) w26.heap.size := (Ok.app (hN29.ok _) (Ok.refl _ _))
   have hG := hG.chg hN29.chg o1 o2
   have hBg15 := hBg15.chg hN29.chg (fun h => nomatch h)
   have q_hn6 : g3 ∉ [g28] ++ ([g15] ++ (M)) := fun h => (o2 g3 h).elim hn6 (fun h => absurd (lt_cell (hE5 0 _ rfl)) (Nat.not_lt.2 h))
   have hE5 : ∀ j v, (cS_api_Addr a0)[j]? = some v → w27.cell? ⟨g3, 0 + j, none⟩ = some v := fun j v hv => (cell_keep hN29.chg o1 hn6 (hE5 j v hv))
   have hn6 := q_hn6
   have p_i30_i17 : ∀ x ∈ [g28], x ∉ ([g15]) := fun x hx hy => absurd (hM x (ml hy)) (Nat.not_lt.2 ((hN29.ge1) x hx))
   have p_i30_M : ∀ x ∈ [g28], x ∉ M := fun x hx hy => absurd (hM x (mr (hy))) (Nat.not_lt.2 ((hN29.ge1) x hx))
   have e_i30 : ∀ x ∈ [g28], w.heap.size ≤ x := fun x hx => Nat.le_trans hC.size ((hN29.ge1) x hx)
   have hM : MS ([g28] ++ ([g15] ++ (M))) w27 := (MS.app hN29.ms (hM.chg hN29.chg))
   have hC := hC.trans hN29.chg (Ok.nil _ _)
   have hBg28 : Box w27 g28 (cS_api_Prefix (⟨(⟨(0 : Int), (List.replicate 16 (0 : Int))⟩ : S_api_Addr), (0 : Int)⟩ : S_api_Prefix)) := hN29.box
   refine stA (l := (cS_api_Prefix t26.1)) ha rfl rfl rfl (by kernel_rfl) rfl rfl hBg28 rfl fun a w31 ha hb2 hc32 _ => ?_
   have o1 : Ok [g28] ([g28] ++ ([g15] ++ (M))) w27.heap.size := (fun _ h => .inl (ml h))
   have o2 : Ok ([g28] ++ ([g15] ++ (M))) ([g28] ++ ([g15] ++ (M))) w27.heap.size := (Ok.refl _ _)
   have hG := hG.chg hc32 o1 o2
   have hBg15 := hBg15.chg hc32 ((fun x (hx : x ∈ [g15]) (hy : x ∈ [g28]) => p_i30_i17 x hy hx) g15 (by simp))
   have q_hn6 : g3 ∉ [g28] ++ ([g15] ++ (M)) := fun h => (o2 g3 h).elim hn6 (fun h => absurd (lt_cell (hE5 0 _ rfl)) (Nat.not_lt.2 h))
   have hE5 : ∀ j v, (cS_api_Addr a0)[j]? = some v → w31.cell? ⟨g3, 0 + j, none⟩ = some v := fun j v hv => (cell_keep hc32 o1 hn6 (hE5 j v hv))
   have hn6 := q_hn6
   have hM : MS ([g28] ++ ([g15] ++ (M))) w31 := (hM.chg hc32)
   have hC := hC.trans hc32 (fun x h => .inr (e_i30 x h))
   have hBg28 : Box w31 g28 (cS_api_Prefix t26.1) := hb2
   refine seg ha 1 [(2, .string (bstr a2)), (3, .pointer (some ⟨g3, 0, none⟩)), (7, .bool t8), (11, .pointer (some ⟨g28, 0, none⟩)), (12, .int .i64 t26.2)] (by kernel_rfl) fun a ha => ?_
   refine hK25 _ _ ?_; try clear hK25 K25
   refine wp_seq_k fun K33 hK33 => ?_
   obtain ⟨s34o, H34, H⟩ := lv_some H
   have J34 : ∀ (s34 : Unit) (a : Act) (w34 : World), s34o = .inr s34 → Has a Tryd.f7.ntmps [(2, .string (bstr a2)), (7, .bool t8)] → (Box w34 g15 (cS_api_Addr t13.1)) → (Box w34 g28 (cS_api_Prefix t26.1)) → (GF w34 ([g28] ++ ([g15] ++ (M)))) → (Chg [] w w34) → (MS ([g28] ++ ([g15] ++ (M))) w34) → K33 a w34 := by
    intro s34 a w34 hs ha hBg15 hBg28 hG hC hM
    subst hs
    refine hK33 _ _ ?_; try clear hK33 K33
    refine wp_seq_k fun K35 hK35 => ?_
    refine wp_region_lit ?_
    refine seg ha 1 [(2, .string (bstr a2)), (7, .bool t8), (66, .string (bstr a2))] (by kernel_rfl) fun a ha => ?_
    obtain ⟨t36, H36, H⟩ := bind_some H
    refine cl ha (by rfl) (by kernel_rfl) (by rfl) (by rfl) (by rfl) (addr_Parse.walk w34 _ hM hG a2 k _ H36) ?_
    rintro _ w36 ⟨rfl, hc36, hMn⟩ a ha
    have o1 : Ok [] ([g28] ++ ([g15] ++ (M))) w34.heap.size := Ok.nil _ _
    have o2 : Ok ([g28] ++ ([g15] ++ (M))) ([g28] ++ ([g15] ++ (M))) w34.heap.size := (Ok.refl _ _)
    have hG := hG.chg hc36 o1 o2
    have hBg15 := hBg15.chg hc36 (fun h => nomatch h)
    have hBg28 := hBg28.chg hc36 (fun h => nomatch h)
    have hM : MS ([g28] ++ ([g15] ++ (M))) w36 := (hM.chg hc36)
    have hC := hC.trans hc36 (Ok.nil _ _)
    refine seg ha 3 [(2, .string (bstr a2)), (7, .bool t8), (68, .agg (cS_api_Addr t36.1).toArray), (69, .int .i64 t36.2)] (by kernel_rfl) fun a ha => ?_
    refine al (cs := (cS_api_Addr (⟨(0 : Int), (List.replicate 16 (0 : Int))⟩ : S_api_Addr))) (z := .agg (cS_api_Addr (⟨(0 : Int), (List.replicate 16 (0 : Int))⟩ : S_api_Addr)).toArray) ha (fun w => by kernel_rfl) rfl rfl rfl rfl fun a w37 g38 hN39 ha => ?_
    have o1 : Ok [] ([g28] ++ ([g15] ++ (M))) w36.heap.size := Ok.nil _ _
    have o2 : Ok ([g38] ++ ([g28] ++ ([g15] ++ (M)))) ([g28] ++ ([g15] ++ (M))) w36.heap.size := (Ok.app (hN39.ok _) (Ok.refl _ _))
    have hG := hG.chg hN39.chg o1 o2
    have hBg15 := hBg15.chg hN39.chg (fun h => nomatch h)
    have hBg28 := hBg28.chg hN39.chg (fun h => nomatch h)
    have p_i40_i30 : ∀ x ∈ [g38], x ∉ ([g28]) := fun x hx hy => absurd (hM x (ml hy)) (Nat.not_lt.2 ((hN39.ge1) x hx))
    have p_i40_i17 : ∀ x ∈ [g38], x ∉ ([g15]) := fun x hx hy => absurd (hM x (mr (ml hy))) (Nat.not_lt.2 ((hN39.ge1) x hx))
    have p_i40_M : ∀ x ∈ [g38], x ∉ M := fun x hx hy => absurd (hM x (mr (mr (hy)))) (Nat.not_lt.2 ((hN39.ge1) x hx))
    have e_i40 : ∀ x ∈ [g38], w.heap.size ≤ x := fun x hx => Nat.le_trans hC.size ((hN39.ge1) x hx)
    have hM : MS ([g38] ++ ([g28] ++ ([g15] ++ (M)))) w37 := (MS.app hN39.ms (hM.chg hN39.chg))
    have hC := hC.trans hN39.chg (Ok.nil _ _)
    have hBg38 : Box w37 g38 (cS_api_Addr (⟨(0 : Int), (List.replicate 16 (0 : Int))⟩ : S_api_Addr)) := hN39.box
    refine stA (l := (cS_api_Addr t36.1)) ha rfl rfl rfl (by kernel_rfl) rfl rfl hBg38 rfl fun a w41 ha hb2 hc42 _ => ?_
    have o1 : Ok [g38] ([g38] ++ ([g28] ++ ([g15] ++ (M)))) w37.heap.size := (fun _ h => .inl (ml h))
    have o2 : Ok ([g38] ++ ([g28] ++ ([g15] ++ (M)))) ([g38] ++ ([g28] ++ ([g15] ++ (M)))) w37.heap.size := (Ok.refl _ _)
    have hG := hG.chg hc42 o1 o2
    have hBg15 := hBg15.chg hc42 ((fun x (hx : x ∈ [g15]) (hy : x ∈ [g38]) => p_i40_i17 x hy hx) g15 (by simp))
    have hBg28 := hBg28.chg hc42 ((fun x (hx : x ∈ [g28]) (hy : x ∈ [g38]) => p_i40_i30 x hy hx) g28 (by simp))
    have hM : MS ([g38] ++ ([g28] ++ ([g15] ++ (M)))) w41 := (hM.chg hc42)
    have hC := hC.trans hc42 (fun x h => .inr (e_i40 x h))
    have hBg38 : Box w41 g38 (cS_api_Addr t36.1) := hb2
    refine seg ha 1 [(2, .string (bstr a2)), (7, .bool t8), (15, .pointer (some ⟨g38, 0, none⟩)), (16, .int .i64 t36.2)] (by kernel_rfl) fun a ha => ?_
    refine hK35 _ _ ?_; try clear hK35 K35
    refine wp_seq_k fun K43 hK43 => ?_
    refine wp_seq_k fun K44 hK44 => ?_
    refine wp_region_lit ?_
    obtain ⟨s45, H45, H⟩ := bind_some H
    have J45 : ∀ (a : Act) (w45 : World), Has a Tryd.f7.ntmps [(2, .string (bstr a2)), (7, .bool t8), (82, .bool s45)] → (Box w45 g15 (cS_api_Addr t13.1)) → (Box w45 g28 (cS_api_Prefix t26.1)) → (Box w45 g38 (cS_api_Addr t36.1)) → (GF w45 ([g38] ++ ([g28] ++ ([g15] ++ (M))))) → (Chg [] w w45) → (MS ([g38] ++ ([g28] ++ ([g15] ++ (M)))) w45) → K44 a w45 := by
     intro a w45 ha hBg15 hBg28 hBg38 hG hC hM
     refine hK44 _ _ ?_; try clear hK44 K44
     refine cnd ha rfl (fun hc46 => ?_) (fun hc46 => ?_)
     ·have H := ite_t hc46 H
      refine wp_seq_k fun K47 hK47 => ?_
      refine wp_region_lit ?_
      refine seg ha 1 [(6, .bool false)] (by kernel_rfl) fun a ha => ?_
      refine hK47 _ _ ?_; try clear hK47 K47
      refine wp_ret ?_
      try simp only [Exit.then, Exit.inBlock]
      have o1 : Ok [] ([g38] ++ ([g28] ++ ([g15] ++ (M)))) w45.heap.size := Ok.nil _ _
      have o2 : Ok (M) ([g38] ++ ([g28] ++ ([g15] ++ (M)))) w45.heap.size := (fun _ h => .inl (mr (mr (mr (h)))))
      have hG := hG.chg (Chg.refl [] _) o1 o2
      have hBg15 := hBg15.chg (Chg.refl [] _) (fun h => nomatch h)
      have hBg28 := hBg28.chg (Chg.refl [] _) (fun h => nomatch h)
      have hBg38 := hBg38.chg (Chg.refl [] _) (fun h => nomatch h)
      have hM : MS (M) w45 := (fun x h => hM.chg (Chg.refl [] _) x (mr (mr (mr (h)))))
      have hC := hC.trans (Chg.refl [] _) (Ok.nil _ _)
      obtain rfl := Option.some.inj H
      refine rt1 ha rfl rfl ?_
      exact ⟨rfl, hC, hM⟩
     ·have H := ite_f hc46 H
      refine wp_skip ?_
      refine hK43 _ _ ?_; try clear hK43 K43
      refine wp_seq_k fun K48 hK48 => ?_
      refine wp_region_lit ?_
      refine seg ha 1 [(2, .string (bstr a2)), (7, .bool t8), (84, .string (bstr a2))] (by kernel_rfl) fun a ha => ?_
      obtain ⟨t49, H49, H⟩ := bind_some H
      refine cl ha (by rfl) (by kernel_rfl) (by rfl) (by rfl) (by rfl) (addr_ParsePrefix.walk w45 _ hM hG a2 k _ H49) ?_
      rintro _ w49 ⟨rfl, hc49, hMn⟩ a ha
      have o1 : Ok [] ([g38] ++ ([g28] ++ ([g15] ++ (M)))) w45.heap.size := Ok.nil _ _
      have o2 : Ok ([g38] ++ ([g28] ++ ([g15] ++ (M)))) ([g38] ++ ([g28] ++ ([g15] ++ (M)))) w45.heap.size := (Ok.refl _ _)
      have hG := hG.chg hc49 o1 o2
      have hBg15 := hBg15.chg hc49 (fun h => nomatch h)
      have hBg28 := hBg28.chg hc49 (fun h => nomatch h)
      have hBg38 := hBg38.chg hc49 (fun h => nomatch h)
      have hM : MS ([g38] ++ ([g28] ++ ([g15] ++ (M)))) w49 := (hM.chg hc49)
      have hC := hC.trans hc49 (Ok.nil _ _)
      refine seg ha 3 [(2, .string (bstr a2)), (7, .bool t8), (86, .agg (cS_api_Prefix t49.1).toArray), (87, .int .i64 t49.2)] (by kernel_rfl) fun a ha => ?_
      refine al (cs := (cS_api_Prefix (⟨(⟨(0 : Int), (List.replicate 16 (0 : Int))⟩ : S_api_Addr), (0 : Int)⟩ : S_api_Prefix))) (z := .agg (cS_api_Prefix (⟨(⟨(0 : Int), (List.replicate 16 (0 : Int))⟩ : S_api_Addr), (0 : Int)⟩ : S_api_Prefix)).toArray) ha (fun w => by kernel_rfl) rfl rfl rfl rfl fun a w50 g51 hN52 ha => ?_
      have o1 : Ok [] ([g38] ++ ([g28] ++ ([g15] ++ (M)))) w49.heap.size := Ok.nil _ _
      have o2 : Ok ([g51] ++ ([g38] ++ ([g28] ++ ([g15] ++ (M))))) ([g38] ++ ([g28] ++ ([g15] ++ (M)))) w49.heap.size := (Ok.app (hN52.ok _) (Ok.refl _ _))
      have hG := hG.chg hN52.chg o1 o2
      have hBg15 := hBg15.chg hN52.chg (fun h => nomatch h)
      have hBg28 := hBg28.chg hN52.chg (fun h => nomatch h)
      have hBg38 := hBg38.chg hN52.chg (fun h => nomatch h)
      have p_i53_i40 : ∀ x ∈ [g51], x ∉ ([g38]) := fun x hx hy => absurd (hM x (ml hy)) (Nat.not_lt.2 ((hN52.ge1) x hx))
      have p_i53_i30 : ∀ x ∈ [g51], x ∉ ([g28]) := fun x hx hy => absurd (hM x (mr (ml hy))) (Nat.not_lt.2 ((hN52.ge1) x hx))
      have p_i53_i17 : ∀ x ∈ [g51], x ∉ ([g15]) := fun x hx hy => absurd (hM x (mr (mr (ml hy)))) (Nat.not_lt.2 ((hN52.ge1) x hx))
      have p_i53_M : ∀ x ∈ [g51], x ∉ M := fun x hx hy => absurd (hM x (mr (mr (mr (hy))))) (Nat.not_lt.2 ((hN52.ge1) x hx))
      have e_i53 : ∀ x ∈ [g51], w.heap.size ≤ x := fun x hx => Nat.le_trans hC.size ((hN52.ge1) x hx)
      have hM : MS ([g51] ++ ([g38] ++ ([g28] ++ ([g15] ++ (M))))) w50 := (MS.app hN52.ms (hM.chg hN52.chg))
      have hC := hC.trans hN52.chg (Ok.nil _ _)
      have hBg51 : Box w50 g51 (cS_api_Prefix (⟨(⟨(0 : Int), (List.replicate 16 (0 : Int))⟩ : S_api_Addr), (0 : Int)⟩ : S_api_Prefix)) := hN52.box
      refine stA (l := (cS_api_Prefix t49.1)) ha rfl rfl rfl (by kernel_rfl) rfl rfl hBg51 rfl fun a w54 ha hb2 hc55 _ => ?_
      have o1 : Ok [g51] ([g51] ++ ([g38] ++ ([g28] ++ ([g15] ++ (M))))) w50.heap.size := (fun _ h => .inl (ml h))
      have o2 : Ok ([g51] ++ ([g38] ++ ([g28] ++ ([g15] ++ (M))))) ([g51] ++ ([g38] ++ ([g28] ++ ([g15] ++ (M))))) w50.heap.size := (Ok.refl _ _)
      have hG := hG.chg hc55 o1 o2
      have hBg15 := hBg15.chg hc55 ((fun x (hx : x ∈ [g15]) (hy : x ∈ [g51]) => p_i53_i17 x hy hx) g15 (by simp))
      have hBg28 := hBg28.chg hc55 ((fun x (hx : x ∈ [g28]) (hy : x ∈ [g51]) => p_i53_i30 x hy hx) g28 (by simp))
      have hBg38 := hBg38.chg hc55 ((fun x (hx : x ∈ [g38]) (hy : x ∈ [g51]) => p_i53_i40 x hy hx) g38 (by simp))
      have hM : MS ([g51] ++ ([g38] ++ ([g28] ++ ([g15] ++ (M))))) w54 := (hM.chg hc55)
      have hC := hC.trans hc55 (fun x h => .inr (e_i53 x h))
      have hBg51 : Box w54 g51 (cS_api_Prefix t49.1) := hb2
      refine seg ha 1 [(2, .string (bstr a2)), (7, .bool t8), (17, .pointer (some ⟨g51, 0, none⟩)), (18, .int .i64 t49.2)] (by kernel_rfl) fun a ha => ?_
      refine hK48 _ _ ?_; try clear hK48 K48
      refine wp_seq_k fun K56 hK56 => ?_
      refine wp_region_lit ?_
      obtain ⟨s57, H57, H⟩ := bind_some H
      have J57 : ∀ (a : Act) (w57 : World), Has a Tryd.f7.ntmps [(6, .bool s57)] → (Box w57 g15 (cS_api_Addr t13.1)) → (Box w57 g28 (cS_api_Prefix t26.1)) → (Box w57 g38 (cS_api_Addr t36.1)) → (Box w57 g51 (cS_api_Prefix t49.1)) → (GF w57 ([g51] ++ ([g38] ++ ([g28] ++ ([g15] ++ (M)))))) → (Chg [] w w57) → (MS ([g51] ++ ([g38] ++ ([g28] ++ ([g15] ++ (M))))) w57) → K56 a w57 := by
       intro a w57 ha hBg15 hBg28 hBg38 hBg51 hG hC hM
       refine hK56 _ _ ?_; try clear hK56 K56
       refine wp_ret ?_
       try simp only [Exit.then, Exit.inBlock]
       have o1 : Ok [] ([g51] ++ ([g38] ++ ([g28] ++ ([g15] ++ (M))))) w57.heap.size := Ok.nil _ _
       have o2 : Ok (M) ([g51] ++ ([g38] ++ ([g28] ++ ([g15] ++ (M))))) w57.heap.size := (fun _ h => .inl (mr (mr (mr (mr (h))))))
       have hG := hG.chg (Chg.refl [] _) o1 o2
       have hBg15 := hBg15.chg (Chg.refl [] _) (fun h => nomatch h)
       have hBg28 := hBg28.chg (Chg.refl [] _) (fun h => nomatch h)
       have hBg38 := hBg38.chg (Chg.refl [] _) (fun h => nomatch h)
       have hBg51 := hBg51.chg (Chg.refl [] _) (fun h => nomatch h)
       have hM : MS (M) w57 := (fun x h => hM.chg (Chg.refl [] _) x (mr (mr (mr (mr (h))))))
       have hC := hC.trans (Chg.refl [] _) (Ok.nil _ _)
       obtain rfl := Option.some.inj H
       refine rt1 ha rfl rfl ?_
       exact ⟨rfl, hC, hM⟩
      have H := H57
      refine seg ha 2 [(89, .bool t8), (2, .string (bstr a2)), (17, .pointer (some ⟨g51, 0, none⟩)), (18, .int .i64 t49.2)] (by kernel_rfl) fun a ha => ?_
      rcases Bool.eq_false_or_eq_true (t8) with hb58 | hb58
      ·have ha := ha.lit hb58
       have H := ite_t hb58 H
       refine sgh ha 3 [2, 2, 2] [(92, .bool (t49.2 != (0 : Int))), (2, .string (bstr a2)), (17, .pointer (some ⟨g51, 0, none⟩)), (89, .bool true)] (by kernel_rfl) fun a ha => ?_
       rcases Bool.eq_false_or_eq_true (t49.2 != (0 : Int)) with hb59 | hb59
       ·have ha := ha.lit hb59
        have H := ite_t hb59 H
        refine sgh ha 7 [1, 1, 1, 1, 5, 3, 0] [(6, .bool true)] (by kernel_rfl) fun a ha => ?_
        obtain rfl := Option.some.inj H
        exact J57 _ _ (ha.sel (by kernel_rfl)) hBg15 hBg28 hBg38 hBg51 hG hC hM
       ·have ha := ha.lit hb59
        have H := ite_f hb59 H
        refine ldA (cs := (cS_api_Prefix t49.1)) ha rfl (by kernel_rfl) rfl rfl rfl (cells_sub (Box.cells hBg51) (all := (cS_api_Prefix t49.1)) [] [] (by kernel_rfl)) fun a ha => ?_
        obtain ⟨t60, H60, H⟩ := bind_some H
        refine cl ha (by rfl) (by kernel_rfl) (by rfl) (by rfl) (by rfl) (addr_PrefixText.walk w54 _ hM hG t49.1 k _ H60) ?_
        rintro _ w60 ⟨rfl, hc60, hMn⟩ a ha
        have o1 : Ok [] ([g51] ++ ([g38] ++ ([g28] ++ ([g15] ++ (M))))) w54.heap.size := Ok.nil _ _
        have o2 : Ok ([g51] ++ ([g38] ++ ([g28] ++ ([g15] ++ (M))))) ([g51] ++ ([g38] ++ ([g28] ++ ([g15] ++ (M))))) w54.heap.size := (Ok.refl _ _)
        have hG := hG.chg hc60 o1 o2
        have hBg15 := hBg15.chg hc60 (fun h => nomatch h)
        have hBg28 := hBg28.chg hc60 (fun h => nomatch h)
        have hBg38 := hBg38.chg hc60 (fun h => nomatch h)
        have hBg51 := hBg51.chg hc60 (fun h => nomatch h)
        have hM : MS ([g51] ++ ([g38] ++ ([g28] ++ ([g15] ++ (M))))) w60 := (hM.chg hc60)
        have hC := hC.trans hc60 (Ok.nil _ _)
        refine sgh ha 5 [2, 2, 6, 3, 0] [(6, .bool ((bstr t60).toList == (bstr a2).toList))] (by kernel_rfl) fun a ha => ?_
        obtain rfl := Option.some.inj H
        exact J57 _ _ (ha.sel (by kernel_rfl)) hBg15 hBg28 hBg38 hBg51 hG hC hM
      ·have ha := ha.lit hb58
       have H := ite_f hb58 H
       refine sgh ha 10 [1, 1, 1, 1, 1, 1, 1, 1, 4, 0] [(6, .bool false)] (by kernel_rfl) fun a ha => ?_
       obtain rfl := Option.some.inj H
       exact J57 _ _ (ha.sel (by kernel_rfl)) hBg15 hBg28 hBg38 hBg51 hG hC hM
    have H := H45
    refine seg ha 3 [(72, .bool (t36.2 == (0 : Int))), (2, .string (bstr a2)), (7, .bool t8), (15, .pointer (some ⟨g38, 0, none⟩))] (by kernel_rfl) fun a ha => ?_
    rcases Bool.eq_false_or_eq_true (t36.2 == (0 : Int)) with hb61 | hb61
    ·have ha := ha.lit hb61
     have H := ite_t hb61 H
     refine ldA (cs := (cS_api_Addr t36.1)) ha rfl (by kernel_rfl) rfl rfl rfl (cells_sub (Box.cells hBg38) (all := (cS_api_Addr t36.1)) [] [] (by kernel_rfl)) fun a ha => ?_
     obtain ⟨t62, H62, H⟩ := bind_some H
     refine cl ha (by rfl) (by kernel_rfl) (by rfl) (by rfl) (by rfl) (addr_Text.walk w41 _ hM hG t36.1 k _ H62) ?_
     rintro _ w62 ⟨rfl, hc62, hMn⟩ a ha
     have o1 : Ok [] ([g38] ++ ([g28] ++ ([g15] ++ (M)))) w41.heap.size := Ok.nil _ _
     have o2 : Ok ([g38] ++ ([g28] ++ ([g15] ++ (M)))) ([g38] ++ ([g28] ++ ([g15] ++ (M)))) w41.heap.size := (Ok.refl _ _)
     have hG := hG.chg hc62 o1 o2
     have hBg15 := hBg15.chg hc62 (fun h => nomatch h)
     have hBg28 := hBg28.chg hc62 (fun h => nomatch h)
     have hBg38 := hBg38.chg hc62 (fun h => nomatch h)
     have hM : MS ([g38] ++ ([g28] ++ ([g15] ++ (M)))) w62 := (hM.chg hc62)
     have hC := hC.trans hc62 (Ok.nil _ _)
     refine sgh ha 3 [2, 2, 2] [(77, .bool (!((bstr t62).toList == (bstr a2).toList))), (2, .string (bstr a2)), (7, .bool t8), (15, .pointer (some ⟨g38, 0, none⟩)), (72, .bool true)] (by kernel_rfl) fun a ha => ?_
     rcases Bool.eq_false_or_eq_true (!((bstr t62).toList == (bstr a2).toList)) with hb63 | hb63
     ·have ha := ha.lit hb63
      have H := ite_t hb63 H
      refine sgh ha 5 [1, 1, 1, 5, 3] [(2, .string (bstr a2)), (7, .bool t8), (82, .bool true)] (by kernel_rfl) fun a ha => ?_
      obtain rfl := Option.some.inj H
      exact J45 _ _ (ha.sel (by kernel_rfl)) hBg15 hBg28 hBg38 hG hC hM
     ·have ha := ha.lit hb63
      have H := ite_f hb63 H
      refine ldA (cs := (cS_api_Addr t36.1)) ha rfl (by kernel_rfl) rfl rfl rfl (cells_sub (Box.cells hBg38) (all := (cS_api_Addr t36.1)) [] [] (by kernel_rfl)) fun a ha => ?_
      obtain ⟨t64, H64, H⟩ := bind_some H
      refine cl ha (by rfl) (by kernel_rfl) (by rfl) (by rfl) (by rfl) (addr_Right.walk w62 _ hM t36.1 k _ H64) ?_
      rintro _ w64 ⟨rfl, hc64, hMn⟩ a ha
      have o1 : Ok [] ([g38] ++ ([g28] ++ ([g15] ++ (M)))) w62.heap.size := Ok.nil _ _
      have o2 : Ok ([g38] ++ ([g28] ++ ([g15] ++ (M)))) ([g38] ++ ([g28] ++ ([g15] ++ (M)))) w62.heap.size := (Ok.refl _ _)
      have hG := hG.chg hc64 o1 o2
      have hBg15 := hBg15.chg hc64 (fun h => nomatch h)
      have hBg28 := hBg28.chg hc64 (fun h => nomatch h)
      have hBg38 := hBg38.chg hc64 (fun h => nomatch h)
      have hM : MS ([g38] ++ ([g28] ++ ([g15] ++ (M)))) w64 := (hM.chg hc64)
      have hC := hC.trans hc64 (Ok.nil _ _)
      refine sgh ha 3 [2, 6, 3] [(2, .string (bstr a2)), (7, .bool t8), (82, .bool (!t64))] (by kernel_rfl) fun a ha => ?_
      obtain rfl := Option.some.inj H
      exact J45 _ _ (ha.sel (by kernel_rfl)) hBg15 hBg28 hBg38 hG hC hM
    ·have ha := ha.lit hb61
     have H := ite_f hb61 H
     refine sgh ha 10 [1, 1, 1, 1, 1, 1, 1, 1, 1, 4] [(2, .string (bstr a2)), (7, .bool t8), (82, .bool false)] (by kernel_rfl) fun a ha => ?_
     obtain rfl := Option.some.inj H
     exact J45 _ _ (ha.sel (by kernel_rfl)) hBg15 hBg28 hBg38 hG hC hM
   have Hc34 := H
   have H := H34
   refine wp_seq_k fun K65 hK65 => ?_
   refine wp_region_lit ?_
   refine seg ha 2 [(2, .string (bstr a2)), (3, .pointer (some ⟨g3, 0, none⟩)), (7, .bool t8), (11, .pointer (some ⟨g28, 0, none⟩)), (45, .bool (t26.2 == (0 : Int)))] (by kernel_rfl) fun a ha => ?_
   refine hK65 _ _ ?_; try clear hK65 K65
   refine cnd ha rfl (fun hc66 => ?_) (fun hc66 => ?_)
   ·have H := ite_t hc66 H
    refine wp_seq_k fun K67 hK67 => ?_
    refine wp_region_lit ?_
    refine ldA (cs := (cS_api_Prefix t26.1)) ha rfl (by kernel_rfl) rfl rfl rfl (cells_sub (Box.cells hBg28) (all := (cS_api_Prefix t26.1)) [] [] (by kernel_rfl)) fun a ha => ?_
    obtain ⟨t68, H68, H⟩ := bind_some H
    refine cl ha (by rfl) (by kernel_rfl) (by rfl) (by rfl) (by rfl) (addr_PrefixText.walk w31 _ hM hG t26.1 k _ H68) ?_
    rintro _ w68 ⟨rfl, hc68, hMn⟩ a ha
    have o1 : Ok [] ([g28] ++ ([g15] ++ (M))) w31.heap.size := Ok.nil _ _
    have o2 : Ok ([g28] ++ ([g15] ++ (M))) ([g28] ++ ([g15] ++ (M))) w31.heap.size := (Ok.refl _ _)
    have hG := hG.chg hc68 o1 o2
    have hBg15 := hBg15.chg hc68 (fun h => nomatch h)
    have hBg28 := hBg28.chg hc68 (fun h => nomatch h)
    have q_hn6 : g3 ∉ [g28] ++ ([g15] ++ (M)) := fun h => (o2 g3 h).elim hn6 (fun h => absurd (lt_cell (hE5 0 _ rfl)) (Nat.not_lt.2 h))
    have hE5 : ∀ j v, (cS_api_Addr a0)[j]? = some v → w68.cell? ⟨g3, 0 + j, none⟩ = some v := fun j v hv => (cell_keep hc68 o1 hn6 (hE5 j v hv))
    have hn6 := q_hn6
    have hM : MS ([g28] ++ ([g15] ++ (M))) w68 := (hM.chg hc68)
    have hC := hC.trans hc68 (Ok.nil _ _)
    obtain ⟨t69, H69, H⟩ := bind_some H
    refine cl ha (by rfl) (by kernel_rfl) (by rfl) (by rfl) (by rfl) (addr_ParsePrefix.walk w68 _ hM hG t68 k _ H69) ?_
    rintro _ w69 ⟨rfl, hc69, hMn⟩ a ha
    have o1 : Ok [] ([g28] ++ ([g15] ++ (M))) w68.heap.size := Ok.nil _ _
    have o2 : Ok ([g28] ++ ([g15] ++ (M))) ([g28] ++ ([g15] ++ (M))) w68.heap.size := (Ok.refl _ _)
    have hG := hG.chg hc69 o1 o2
    have hBg15 := hBg15.chg hc69 (fun h => nomatch h)
    have hBg28 := hBg28.chg hc69 (fun h => nomatch h)
    have q_hn6 : g3 ∉ [g28] ++ ([g15] ++ (M)) := fun h => (o2 g3 h).elim hn6 (fun h => absurd (lt_cell (hE5 0 _ rfl)) (Nat.not_lt.2 h))
    have hE5 : ∀ j v, (cS_api_Addr a0)[j]? = some v → w69.cell? ⟨g3, 0 + j, none⟩ = some v := fun j v hv => (cell_keep hc69 o1 hn6 (hE5 j v hv))
    have hn6 := q_hn6
    have hM : MS ([g28] ++ ([g15] ++ (M))) w69 := (hM.chg hc69)
    have hC := hC.trans hc69 (Ok.nil _ _)
    refine seg ha 3 [(2, .string (bstr a2)), (3, .pointer (some ⟨g3, 0, none⟩)), (7, .bool t8), (11, .pointer (some ⟨g28, 0, none⟩)), (50, .agg (cS_api_Prefix t69.1).toArray), (51, .int .i64 t69.2)] (by kernel_rfl) fun a ha => ?_
    refine al (cs := (cS_api_Prefix (⟨(⟨(0 : Int), (List.replicate 16 (0 : Int))⟩ : S_api_Addr), (0 : Int)⟩ : S_api_Prefix))) (z := .agg (cS_api_Prefix (⟨(⟨(0 : Int), (List.replicate 16 (0 : Int))⟩ : S_api_Addr), (0 : Int)⟩ : S_api_Prefix)).toArray) ha (fun w => by kernel_rfl) rfl rfl rfl rfl fun a w70 g71 hN72 ha => ?_
    have o1 : Ok [] ([g28] ++ ([g15] ++ (M))) w69.heap.size := Ok.nil _ _
    have o2 : Ok ([g71] ++ ([g28] ++ ([g15] ++ (M)))) ([g28] ++ ([g15] ++ (M))) w69.heap.size := (Ok.app (hN72.ok _) (Ok.refl _ _))
    have hG := hG.chg hN72.chg o1 o2
    have hBg15 := hBg15.chg hN72.chg (fun h => nomatch h)
    have hBg28 := hBg28.chg hN72.chg (fun h => nomatch h)
    have q_hn6 : g3 ∉ [g71] ++ ([g28] ++ ([g15] ++ (M))) := fun h => (o2 g3 h).elim hn6 (fun h => absurd (lt_cell (hE5 0 _ rfl)) (Nat.not_lt.2 h))
    have hE5 : ∀ j v, (cS_api_Addr a0)[j]? = some v → w70.cell? ⟨g3, 0 + j, none⟩ = some v := fun j v hv => (cell_keep hN72.chg o1 hn6 (hE5 j v hv))
    have hn6 := q_hn6
    have p_i73_i30 : ∀ x ∈ [g71], x ∉ ([g28]) := fun x hx hy => absurd (hM x (ml hy)) (Nat.not_lt.2 ((hN72.ge1) x hx))
    have p_i73_i17 : ∀ x ∈ [g71], x ∉ ([g15]) := fun x hx hy => absurd (hM x (mr (ml hy))) (Nat.not_lt.2 ((hN72.ge1) x hx))
    have p_i73_M : ∀ x ∈ [g71], x ∉ M := fun x hx hy => absurd (hM x (mr (mr (hy)))) (Nat.not_lt.2 ((hN72.ge1) x hx))
    have e_i73 : ∀ x ∈ [g71], w.heap.size ≤ x := fun x hx => Nat.le_trans hC.size ((hN72.ge1) x hx)
    have hM : MS ([g71] ++ ([g28] ++ ([g15] ++ (M)))) w70 := (MS.app hN72.ms (hM.chg hN72.chg))
    have hC := hC.trans hN72.chg (Ok.nil _ _)
    have hBg71 : Box w70 g71 (cS_api_Prefix (⟨(⟨(0 : Int), (List.replicate 16 (0 : Int))⟩ : S_api_Addr), (0 : Int)⟩ : S_api_Prefix)) := hN72.box
    refine stA (l := (cS_api_Prefix t69.1)) ha rfl rfl rfl (by kernel_rfl) rfl rfl hBg71 rfl fun a w74 ha hb2 hc75 _ => ?_
    have o1 : Ok [g71] ([g71] ++ ([g28] ++ ([g15] ++ (M)))) w70.heap.size := (fun _ h => .inl (ml h))
    have o2 : Ok ([g71] ++ ([g28] ++ ([g15] ++ (M)))) ([g71] ++ ([g28] ++ ([g15] ++ (M)))) w70.heap.size := (Ok.refl _ _)
    have hG := hG.chg hc75 o1 o2
    have hBg15 := hBg15.chg hc75 ((fun x (hx : x ∈ [g15]) (hy : x ∈ [g71]) => p_i73_i17 x hy hx) g15 (by simp))
    have hBg28 := hBg28.chg hc75 ((fun x (hx : x ∈ [g28]) (hy : x ∈ [g71]) => p_i73_i30 x hy hx) g28 (by simp))
    have q_hn6 : g3 ∉ [g71] ++ ([g28] ++ ([g15] ++ (M))) := fun h => (o2 g3 h).elim hn6 (fun h => absurd (lt_cell (hE5 0 _ rfl)) (Nat.not_lt.2 h))
    have hE5 : ∀ j v, (cS_api_Addr a0)[j]? = some v → w74.cell? ⟨g3, 0 + j, none⟩ = some v := fun j v hv => (cell_keep hc75 o1 hn6 (hE5 j v hv))
    have hn6 := q_hn6
    have hM : MS ([g71] ++ ([g28] ++ ([g15] ++ (M)))) w74 := (hM.chg hc75)
    have hC := hC.trans hc75 (fun x h => .inr (e_i73 x h))
    have hBg71 : Box w74 g71 (cS_api_Prefix t69.1) := hb2
    refine seg ha 1 [(2, .string (bstr a2)), (3, .pointer (some ⟨g3, 0, none⟩)), (7, .bool t8), (11, .pointer (some ⟨g28, 0, none⟩)), (13, .pointer (some ⟨g71, 0, none⟩)), (14, .int .i64 t69.2)] (by kernel_rfl) fun a ha => ?_
    refine hK67 _ _ ?_; try clear hK67 K67
    refine wp_seq_k fun K76 hK76 => ?_
    refine wp_region_lit ?_
    obtain ⟨s77, H77, H⟩ := bind_some H
    have J77 : ∀ (a : Act) (w77 : World), Has a Tryd.f7.ntmps [(2, .string (bstr a2)), (7, .bool t8), (64, .bool s77)] → (Box w77 g15 (cS_api_Addr t13.1)) → (Box w77 g28 (cS_api_Prefix t26.1)) → (Box w77 g71 (cS_api_Prefix t69.1)) → (GF w77 ([g71] ++ ([g28] ++ ([g15] ++ (M))))) → (Chg [] w w77) → (MS ([g71] ++ ([g28] ++ ([g15] ++ (M)))) w77) → K76 a w77 := by
     intro a w77 ha hBg15 hBg28 hBg71 hG hC hM
     refine hK76 _ _ ?_; try clear hK76 K76
     refine cnd ha rfl (fun hc78 => ?_) (fun hc78 => ?_)
     ·have H := ite_t hc78 H
      refine wp_seq_k fun K79 hK79 => ?_
      refine wp_region_lit ?_
      refine seg ha 1 [(6, .bool false)] (by kernel_rfl) fun a ha => ?_
      refine hK79 _ _ ?_; try clear hK79 K79
      refine wp_ret ?_
      obtain rfl := Option.some.inj H
      have H := Hc34
      try simp only [Exit.then, Exit.inBlock]
      have o1 : Ok [] ([g71] ++ ([g28] ++ ([g15] ++ (M)))) w77.heap.size := Ok.nil _ _
      have o2 : Ok (M) ([g71] ++ ([g28] ++ ([g15] ++ (M)))) w77.heap.size := (fun _ h => .inl (mr (mr (mr (h)))))
      have hG := hG.chg (Chg.refl [] _) o1 o2
      have hBg15 := hBg15.chg (Chg.refl [] _) (fun h => nomatch h)
      have hBg28 := hBg28.chg (Chg.refl [] _) (fun h => nomatch h)
      have hBg71 := hBg71.chg (Chg.refl [] _) (fun h => nomatch h)
      have hM : MS (M) w77 := (fun x h => hM.chg (Chg.refl [] _) x (mr (mr (mr (h)))))
      have hC := hC.trans (Chg.refl [] _) (Ok.nil _ _)
      obtain rfl := Option.some.inj H
      refine rt1 ha rfl rfl ?_
      exact ⟨rfl, hC, hM⟩
     ·have H := ite_f hc78 H
      refine wp_skip ?_
      obtain rfl := Option.some.inj H
      have o1 : Ok [] ([g71] ++ ([g28] ++ ([g15] ++ (M)))) w77.heap.size := Ok.nil _ _
      have o2 : Ok ([g28] ++ ([g15] ++ (M))) ([g71] ++ ([g28] ++ ([g15] ++ (M)))) w77.heap.size := (fun _ h => .inl (mr (h)))
      have hG := hG.chg (Chg.refl [] _) o1 o2
      have hBg15 := hBg15.chg (Chg.refl [] _) (fun h => nomatch h)
      have hBg28 := hBg28.chg (Chg.refl [] _) (fun h => nomatch h)
      have hBg71 := hBg71.chg (Chg.refl [] _) (fun h => nomatch h)
      have hM : MS ([g28] ++ ([g15] ++ (M))) w77 := (fun x h => hM.chg (Chg.refl [] _) x (mr (h)))
      have hC := hC.trans (Chg.refl [] _) (Ok.nil _ _)
      exact J34 _ _ _ rfl (ha.sel (by kernel_rfl)) hBg15 hBg28 hG hC hM
    have H := H77
    refine seg ha 3 [(54, .bool (t69.2 != (0 : Int))), (2, .string (bstr a2)), (3, .pointer (some ⟨g3, 0, none⟩)), (7, .bool t8), (11, .pointer (some ⟨g28, 0, none⟩)), (13, .pointer (some ⟨g71, 0, none⟩))] (by kernel_rfl) fun a ha => ?_
    rcases Bool.eq_false_or_eq_true (t69.2 != (0 : Int)) with hb80 | hb80
    ·have ha := ha.lit hb80
     have H := ite_t hb80 H
     refine sgh ha 10 [1, 1, 1, 3, 0, 1, 1, 1, 1, 3] [(2, .string (bstr a2)), (7, .bool t8), (64, .bool true)] (by kernel_rfl) fun a ha => ?_
     obtain rfl := Option.some.inj H
     exact J77 _ _ (ha.sel (by kernel_rfl)) hBg15 hBg28 hBg71 hG hC hM
    ·have ha := ha.lit hb80
     have H := ite_f hb80 H
     refine ldA (cs := (cS_api_Prefix t69.1)) ha rfl (by kernel_rfl) rfl rfl rfl (cells_sub (Box.cells hBg71) (all := (cS_api_Prefix t69.1)) [] [] (by kernel_rfl)) fun a ha => ?_
     refine ldA (cs := (cS_api_Prefix t26.1)) ha rfl (by kernel_rfl) rfl rfl rfl (cells_sub (Box.cells hBg28) (all := (cS_api_Prefix t26.1)) [] [] (by kernel_rfl)) fun a ha => ?_
     refine hop (v := .bool (!(((t69.1.Addr.Size == t26.1.Addr.Size) && ((eqA 16 t69.1.Addr.B t26.1.Addr.B) && true)) && ((t69.1.Bits == t26.1.Bits) && true)))) (w' := w74) ha rfl rfl rfl (nes_run (r := (((t69.1.Addr.Size == t26.1.Addr.Size) && ((eqA 16 t69.1.Addr.B t26.1.Addr.B) && true)) && ((t69.1.Bits == t26.1.Bits) && true))) (m := 9) ha rfl rfl (by kernel_rfl) rfl (by kernel_rfl) _) fun a ha => ?_
     refine sgh ha 2 [4, 0] [(59, .bool (!(((t69.1.Addr.Size == t26.1.Addr.Size) && ((eqA 16 t69.1.Addr.B t26.1.Addr.B) && true)) && ((t69.1.Bits == t26.1.Bits) && true)))), (2, .string (bstr a2)), (3, .pointer (some ⟨g3, 0, none⟩)), (7, .bool t8), (11, .pointer (some ⟨g28, 0, none⟩))] (by kernel_rfl) fun a ha => ?_
     rcases Bool.eq_false_or_eq_true (!(((t69.1.Addr.Size == t26.1.Addr.Size) && ((eqA 16 t69.1.Addr.B t26.1.Addr.B) && true)) && ((t69.1.Bits == t26.1.Bits) && true))) with hb81 | hb81
     ·have ha := ha.lit hb81
      have H := ite_t hb81 H
      refine sgh ha 5 [1, 1, 1, 1, 3] [(2, .string (bstr a2)), (7, .bool t8), (64, .bool true)] (by kernel_rfl) fun a ha => ?_
      obtain rfl := Option.some.inj H
      exact J77 _ _ (ha.sel (by kernel_rfl)) hBg15 hBg28 hBg71 hG hC hM
     ·have ha := ha.lit hb81
      have H := ite_f hb81 H
      refine ldA (cs := (cS_api_Prefix t26.1)) ha rfl (by kernel_rfl) rfl rfl rfl (cells_sub (Box.cells hBg28) (all := (cS_api_Prefix t26.1)) [] [] (by kernel_rfl)) fun a ha => ?_
      refine ldA (cs := (cS_api_Addr a0)) ha rfl (by kernel_rfl) rfl rfl rfl (cells_sub hE5 (all := (cS_api_Addr a0)) [] [] (by kernel_rfl)) fun a ha => ?_
      obtain ⟨t82, H82, H⟩ := bind_some H
      refine cl ha (by rfl) (by kernel_rfl) (by rfl) (by rfl) (by rfl) (addr_Has.walk w74 _ hM t26.1 a0 k _ H82) ?_
      rintro _ w82 ⟨rfl, hc82, hMn⟩ a ha
      have o1 : Ok [] ([g71] ++ ([g28] ++ ([g15] ++ (M)))) w74.heap.size := Ok.nil _ _
      have o2 : Ok ([g71] ++ ([g28] ++ ([g15] ++ (M)))) ([g71] ++ ([g28] ++ ([g15] ++ (M)))) w74.heap.size := (Ok.refl _ _)
      have hG := hG.chg hc82 o1 o2
      have hBg15 := hBg15.chg hc82 (fun h => nomatch h)
      have hBg28 := hBg28.chg hc82 (fun h => nomatch h)
      have hBg71 := hBg71.chg hc82 (fun h => nomatch h)
      have hM : MS ([g71] ++ ([g28] ++ ([g15] ++ (M)))) w82 := (hM.chg hc82)
      have hC := hC.trans hc82 (Ok.nil _ _)
      refine sgh ha 2 [2, 4] [(2, .string (bstr a2)), (7, .bool t8), (64, .bool (!t82))] (by kernel_rfl) fun a ha => ?_
      obtain rfl := Option.some.inj H
      exact J77 _ _ (ha.sel (by kernel_rfl)) hBg15 hBg28 hBg71 hG hC hM
   ·have H := ite_f hc66 H
    refine wp_skip ?_
    obtain rfl := Option.some.inj H
    exact J34 _ _ _ rfl (ha.sel (by kernel_rfl)) hBg15 hBg28 hG hC hM
 have H := H22
 refine seg ha 2 [(29, .bool t10), (1, .int .i64 a1), (2, .string (bstr a2)), (3, .pointer (some ⟨g3, 0, none⟩)), (7, .bool t8), (9, .pointer (some ⟨g15, 0, none⟩)), (10, .int .i64 t13.2)] (by kernel_rfl) fun a ha => ?_
 rcases Bool.eq_false_or_eq_true (t10) with hb83 | hb83
 ·have ha := ha.lit hb83
  have H := ite_t hb83 H
  refine sgh ha 3 [2, 2, 2] [(32, .bool (t13.2 != (0 : Int))), (1, .int .i64 a1), (2, .string (bstr a2)), (3, .pointer (some ⟨g3, 0, none⟩)), (7, .bool t8), (9, .pointer (some ⟨g15, 0, none⟩)), (29, .bool true)] (by kernel_rfl) fun a ha => ?_
  rcases Bool.eq_false_or_eq_true (t13.2 != (0 : Int)) with hb84 | hb84
  ·have ha := ha.lit hb84
   have H := ite_t hb84 H
   refine sgh ha 5 [1, 1, 1, 5, 3] [(1, .int .i64 a1), (2, .string (bstr a2)), (3, .pointer (some ⟨g3, 0, none⟩)), (7, .bool t8), (37, .bool true)] (by kernel_rfl) fun a ha => ?_
   obtain rfl := Option.some.inj H
   exact J22 _ _ (ha.sel (by kernel_rfl)) hBg15 hE5 hn6 hG hC hM
  ·have ha := ha.lit hb84
   have H := ite_f hb84 H
   refine ldA (cs := (cS_api_Addr t13.1)) ha rfl (by kernel_rfl) rfl rfl rfl (cells_sub (Box.cells hBg15) (all := (cS_api_Addr t13.1)) [] [] (by kernel_rfl)) fun a ha => ?_
   refine ldA (cs := (cS_api_Addr a0)) ha rfl (by kernel_rfl) rfl rfl rfl (cells_sub hE5 (all := (cS_api_Addr a0)) [] [] (by kernel_rfl)) fun a ha => ?_
   refine hop (v := .bool (!((t13.1.Size == a0.Size) && ((eqA 16 t13.1.B a0.B) && true)))) (w' := w18) ha rfl rfl rfl (nes_run (r := ((t13.1.Size == a0.Size) && ((eqA 16 t13.1.B a0.B) && true))) (m := 9) ha rfl rfl (by kernel_rfl) rfl (by kernel_rfl) _) fun a ha => ?_
   refine sgh ha 2 [6, 3] [(1, .int .i64 a1), (2, .string (bstr a2)), (3, .pointer (some ⟨g3, 0, none⟩)), (7, .bool t8), (37, .bool (!((t13.1.Size == a0.Size) && ((eqA 16 t13.1.B a0.B) && true))))] (by kernel_rfl) fun a ha => ?_
   obtain rfl := Option.some.inj H
   exact J22 _ _ (ha.sel (by kernel_rfl)) hBg15 hE5 hn6 hG hC hM
 ·have ha := ha.lit hb83
  have H := ite_f hb83 H
  refine sgh ha 8 [1, 1, 1, 1, 1, 1, 1, 4] [(1, .int .i64 a1), (2, .string (bstr a2)), (3, .pointer (some ⟨g3, 0, none⟩)), (7, .bool t8), (37, .bool false)] (by kernel_rfl) fun a ha => ?_
  obtain rfl := Option.some.inj H
  exact J22 _ _ (ha.sel (by kernel_rfl)) hBg15 hE5 hn6 hG hC hM
end Go.E
