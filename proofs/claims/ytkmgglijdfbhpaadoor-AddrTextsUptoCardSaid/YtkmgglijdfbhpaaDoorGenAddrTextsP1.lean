/- What the functions that the law reaches compute, and the walks that show it. -/
import Derived.Test.YtkmgglijdfbhpaaDoorEngU
import Derived.Test.YtkmgglijdfbhpaaDoorShelf
import Derived.Test.YtkmgglijdfbhpaaDoorProg
import Derived.Test.YtkmgglijdfbhpaaDoorGenAddrTextsP0
set_option linter.unusedVariables false
set_option linter.unusedSimpArgs false
namespace Go.E
open Go.RowKit Go.Proofs
def addr_written.l0 (k : Nat) (a0 : List Int) : Nat → (List (List UInt8)) → Int → Option (List (List UInt8))
  | 0, _, _ => none
  | kk + 1, x8, x9 => (if (decide (x9 < (a0.length : Int))) = true then (if 0 ≤ x9 ∧ x9 < (a0.length : Int) then (strconv_FormatInt_83.f k (rd a0 x9) (16 : Int)).bind fun t26 => (if (x8.length + ([t26] : List (List UInt8)).length) * 16 ≤ 140737488355328 then addr_written.l0 k a0 kk (x8 ++ ([t26] : List (List UInt8))) (IntKind.i64.wrap (x9 + (1 : Int))) else none) else none) else some (x8 : List (List UInt8)))
def addr_written.f (k : Nat) (a0 : List Int) : Option (List UInt8) := (addr_written.l0 k a0 k ([] : List (List UInt8)) (0 : Int)).bind fun s6 => (strings_Join.f s6 ([58] : List UInt8)).bind fun t12 => some ((t12 : List UInt8))
set_option maxRecDepth 100000 in
theorem addr_written.walk (w : World) (M : List Nat) (hM : MS M w) (hG : GF w M) (a0 : List Int) (ao1 : Option Addr) (cap1 : Nat) (f1 : RSl (rInt .i64) 3 w M ao1 cap1 a0) (k : Nat) (r : List UInt8) (H : addr_written.f k a0 = some r) :
    To Tryd.prog 67 [.slice ao1 a0.length cap1] w fun v w' => v = .string (bstr r) ∧ Chg [] w w' ∧ MS (M) w' := by
 unfold addr_written.f at H
 refine ent Tryd.func67 rfl [(0, .slice ao1 a0.length cap1)] rfl (by rfl) fun a ha => ?_
 have hC : Chg [] w w := Chg.refl _ _
 refine wp_seq_k fun K2 hK2 => ?_
 refine wp_region_lit ?_
 refine seg ha 1 [(0, .slice ao1 a0.length cap1)] (by kernel_rfl) fun a ha => ?_
 refine hK2 _ _ ?_; try clear hK2 K2
 refine wp_seq_k fun K3 hK3 => ?_
 refine wp_region_lit ?_
 refine seg ha 1 [(0, .slice ao1 a0.length cap1), (3, .slice none 0 0)] (by kernel_rfl) fun a ha => ?_
 refine hK3 _ _ ?_; try clear hK3 K3
 refine wp_seq_k fun K4 hK4 => ?_
 refine wp_seq_k fun K5 hK5 => ?_
 refine wp_region_lit ?_
 refine seg ha 3 [(3, .slice none 0 0), (6, .slice ao1 a0.length cap1), (7, .int .i64 (a0.length : Int)), (8, .int .i64 (0 : Int))] (by kernel_rfl) fun a ha => ?_
 refine hK5 _ _ ?_; try clear hK5 K5
 refine wp_block ?_
 obtain ⟨s6, H6, H⟩ := bind_some H
 have J6 : ∀ (a : Act) (wx6 : World) (ao10 : Option Addr) (cap10 : Nat), Has a Tryd.f67.ntmps [(3, .slice ao10 s6.length cap10)] → (Own rStr 9 wx6 (blkL ao10 ++ (M)) ao10 cap10 s6) → (∀ x ∈ blkL ao10, w.heap.size ≤ x) → (∀ x ∈ blkL ao10, x ∉ M) → (GF wx6 (blkL ao10 ++ (M))) → (Chg [] w wx6) → (MS (blkL ao10 ++ (M)) wx6) → K4 a wx6 := by
  intro a wx6 ao10 cap10 ha f10 e_i10 p_i10_M hG hC hM
  refine hK4 _ _ ?_; try clear hK4 K4
  refine wp_seq_k fun K11 hK11 => ?_
  refine wp_region_lit ?_
  refine seg ha 1 [(18, .slice ao10 s6.length cap10)] (by kernel_rfl) fun a ha => ?_
  have hML : MS (M) wx6 := MS.rest hM (fun _ h => mr (h))
  have oL : Ok (M) (blkL ao10 ++ (M)) wx6.heap.size := (fun _ h => .inl (mr (h)))
  obtain ⟨t12, H12, H⟩ := bind_some H
  refine cl ha (by rfl) (by kernel_rfl) (by rfl) (by rfl) (by rfl) (strings_Join.walk wx6 _ hML s6 ao10 cap10 (Own.toRSl (M' := M) f10 oL (fun x hx hm => p_i10_M x hx hm)) ([58] : List UInt8) _ H12) ?_
  rintro _ w12 ⟨rfl, hc12, hMn⟩ a ha
  have o1 : Ok [] (blkL ao10 ++ (M)) wx6.heap.size := Ok.nil _ _
  have o2 : Ok (blkL ao10 ++ (M)) (blkL ao10 ++ (M)) wx6.heap.size := (Ok.refl _ _)
  have hG := hG.chg hc12 o1 o2
  have f10 := f10.chg hc12 o1 o2 (fun _ _ h => nomatch h) (fun _ h => ml h)
  have hM : MS (blkL ao10 ++ (M)) w12 := (hM.chg hc12)
  have hC := hC.trans hc12 (Ok.nil _ _)
  refine seg ha 1 [(2, .string (bstr t12))] (by kernel_rfl) fun a ha => ?_
  refine hK11 _ _ ?_; try clear hK11 K11
  refine wp_ret ?_
  try simp only [Exit.then, Exit.inBlock]
  have o1 : Ok [] (blkL ao10 ++ (M)) w12.heap.size := Ok.nil _ _
  have o2 : Ok (M) (blkL ao10 ++ (M)) w12.heap.size := (fun _ h => .inl (mr (h)))
  have hG := hG.chg (Chg.refl [] _) o1 o2
  have hM : MS (M) w12 := (fun x h => hM.chg (Chg.refl [] _) x (mr (h)))
  have hC := hC.trans (Chg.refl [] _) (Ok.nil _ _)
  obtain rfl := Option.some.inj H
  refine rt1 ha rfl rfl ?_
  exact ⟨rfl, hC, hM⟩
 have Hc6 := H
 have H := H6
 refine wp_loop_ghost (fun kk a w6 => ∃ (x8 : List (List UInt8)) (x9 : Int) (ao7 : Option Addr) (cap7 : Nat), addr_written.l0 k a0 kk x8 x9 = some s6 ∧ Has a Tryd.f67.ntmps [(3, .slice ao7 x8.length cap7), (6, .slice ao1 a0.length cap1), (7, .int .i64 (a0.length : Int)), (8, .int .i64 x9)] ∧ (Own rStr 9 w6 (blkL ao7 ++ (M)) ao7 cap7 x8) ∧ (RSl (rInt .i64) 3 w6 (blkL ao7 ++ (M)) ao1 cap1 a0) ∧ (∀ x ∈ blkL ao7, w.heap.size ≤ x) ∧ (∀ x ∈ blkL ao7, x ∉ M) ∧ (GF w6 (blkL ao7 ++ (M))) ∧ (Chg [] w w6) ∧ (MS (blkL ao7 ++ (M)) w6)) k ?_ ?_
 ·skip
  have o1 : Ok [] (M) w.heap.size := Ok.nil _ _
  have o2 : Ok (blkL none ++ (M)) (M) w.heap.size := (Ok.app (fun _ h => nomatch h) (Ok.refl _ _))
  have hG := hG.chg (Chg.refl [] _) o1 o2
  have f1 := f1.chg (Chg.refl [] _) o1 o2
  have p_z13_M : ∀ x ∈ blkL none, x ∉ M := fun x hx hy => absurd (hM x (hy)) (Nat.not_lt.2 ((fun _ h => nomatch h) x hx))
  have e_z13 : ∀ x ∈ blkL none, w.heap.size ≤ x := fun x hx => Nat.le_trans hC.size ((fun _ h => nomatch h) x hx)
  have hM : MS (blkL none ++ (M)) w := (MS.app (fun _ h => nomatch h) (hM.chg (Chg.refl [] _)))
  have hC := hC.trans (Chg.refl [] _) (Ok.nil _ _)
  exact ⟨([] : List (List UInt8)), (0 : Int), none, 0, H, (ha.sel (by kernel_rfl)), Own.nil, f1, e_z13, p_z13_M, hG, hC, hM⟩
 ·rintro kk a w6 ⟨x8, x9, ao7, cap7, H, ha, f7, f1, e_i7, p_i7_M, hG, hC, hM⟩
  obtain _ | kk := kk
  ·exact nomatch (show none = some _ from H)
  rw [addr_written.l0] at H
  refine wp_seq_k fun K14 hK14 => ?_
  refine wp_region_lit ?_
  refine seg ha 1 [(3, .slice ao7 x8.length cap7), (6, .slice ao1 a0.length cap1), (7, .int .i64 (a0.length : Int)), (8, .int .i64 x9), (9, .bool (decide (x9 < (a0.length : Int))))] (by kernel_rfl) fun a ha => ?_
  refine hK14 _ _ ?_; try clear hK14 K14
  refine wp_seq_k fun K15 hK15 => ?_
  refine cnd ha rfl (fun hc16 => ?_) (fun hc16 => ?_)
  ·have H := ite_t hc16 H
   refine wp_skip ?_
   refine hK15 _ _ ?_; try clear hK15 K15
   refine wp_seq_k fun K17 hK17 => ?_
   refine wp_block ?_
   refine wp_seq_k fun K18 hK18 => ?_
   refine wp_region_lit ?_
   obtain ⟨⟨hx19, hx19'⟩, H⟩ := ite_some H
   refine ix (r := (rInt .i64)) ha (by kernel_rfl) (by kernel_rfl) rfl rfl rfl rfl rfl f1 hx19 hx19' fun a ge20 oe21 cs22 hn25 hR23 hE24 ha => ?_
   rw [rd_get] at hR23
   obtain rfl := hR23
   have hE24 : ∀ j v, ([.int .i64 (rd a0 x9)] : List Value)[j]? = some v → w6.cell? ⟨ge20, oe21 + j, none⟩ = some v := hE24
   refine ld ha rfl (by kernel_rfl) rfl rfl rfl (hE24 0 (.int .i64 (rd a0 x9)) (by kernel_rfl)) fun a ha => ?_
   refine seg ha 1 [(3, .slice ao7 x8.length cap7), (5, .int .i64 (rd a0 x9)), (6, .slice ao1 a0.length cap1), (7, .int .i64 (a0.length : Int)), (8, .int .i64 x9)] (by kernel_rfl) fun a ha => ?_
   refine hK18 _ _ ?_; try clear hK18 K18
   refine wp_region_lit ?_
   refine seg ha 2 [(6, .slice ao1 a0.length cap1), (7, .int .i64 (a0.length : Int)), (8, .int .i64 x9), (12, .slice ao7 x8.length cap7), (13, .int .i64 (rd a0 x9))] (by kernel_rfl) fun a ha => ?_
   obtain ⟨t26, H26, H⟩ := bind_some H
   refine cl ha (by rfl) (by kernel_rfl) (by rfl) (by rfl) (by rfl) (strconv_FormatInt_83.walk w6 _ hM hG (rd a0 x9) (16 : Int) k _ H26) ?_
   rintro _ w26 ⟨rfl, hc26, hMn⟩ a ha
   have o1 : Ok [] (blkL ao7 ++ (M)) w6.heap.size := Ok.nil _ _
   have o2 : Ok (blkL ao7 ++ (M)) (blkL ao7 ++ (M)) w6.heap.size := (Ok.refl _ _)
   have hG := hG.chg hc26 o1 o2
   have f1 := f1.chg hc26 o1 o2
   have f7 := f7.chg hc26 o1 o2 (fun _ _ h => nomatch h) (fun _ h => ml h)
   have hM : MS (blkL ao7 ++ (M)) w26 := (hM.chg hc26)
   have hC := hC.trans hc26 (Ok.nil _ _)
   refine bsl (vals := ([.string (bstr t26)] : List Value)) (T := 9) ha rfl (([.string (bstr t26)] : List Value) ++ ([] : List Value)) (fun w => by kernel_rfl) rfl rfl rfl fun a w27 g28 hN29 ha => ?_
   have o1 : Ok [] (blkL ao7 ++ (M)) w26.heap.size := Ok.nil _ _
   have o2 : Ok ([g28] ++ (blkL ao7 ++ (M))) (blkL ao7 ++ (M)) w26.heap.size := (Ok.app (hN29.ok _) (Ok.refl _ _))
   have hG := hG.chg hN29.chg o1 o2
   have f1 := f1.chg hN29.chg o1 o2
   have f7 := f7.chg hN29.chg o1 o2 (fun _ _ h => nomatch h) (fun _ h => mr (ml h))
   have p_i30_i7 : ∀ x ∈ [g28], x ∉ (blkL ao7) := fun x hx hy => absurd (hM x (ml hy)) (Nat.not_lt.2 ((hN29.ge1) x hx))
   have p_i30_M : ∀ x ∈ [g28], x ∉ M := fun x hx hy => absurd (hM x (mr (hy))) (Nat.not_lt.2 ((hN29.ge1) x hx))
   have e_i30 : ∀ x ∈ [g28], w.heap.size ≤ x := fun x hx => Nat.le_trans hC.size ((hN29.ge1) x hx)
   have hM : MS ([g28] ++ (blkL ao7 ++ (M))) w27 := (MS.app hN29.ms (hM.chg hN29.chg))
   have hC := hC.trans hN29.chg (Ok.nil _ _)
   have f31 : Own rStr 9 w27 ([g28] ++ (blkL ao7 ++ (M))) (some ⟨g28, 0, none⟩) 1 ([t26] : List (List UInt8)) := hN29.own ⟨([.string (bstr t26)] : List Value), _, rfl, rfl, rfl⟩ (Nat.le_of_ble_eq_true rfl)
   obtain ⟨hx32, H⟩ := ite_some H
   refine app (r := rStr) (xs := x8) (ys := ([t26] : List (List UInt8))) ha (ElemT.mk' (bytes := 16) (by kernel_rfl)) rfl rfl rfl rfl rfl f7 f31.src hx32 (by decide) fun a w33 ao34 cap34 hO34 hc34 hk34 hl34 ha => ?_
   have o1 : Ok (blkL ao7) ([g28] ++ (blkL ao7 ++ (M))) w27.heap.size := (fun _ h => .inl (mr (ml h)))
   have o2 : Ok (blkL ao34 ++ ([g28] ++ (M))) ([g28] ++ (blkL ao7 ++ (M))) w27.heap.size := (Ok.app (Ok.to hk34 (fun _ h => mr (ml h))) (Ok.app (fun _ h => .inl (ml h)) (fun _ h => .inl (mr (mr (h))))))
   have hG := hG.chg hc34 o1 o2
   have f1 := f1.chg hc34 o1 o2
   have f31 := f31.chg hc34 o1 o2 p_i30_i7 (fun _ h => mr (ml h))
   have p_i34_i30 : ∀ x ∈ blkL ao34, x ∉ ([g28]) := fun x hx hy => (hk34 x hx).elim (fun h => (fun x hx hy => p_i30_i7 x hy hx) x h hy) (fun h => absurd (hM x (ml hy)) (Nat.not_lt.2 h))
   have p_i34_M : ∀ x ∈ blkL ao34, x ∉ M := fun x hx hy => (hk34 x hx).elim (fun h => p_i7_M x h hy) (fun h => absurd (hM x (mr (mr (hy)))) (Nat.not_lt.2 h))
   have e_i34 : ∀ x ∈ blkL ao34, w.heap.size ≤ x := fun x hx => (hk34 x hx).elim (e_i7 x) (Nat.le_trans hC.size)
   have hM : MS (blkL ao34 ++ ([g28] ++ (M))) w33 := (MS.app hl34 (MS.app (fun x h => hM.chg hc34 x (ml h)) (fun x h => hM.chg hc34 x (mr (mr (h))))))
   have hC := hC.trans hc34 (fun x h => .inr (e_i7 x h))
   have f34 := hO34.chg (M' := blkL ao34 ++ ([g28] ++ (M))) (Chg.refl [] _) (Ok.nil _ _) (Ok.app (fun _ h => .inl (ml h)) (Ok.to (Ok.app (fun _ h => .inl (ml h)) (fun _ h => .inl (mr (mr (h))))) (fun _ h => mr h))) (fun _ _ h => nomatch h) (fun _ h => ml h)
   refine seg ha 1 [(3, .slice ao34 (x8 ++ ([t26] : List (List UInt8))).length cap34), (6, .slice ao1 a0.length cap1), (7, .int .i64 (a0.length : Int)), (8, .int .i64 x9)] (by kernel_rfl) fun a ha => ?_
   refine hK17 _ _ ?_; try clear hK17 K17
   refine wp_region_lit ?_
   refine seg ha 2 [(3, .slice ao34 (x8 ++ ([t26] : List (List UInt8))).length cap34), (6, .slice ao1 a0.length cap1), (7, .int .i64 (a0.length : Int)), (8, .int .i64 (IntKind.i64.wrap (x9 + (1 : Int))))] (by kernel_rfl) fun a ha => ?_
   have o1 : Ok [] (blkL ao34 ++ ([g28] ++ (M))) w33.heap.size := Ok.nil _ _
   have o2 : Ok (blkL ao34 ++ (M)) (blkL ao34 ++ ([g28] ++ (M))) w33.heap.size := (Ok.app (fun _ h => .inl (ml h)) (fun _ h => .inl (mr (mr (h)))))
   have hG := hG.chg (Chg.refl [] _) o1 o2
   have f1 := f1.chg (Chg.refl [] _) o1 o2
   have f34 := f34.chg (Chg.refl [] _) o1 o2 (fun _ _ h => nomatch h) (fun _ h => ml h)
   have hM : MS (blkL ao34 ++ (M)) w33 := (MS.app (fun x h => hM.chg (Chg.refl [] _) x (ml h)) (fun x h => hM.chg (Chg.refl [] _) x (mr (mr (h)))))
   have hC := hC.trans (Chg.refl [] _) (Ok.nil _ _)
   exact ⟨kk, Nat.lt_succ_self _, ⟨(x8 ++ ([t26] : List (List UInt8))), IntKind.i64.wrap (x9 + (1 : Int)), ao34, cap34, H, (ha.sel (by kernel_rfl)), f34, f1, e_i34, p_i34_M, hG, hC, hM⟩⟩
  ·have H := ite_f hc16 H
   refine wp_exit ?_
   simp only [Exit.then, Exit.inBlock, ↓reduceIte, Nat.reduceEqDiff]
   obtain rfl := Option.some.inj H
   exact J6 _ _ ao7 cap7 (ha.sel (by kernel_rfl)) f7 e_i7 p_i7_M hG hC hM
def addr_text6.f (k : Nat) (a0 : S_api_Addr) : Option (List UInt8) := (addr_numbers.f k a0).bind fun t8 => (addr_gap.f k t8).bind fun t16 => (if (decide (t16.2 < (2 : Int))) = true then (addr_written.f k (arL 8 t8)).bind fun t22 => some ((t22 : List UInt8)) else (if 0 ≤ (0 : Int) ∧ (0 : Int) ≤ t16.1 ∧ t16.1 ≤ (8 : Int) then (addr_written.f k (((arL 8 t8).take (Int.toNat t16.1)).drop (Int.toNat (0 : Int)))).bind fun t26 => (if (t26 ++ ([58, 58] : List UInt8)).length ≤ 9223372036854775807 then (if 0 ≤ (IntKind.i64.wrap (t16.1 + t16.2)) ∧ (IntKind.i64.wrap (t16.1 + t16.2)) ≤ (8 : Int) ∧ (8 : Int) ≤ (8 : Int) then (addr_written.f k (((arL 8 t8).take (Int.toNat (8 : Int))).drop (Int.toNat (IntKind.i64.wrap (t16.1 + t16.2))))).bind fun t30 => (if ((t26 ++ ([58, 58] : List UInt8)) ++ t30).length ≤ 9223372036854775807 then some (((t26 ++ ([58, 58] : List UInt8)) ++ t30 : List UInt8)) else none) else none) else none) else none))
set_option maxRecDepth 100000 in
theorem addr_text6.walk (w : World) (M : List Nat) (hM : MS M w) (hG : GF w M) (a0 : S_api_Addr) (k : Nat) (r : List UInt8) (H : addr_text6.f k a0 = some r) :
    To Tryd.prog 42 [.agg (cS_api_Addr a0).toArray] w fun v w' => v = .string (bstr r) ∧ Chg [] w w' ∧ MS (M) w' := by
 unfold addr_text6.f at H
 refine ent Tryd.func42 rfl [(0, .agg (cS_api_Addr a0).toArray)] rfl (by rfl) fun a ha => ?_
 have hC : Chg [] w w := Chg.refl _ _
 refine wp_seq_k fun K1 hK1 => ?_
 refine wp_region_lit ?_
 refine bx (cs := (cS_api_Addr a0)) ha rfl rfl rfl rfl rfl fun a w2 g3 hN4 ha => ?_
 have hn6 := hN4.notin hM
 have o1 : Ok [] (M) w.heap.size := Ok.nil _ _
 have o2 : Ok (M) (M) w.heap.size := (Ok.refl _ _)
 have hG := hG.chg hN4.chg o1 o2
 have hM : MS (M) w2 := (hM.chg hN4.chg)
 have hC := hC.trans hN4.chg (Ok.nil _ _)
 have hE5 : ∀ j v, (cS_api_Addr a0)[j]? = some v → w2.cell? ⟨g3, 0 + j, none⟩ = some v := Box.cells (New.box hN4)
 refine seg ha 1 [(1, .pointer (some ⟨g3, 0, none⟩))] (by kernel_rfl) fun a ha => ?_
 refine hK1 _ _ ?_; try clear hK1 K1
 refine wp_seq_k fun K7 hK7 => ?_
 refine wp_region_lit ?_
 refine ldA (cs := (cS_api_Addr a0)) ha rfl (by kernel_rfl) rfl rfl rfl (cells_sub hE5 (all := (cS_api_Addr a0)) [] [] (by kernel_rfl)) fun a ha => ?_
 obtain ⟨t8, H8, H⟩ := bind_some H
 refine cl ha (by rfl) (by kernel_rfl) (by rfl) (by rfl) (by rfl) (addr_numbers.walk w2 _ hM a0 k _ H8) ?_
 rintro _ w8 ⟨rfl, hc8, hMn⟩ a ha
 have o1 : Ok [] (M) w2.heap.size := Ok.nil _ _
 have o2 : Ok (M) (M) w2.heap.size := (Ok.refl _ _)
 have hG := hG.chg hc8 o1 o2
 have hM : MS (M) w8 := (hM.chg hc8)
 have hC := hC.trans hc8 (Ok.nil _ _)
 refine al (cs := (cA .i64 8 (List.replicate 8 (0 : Int)))) (z := .agg (cA .i64 8 (List.replicate 8 (0 : Int))).toArray) ha (fun w => by kernel_rfl) rfl rfl rfl rfl fun a w9 g10 hN11 ha => ?_
 have o1 : Ok [] (M) w8.heap.size := Ok.nil _ _
 have o2 : Ok ([g10] ++ (M)) (M) w8.heap.size := (Ok.app (hN11.ok _) (Ok.refl _ _))
 have hG := hG.chg hN11.chg o1 o2
 have p_i12_M : ∀ x ∈ [g10], x ∉ M := fun x hx hy => absurd (hM x (hy)) (Nat.not_lt.2 ((hN11.ge1) x hx))
 have e_i12 : ∀ x ∈ [g10], w.heap.size ≤ x := fun x hx => Nat.le_trans hC.size ((hN11.ge1) x hx)
 have hM : MS ([g10] ++ (M)) w9 := (MS.app hN11.ms (hM.chg hN11.chg))
 have hC := hC.trans hN11.chg (Ok.nil _ _)
 have hBg10 : Box w9 g10 (cA .i64 8 (List.replicate 8 (0 : Int))) := hN11.box
 refine stA (l := (cA .i64 8 t8)) ha rfl rfl rfl (by kernel_rfl) rfl rfl hBg10 rfl fun a w13 ha hb2 hc14 _ => ?_
 have o1 : Ok [g10] ([g10] ++ (M)) w9.heap.size := (fun _ h => .inl (ml h))
 have o2 : Ok ([g10] ++ (M)) ([g10] ++ (M)) w9.heap.size := (Ok.refl _ _)
 have hG := hG.chg hc14 o1 o2
 have hM : MS ([g10] ++ (M)) w13 := (hM.chg hc14)
 have hC := hC.trans hc14 (fun x h => .inr (e_i12 x h))
 have hBg10 : Box w13 g10 (cA .i64 8 t8) := hb2
 refine hK7 _ _ ?_; try clear hK7 K7
 refine wp_seq_k fun K15 hK15 => ?_
 refine wp_region_lit ?_
 refine ldA (cs := (cA .i64 8 t8)) ha rfl (by kernel_rfl) rfl rfl rfl (cells_sub (Box.cells hBg10) (all := (cA .i64 8 t8)) [] [] (by kernel_rfl)) fun a ha => ?_
 obtain ⟨t16, H16, H⟩ := bind_some H
 refine cl ha (by rfl) (by kernel_rfl) (by rfl) (by rfl) (by rfl) (addr_gap.walk w13 _ hM t8 k _ H16) ?_
 rintro _ w16 ⟨rfl, hc16, hMn⟩ a ha
 have o1 : Ok [] ([g10] ++ (M)) w13.heap.size := Ok.nil _ _
 have o2 : Ok ([g10] ++ (M)) ([g10] ++ (M)) w13.heap.size := (Ok.refl _ _)
 have hG := hG.chg hc16 o1 o2
 have hBg10 := hBg10.chg hc16 (fun h => nomatch h)
 have hM : MS ([g10] ++ (M)) w16 := (hM.chg hc16)
 have hC := hC.trans hc16 (Ok.nil _ _)
 refine seg ha 5 [(3, .pointer (some ⟨g10, 0, none⟩)), (4, .int .i64 t16.1), (5, .int .i64 t16.2)] (by kernel_rfl) fun a ha => ?_
 refine hK15 _ _ ?_; try clear hK15 K15
 refine wp_seq_k fun K17 hK17 => ?_
 refine wp_seq_k fun K18 hK18 => ?_
 refine wp_region_lit ?_
 refine seg ha 2 [(3, .pointer (some ⟨g10, 0, none⟩)), (4, .int .i64 t16.1), (5, .int .i64 t16.2), (14, .bool (decide (t16.2 < (2 : Int))))] (by kernel_rfl) fun a ha => ?_
 refine hK18 _ _ ?_; try clear hK18 K18
 refine cnd ha rfl (fun hc19 => ?_) (fun hc19 => ?_)
 ·have H := ite_t hc19 H
  refine wp_seq_k fun K20 hK20 => ?_
  refine wp_region_lit ?_
  refine opk (v := .slice (some ⟨g10, 0, none⟩) 8 8) ha rfl rfl rfl rfl rfl (fun w => by kernel_rfl) fun a ha => ?_
  have fw21 : RSl (rInt .i64) 3 w16 (butL g10 w16) (some ⟨g10, 0, none⟩) 8 (arL 8 t8) := RSl.ofA ([] : List Value) ([] : List Value) (Box.cells hBg10) butL_self (by kernel_rfl) rfl
  have hML : MS (M) w16 := MS.rest hM (fun _ h => mr (h))
  have oL : Ok (M) ([g10] ++ (M)) w16.heap.size := (fun _ h => .inl (mr (h)))
  obtain ⟨t22, H22, H⟩ := bind_some H
  refine cl ha (by rfl) (by kernel_rfl) (by rfl) (by rfl) (by rfl) (addr_written.walk w16 _ hML (hG.chg (Chg.refl [] _) (Ok.nil _ _) oL) (arL 8 t8) (some ⟨g10, 0, none⟩) 8 (RSl.chg (M' := M) fw21 (Chg.refl [] _) (Ok.nil _ _) (butL_ok (fun x hm e0 => (fun (hx : x ∈ [g10]) => p_i12_M x hx hm) (by rw [e0]; exact List.mem_singleton.2 rfl)))) k _ H22) ?_
  rintro _ w22 ⟨rfl, hc22, hMn⟩ a ha
  have o1 : Ok [] ([g10] ++ (M)) w16.heap.size := Ok.nil _ _
  have o2 : Ok ([g10] ++ (M)) ([g10] ++ (M)) w16.heap.size := (Ok.refl _ _)
  have hG := hG.chg hc22 o1 o2
  have fw21 := fw21.chg (M' := butL g10 w22) hc22 (Ok.nil _ _) butL_chg
  have hBg10 := hBg10.chg hc22 (fun h => nomatch h)
  have hM : MS ([g10] ++ (M)) w22 := (hM.chg hc22)
  have hC := hC.trans hc22 (Ok.nil _ _)
  refine seg ha 1 [(2, .string (bstr t22))] (by kernel_rfl) fun a ha => ?_
  refine hK20 _ _ ?_; try clear hK20 K20
  refine wp_ret ?_
  try simp only [Exit.then, Exit.inBlock]
  have o1 : Ok [] ([g10] ++ (M)) w22.heap.size := Ok.nil _ _
  have o2 : Ok (M) ([g10] ++ (M)) w22.heap.size := (fun _ h => .inl (mr (h)))
  have hG := hG.chg (Chg.refl [] _) o1 o2
  have hBg10 := hBg10.chg (Chg.refl [] _) (fun h => nomatch h)
  have hM : MS (M) w22 := (fun x h => hM.chg (Chg.refl [] _) x (mr (h)))
  have hC := hC.trans (Chg.refl [] _) (Ok.nil _ _)
  obtain rfl := Option.some.inj H
  refine rt1 ha rfl rfl ?_
  exact ⟨rfl, hC, hM⟩
 ·have H := ite_f hc19 H
  refine wp_skip ?_
  refine hK17 _ _ ?_; try clear hK17 K17
  refine wp_seq_k fun K23 hK23 => ?_
  refine drq0 (fun w' => Chg [] w16 w') (by kernel_rfl) (by kernel_rfl) (fun _ h => h) ?_
  refine qp 0 (.int .i64 t16.1) ha rfl rfl rfl (by kernel_rfl) fun a ha => ?_
  have fw24 : RSl (rInt .i64) 3 w16 (butL g10 w16) (some ⟨g10, 0, none⟩) 8 (arL 8 t8) := RSl.ofA ([] : List Value) ([] : List Value) (Box.cells hBg10) butL_self (by kernel_rfl) rfl
  obtain ⟨⟨hx25, hx25', hx25''⟩, H⟩ := ite_some H
  obtain ⟨ao25, cap25, f25, hr25⟩ := slA_run (kk := .i64) (T := 3) (N := 8) (g := g10) (o' := 0) (xs := (arL 8 t8)) (t := 88) (lo := Option.none) (hi := (Option.some (Operand.tmp 17))) (l := (0 : Int)) (h := t16.1) (dd := some 18) (ty := 66) (pos := "addr.go:86") (af := #[{ on := 0, ground := Ground.data }]) (gd := Option.none) ha (by kernel_rfl) (by kernel_rfl) (x := (Operand.tmp 3)) rfl (arL_length _ _) rfl rfl fw24 hx25 hx25' (by rw [arL_length]; exact hx25'')
  refine qv (v := .slice ao25 (((arL 8 t8).take (Int.toNat t16.1)).drop (Int.toNat (0 : Int))).length cap25) ha rfl rfl rfl (fun w' hs => hr25 w') fun a ha => ?_
  obtain ⟨t26, H26, H⟩ := bind_some H
  refine qc (.string (bstr t26)) ha (by rfl) (by kernel_rfl) (by rfl) (by rfl) (by rfl) (fun w' hs => (addr_written.walk w' [] (MS.nil _) (hG.chg (M' := []) hs (Ok.nil _ _) (Ok.nil _ _)) (((arL 8 t8).take (Int.toNat t16.1)).drop (Int.toNat (0 : Int))) ao25 cap25 (RSl.chg (M' := []) f25 hs (Ok.nil _ _) (Ok.nil _ _)) k _ H26).mono fun v w'' ⟨hv, hc, _⟩ => ⟨hv, hs.trans hc (Ok.nil _ _)⟩) fun a ha => ?_
  obtain ⟨hx27, H⟩ := ite_some H
  refine qv (v := .string (bstr (t26 ++ ([58, 58] : List UInt8)))) ha rfl rfl rfl (fun w' hs => sadd_run ha rfl rfl hx27 w') fun a ha => ?_
  refine qp 0 (.int .i64 t16.1) ha rfl rfl rfl (by kernel_rfl) fun a ha => ?_
  refine qp 0 (.int .i64 t16.2) ha rfl rfl rfl (by kernel_rfl) fun a ha => ?_
  refine qp 0 (.int .i64 (IntKind.i64.wrap (t16.1 + t16.2))) ha rfl rfl rfl (by kernel_rfl) fun a ha => ?_
  have fw28 : RSl (rInt .i64) 3 w16 (butL g10 w16) (some ⟨g10, 0, none⟩) 8 (arL 8 t8) := RSl.ofA ([] : List Value) ([] : List Value) (Box.cells hBg10) butL_self (by kernel_rfl) rfl
  obtain ⟨⟨hx29, hx29', hx29''⟩, H⟩ := ite_some H
  obtain ⟨ao29, cap29, f29, hr29⟩ := slA_run (kk := .i64) (T := 3) (N := 8) (g := g10) (o' := 0) (xs := (arL 8 t8)) (t := 88) (lo := (Option.some (Operand.tmp 23))) (hi := Option.none) (l := (IntKind.i64.wrap (t16.1 + t16.2))) (h := (8 : Int)) (dd := some 24) (ty := 66) (pos := "addr.go:86") (af := #[{ on := 6, ground := Ground.data }]) (gd := Option.none) ha (by kernel_rfl) (by kernel_rfl) (x := (Operand.tmp 3)) rfl (arL_length _ _) rfl rfl fw28 hx29 hx29' (by rw [arL_length]; exact hx29'')
  refine qv (v := .slice ao29 (((arL 8 t8).take (Int.toNat (8 : Int))).drop (Int.toNat (IntKind.i64.wrap (t16.1 + t16.2)))).length cap29) ha rfl rfl rfl (fun w' hs => hr29 w') fun a ha => ?_
  obtain ⟨t30, H30, H⟩ := bind_some H
  refine qc (.string (bstr t30)) ha (by rfl) (by kernel_rfl) (by rfl) (by rfl) (by rfl) (fun w' hs => (addr_written.walk w' [] (MS.nil _) (hG.chg (M' := []) hs (Ok.nil _ _) (Ok.nil _ _)) (((arL 8 t8).take (Int.toNat (8 : Int))).drop (Int.toNat (IntKind.i64.wrap (t16.1 + t16.2)))) ao29 cap29 (RSl.chg (M' := []) f29 hs (Ok.nil _ _) (Ok.nil _ _)) k _ H30).mono fun v w'' ⟨hv, hc, _⟩ => ⟨hv, hs.trans hc (Ok.nil _ _)⟩) fun a ha => ?_
  obtain ⟨hx31, H⟩ := ite_some H
  refine qv (v := .string (bstr ((t26 ++ ([58, 58] : List UInt8)) ++ t30))) ha rfl rfl rfl (fun w' hs => sadd_run ha rfl rfl hx31 w') fun a ha => ?_
  refine qp 0 (.string (bstr ((t26 ++ ([58, 58] : List UInt8)) ++ t30))) ha rfl rfl rfl (by kernel_rfl) fun a ha => ?_
  refine wpQuiet_nil ?_
  intro w32 hc33
  have o1 : Ok [] ([g10] ++ (M)) w16.heap.size := Ok.nil _ _
  have o2 : Ok ([g10] ++ (M)) ([g10] ++ (M)) w16.heap.size := (Ok.refl _ _)
  have hG := hG.chg hc33 o1 o2
  have f25 := f25.chg (M' := butL g10 w32) hc33 (Ok.nil _ _) butL_chg
  have f29 := f29.chg (M' := butL g10 w32) hc33 (Ok.nil _ _) butL_chg
  have hBg10 := hBg10.chg hc33 (fun h => nomatch h)
  have hM : MS ([g10] ++ (M)) w32 := (hM.chg hc33)
  have hC := hC.trans hc33 (Ok.nil _ _)
  refine wpl_end ?_
  refine hK23 _ _ ?_; try clear hK23 K23
  refine wp_ret ?_
  try simp only [Exit.then, Exit.inBlock]
  have o1 : Ok [] ([g10] ++ (M)) w32.heap.size := Ok.nil _ _
  have o2 : Ok (M) ([g10] ++ (M)) w32.heap.size := (fun _ h => .inl (mr (h)))
  have hG := hG.chg (Chg.refl [] _) o1 o2
  have hBg10 := hBg10.chg (Chg.refl [] _) (fun h => nomatch h)
  have hM : MS (M) w32 := (fun x h => hM.chg (Chg.refl [] _) x (mr (h)))
  have hC := hC.trans (Chg.refl [] _) (Ok.nil _ _)
  obtain rfl := Option.some.inj H
  refine rt1 ha rfl rfl ?_
  exact ⟨rfl, hC, hM⟩
def addr_Text.l0 (a0 : S_api_Addr) : Nat → (List (List UInt8)) → Int → Option (List (List UInt8))
  | 0, _, _ => none
  | kk + 1, x23, x24 => (if (decide (x24 < ((((arL 16 a0.B).take (Int.toNat (4 : Int))).drop (Int.toNat (0 : Int))).length : Int))) = true then (if 0 ≤ x24 ∧ x24 < ((((arL 16 a0.B).take (Int.toNat (4 : Int))).drop (Int.toNat (0 : Int))).length : Int) then (strconv_Itoa.f (IntKind.i64.wrap (rd (((arL 16 a0.B).take (Int.toNat (4 : Int))).drop (Int.toNat (0 : Int))) x24))).bind fun t41 => (if (x23.length + ([t41] : List (List UInt8)).length) * 16 ≤ 140737488355328 then addr_Text.l0 a0 kk (x23 ++ ([t41] : List (List UInt8))) (IntKind.i64.wrap (x24 + (1 : Int))) else none) else none) else some (x23 : List (List UInt8)))
def addr_Text.f (k : Nat) (a0 : S_api_Addr) : Option (List UInt8) := (addr_Right.f k a0).bind fun t9 => (if (!t9) = true then some ((([] : List UInt8) : List UInt8)) else (if (a0.Size == (4 : Int)) = true then (if 0 ≤ (0 : Int) ∧ (0 : Int) ≤ (4 : Int) ∧ (4 : Int) ≤ (16 : Int) then (addr_Text.l0 a0 k ([] : List (List UInt8)) (0 : Int)).bind fun s21 => (strings_Join.f s21 ([46] : List UInt8)).bind fun t27 => some ((t27 : List UInt8)) else none) else (if (a0.Size == (16 : Int)) = true then (addr_text6.f k a0).bind fun t53 => some ((t53 : List UInt8)) else some ((([] : List UInt8) : List UInt8)))))
set_option maxRecDepth 100000 in
theorem addr_Text.walk (w : World) (M : List Nat) (hM : MS M w) (hG : GF w M) (a0 : S_api_Addr) (k : Nat) (r : List UInt8) (H : addr_Text.f k a0 = some r) :
    To Tryd.prog 14 [.agg (cS_api_Addr a0).toArray] w fun v w' => v = .string (bstr r) ∧ Chg [] w w' ∧ MS (M) w' := by
 unfold addr_Text.f at H
 refine ent Tryd.func14 rfl [(0, .agg (cS_api_Addr a0).toArray)] rfl (by rfl) fun a ha => ?_
 have hC : Chg [] w w := Chg.refl _ _
 refine wp_seq_k fun K1 hK1 => ?_
 refine wp_region_lit ?_
 refine bx (cs := (cS_api_Addr a0)) ha rfl rfl rfl rfl rfl fun a w2 g3 hN4 ha => ?_
 have hn6 := hN4.notin hM
 have o1 : Ok [] (M) w.heap.size := Ok.nil _ _
 have o2 : Ok (M) (M) w.heap.size := (Ok.refl _ _)
 have hG := hG.chg hN4.chg o1 o2
 have hM : MS (M) w2 := (hM.chg hN4.chg)
 have hC := hC.trans hN4.chg (Ok.nil _ _)
 have hE5 : ∀ j v, (cS_api_Addr a0)[j]? = some v → w2.cell? ⟨g3, 0 + j, none⟩ = some v := Box.cells (New.box hN4)
 refine seg ha 1 [(1, .pointer (some ⟨g3, 0, none⟩))] (by kernel_rfl) fun a ha => ?_
 refine hK1 _ _ ?_; try clear hK1 K1
 refine wp_seq_k fun K7 hK7 => ?_
 refine wp_seq_k fun K8 hK8 => ?_
 refine wp_region_lit ?_
 refine ldA (cs := (cS_api_Addr a0)) ha rfl (by kernel_rfl) rfl rfl rfl (cells_sub hE5 (all := (cS_api_Addr a0)) [] [] (by kernel_rfl)) fun a ha => ?_
 obtain ⟨t9, H9, H⟩ := bind_some H
 refine cl ha (by rfl) (by kernel_rfl) (by rfl) (by rfl) (by rfl) (addr_Right.walk w2 _ hM a0 k _ H9) ?_
 rintro _ w9 ⟨rfl, hc9, hMn⟩ a ha
 have o1 : Ok [] (M) w2.heap.size := Ok.nil _ _
 have o2 : Ok (M) (M) w2.heap.size := (Ok.refl _ _)
 have hG := hG.chg hc9 o1 o2
 have q_hn6 : g3 ∉ M := fun h => (o2 g3 h).elim hn6 (fun h => absurd (lt_cell (hE5 0 _ rfl)) (Nat.not_lt.2 h))
 have hE5 : ∀ j v, (cS_api_Addr a0)[j]? = some v → w9.cell? ⟨g3, 0 + j, none⟩ = some v := fun j v hv => (cell_keep hc9 o1 hn6 (hE5 j v hv))
 have hn6 := q_hn6
 have hM : MS (M) w9 := (hM.chg hc9)
 have hC := hC.trans hc9 (Ok.nil _ _)
 refine seg ha 1 [(1, .pointer (some ⟨g3, 0, none⟩)), (8, .bool (!t9))] (by kernel_rfl) fun a ha => ?_
 refine hK8 _ _ ?_; try clear hK8 K8
 refine cnd ha rfl (fun hc10 => ?_) (fun hc10 => ?_)
 ·have H := ite_t hc10 H
  refine wp_seq_k fun K11 hK11 => ?_
  refine wp_region_lit ?_
  refine seg ha 1 [(2, .string (bstr ([] : List UInt8)))] (by kernel_rfl) fun a ha => ?_
  refine hK11 _ _ ?_; try clear hK11 K11
  refine wp_ret ?_
  try simp only [Exit.then, Exit.inBlock]
  obtain rfl := Option.some.inj H
  refine rt1 ha rfl rfl ?_
  exact ⟨rfl, hC, hM⟩
 ·have H := ite_f hc10 H
  refine wp_skip ?_
  refine hK7 _ _ ?_; try clear hK7 K7
  refine wp_seq_k fun K12 hK12 => ?_
  refine wp_seq_k fun K13 hK13 => ?_
  refine wp_region_lit ?_
  refine seg ha 1 [(1, .pointer (some ⟨g3, 0, none⟩)), (9, .pointer (some ⟨g3, 0, none⟩))] (by kernel_rfl) fun a ha => ?_
  refine ld ha rfl (by kernel_rfl) rfl rfl rfl (hE5 0 (.int .i64 a0.Size) (by kernel_rfl)) fun a ha => ?_
  refine hK13 _ _ ?_; try clear hK13 K13
  refine wp_block ?_
  refine wp_seq_k fun K14 hK14 => ?_
  refine wp_region_lit ?_
  refine seg ha 2 [(1, .pointer (some ⟨g3, 0, none⟩)), (10, .int .i64 a0.Size), (11, .bool (a0.Size == (4 : Int)))] (by kernel_rfl) fun a ha => ?_
  refine hK14 _ _ ?_; try clear hK14 K14
  refine cnd ha rfl (fun hc15 => ?_) (fun hc15 => ?_)
  ·have H := ite_t hc15 H
   refine wp_seq_k fun K16 hK16 => ?_
   refine wp_region_lit ?_
   refine seg ha 1 [(1, .pointer (some ⟨g3, 0, none⟩)), (3, .slice none 0 0)] (by kernel_rfl) fun a ha => ?_
   refine hK16 _ _ ?_; try clear hK16 K16
   refine wp_seq_k fun K17 hK17 => ?_
   refine wp_seq_k fun K18 hK18 => ?_
   refine wp_region_lit ?_
   refine seg ha 1 [(3, .slice none 0 0), (13, .pointer (some ⟨g3, 0 + 1, none⟩))] (by kernel_rfl) fun a ha => ?_
   have f19 : RSl (rInt .u8) 5 w9 (M) (some ⟨g3, 0 + 1, none⟩) 16 (arL 16 a0.B) := RSl.ofA [.int .i64 a0.Size] [] hE5 hn6 (by kernel_rfl) rfl
   obtain ⟨⟨hx20, hx20', hx20''⟩, H⟩ := ite_some H
   obtain ⟨ao20, cap20, f20, hr20⟩ := slA_run (kk := .u8) (T := 5) (N := 16) (g := g3) (o' := 0 + 1) (xs := (arL 16 a0.B)) (t := 22) (lo := Option.none) (hi := (Option.some (Operand.const (Value.int IntKind.i64 4)))) (l := (0 : Int)) (h := (4 : Int)) (dd := some 14) (ty := 43) (pos := "addr.go:97") (af := #[{ on := 0, ground := Ground.data }]) (gd := Option.none) ha (by kernel_rfl) (by kernel_rfl) (x := (Operand.tmp 13)) rfl (arL_length _ _) rfl rfl f19 hx20 hx20' (by rw [arL_length]; exact hx20'')
   refine hop (v := .slice ao20 (((arL 16 a0.B).take (Int.toNat (4 : Int))).drop (Int.toNat (0 : Int))).length cap20) (w' := w9) ha rfl rfl rfl (hr20 _) fun a ha => ?_
   refine seg ha 2 [(3, .slice none 0 0), (14, .slice ao20 (((arL 16 a0.B).take (Int.toNat (4 : Int))).drop (Int.toNat (0 : Int))).length cap20), (15, .int .i64 ((((arL 16 a0.B).take (Int.toNat (4 : Int))).drop (Int.toNat (0 : Int))).length : Int)), (16, .int .i64 (0 : Int))] (by kernel_rfl) fun a ha => ?_
   refine hK18 _ _ ?_; try clear hK18 K18
   refine wp_block ?_
   obtain ⟨s21, H21, H⟩ := bind_some H
   have J21 : ∀ (a : Act) (wx21 : World) (ao25 : Option Addr) (cap25 : Nat), Has a Tryd.f14.ntmps [(3, .slice ao25 s21.length cap25)] → (Own rStr 9 wx21 (blkL ao25 ++ (M)) ao25 cap25 s21) → (∀ x ∈ blkL ao25, w.heap.size ≤ x) → (∀ x ∈ blkL ao25, x ∉ M) → (GF wx21 (blkL ao25 ++ (M))) → (Chg [] w wx21) → (MS (blkL ao25 ++ (M)) wx21) → K17 a wx21 := by
    intro a wx21 ao25 cap25 ha f25 e_i25 p_i25_M hG hC hM
    refine hK17 _ _ ?_; try clear hK17 K17
    refine wp_seq_k fun K26 hK26 => ?_
    refine wp_region_lit ?_
    refine seg ha 1 [(27, .slice ao25 s21.length cap25)] (by kernel_rfl) fun a ha => ?_
    have hML : MS (M) wx21 := MS.rest hM (fun _ h => mr (h))
    have oL : Ok (M) (blkL ao25 ++ (M)) wx21.heap.size := (fun _ h => .inl (mr (h)))
    obtain ⟨t27, H27, H⟩ := bind_some H
    refine cl ha (by rfl) (by kernel_rfl) (by rfl) (by rfl) (by rfl) (strings_Join.walk wx21 _ hML s21 ao25 cap25 (Own.toRSl (M' := M) f25 oL (fun x hx hm => p_i25_M x hx hm)) ([46] : List UInt8) _ H27) ?_
    rintro _ w27 ⟨rfl, hc27, hMn⟩ a ha
    have o1 : Ok [] (blkL ao25 ++ (M)) wx21.heap.size := Ok.nil _ _
    have o2 : Ok (blkL ao25 ++ (M)) (blkL ao25 ++ (M)) wx21.heap.size := (Ok.refl _ _)
    have hG := hG.chg hc27 o1 o2
    have f25 := f25.chg hc27 o1 o2 (fun _ _ h => nomatch h) (fun _ h => ml h)
    have hM : MS (blkL ao25 ++ (M)) w27 := (hM.chg hc27)
    have hC := hC.trans hc27 (Ok.nil _ _)
    refine seg ha 1 [(2, .string (bstr t27))] (by kernel_rfl) fun a ha => ?_
    refine hK26 _ _ ?_; try clear hK26 K26
    refine wp_ret ?_
    try simp only [Exit.then, Exit.inBlock]
    have o1 : Ok [] (blkL ao25 ++ (M)) w27.heap.size := Ok.nil _ _
    have o2 : Ok (M) (blkL ao25 ++ (M)) w27.heap.size := (fun _ h => .inl (mr (h)))
    have hG := hG.chg (Chg.refl [] _) o1 o2
    have hM : MS (M) w27 := (fun x h => hM.chg (Chg.refl [] _) x (mr (h)))
    have hC := hC.trans (Chg.refl [] _) (Ok.nil _ _)
    obtain rfl := Option.some.inj H
    refine rt1 ha rfl rfl ?_
    exact ⟨rfl, hC, hM⟩
   have Hc21 := H
   have H := H21
   refine wp_loop_ghost (fun kk a w21 => ∃ (x23 : List (List UInt8)) (x24 : Int) (ao22 : Option Addr) (cap22 : Nat), addr_Text.l0 a0 kk x23 x24 = some s21 ∧ Has a Tryd.f14.ntmps [(3, .slice ao22 x23.length cap22), (14, .slice ao20 (((arL 16 a0.B).take (Int.toNat (4 : Int))).drop (Int.toNat (0 : Int))).length cap20), (15, .int .i64 ((((arL 16 a0.B).take (Int.toNat (4 : Int))).drop (Int.toNat (0 : Int))).length : Int)), (16, .int .i64 x24)] ∧ (Own rStr 9 w21 (blkL ao22 ++ (M)) ao22 cap22 x23) ∧ (RSl (rInt .u8) 5 w21 (blkL ao22 ++ (M)) ao20 cap20 (((arL 16 a0.B).take (Int.toNat (4 : Int))).drop (Int.toNat (0 : Int)))) ∧ (∀ x ∈ blkL ao22, w.heap.size ≤ x) ∧ (∀ x ∈ blkL ao22, x ∉ M) ∧ (GF w21 (blkL ao22 ++ (M))) ∧ (Chg [] w w21) ∧ (MS (blkL ao22 ++ (M)) w21)) k ?_ ?_
   ·skip
    have o1 : Ok [] (M) w9.heap.size := Ok.nil _ _
    have o2 : Ok (blkL none ++ (M)) (M) w9.heap.size := (Ok.app (fun _ h => nomatch h) (Ok.refl _ _))
    have hG := hG.chg (Chg.refl [] _) o1 o2
    have f20 := f20.chg (Chg.refl [] _) o1 o2
    have p_z28_M : ∀ x ∈ blkL none, x ∉ M := fun x hx hy => absurd (hM x (hy)) (Nat.not_lt.2 ((fun _ h => nomatch h) x hx))
    have e_z28 : ∀ x ∈ blkL none, w.heap.size ≤ x := fun x hx => Nat.le_trans hC.size ((fun _ h => nomatch h) x hx)
    have hM : MS (blkL none ++ (M)) w9 := (MS.app (fun _ h => nomatch h) (hM.chg (Chg.refl [] _)))
    have hC := hC.trans (Chg.refl [] _) (Ok.nil _ _)
    exact ⟨([] : List (List UInt8)), (0 : Int), none, 0, H, (ha.sel (by kernel_rfl)), Own.nil, f20, e_z28, p_z28_M, hG, hC, hM⟩
   ·rintro kk a w21 ⟨x23, x24, ao22, cap22, H, ha, f22, f20, e_i22, p_i22_M, hG, hC, hM⟩
    obtain _ | kk := kk
    ·exact nomatch (show none = some _ from H)
    rw [addr_Text.l0] at H
    refine wp_seq_k fun K29 hK29 => ?_
    refine wp_region_lit ?_
    refine seg ha 1 [(3, .slice ao22 x23.length cap22), (14, .slice ao20 (((arL 16 a0.B).take (Int.toNat (4 : Int))).drop (Int.toNat (0 : Int))).length cap20), (15, .int .i64 ((((arL 16 a0.B).take (Int.toNat (4 : Int))).drop (Int.toNat (0 : Int))).length : Int)), (16, .int .i64 x24), (17, .bool (decide (x24 < ((((arL 16 a0.B).take (Int.toNat (4 : Int))).drop (Int.toNat (0 : Int))).length : Int))))] (by kernel_rfl) fun a ha => ?_
    refine hK29 _ _ ?_; try clear hK29 K29
    refine wp_seq_k fun K30 hK30 => ?_
    refine cnd ha rfl (fun hc31 => ?_) (fun hc31 => ?_)
    ·have H := ite_t hc31 H
     refine wp_skip ?_
     refine hK30 _ _ ?_; try clear hK30 K30
     refine wp_seq_k fun K32 hK32 => ?_
     refine wp_block ?_
     refine wp_seq_k fun K33 hK33 => ?_
     refine wp_region_lit ?_
     obtain ⟨⟨hx34, hx34'⟩, H⟩ := ite_some H
     refine ix (r := (rInt .u8)) ha (by kernel_rfl) (by kernel_rfl) rfl rfl rfl rfl rfl f20 hx34 hx34' fun a ge35 oe36 cs37 hn40 hR38 hE39 ha => ?_
     rw [rd_get] at hR38
     obtain rfl := hR38
     have hE39 : ∀ j v, ([.int .u8 (rd (((arL 16 a0.B).take (Int.toNat (4 : Int))).drop (Int.toNat (0 : Int))) x24)] : List Value)[j]? = some v → w21.cell? ⟨ge35, oe36 + j, none⟩ = some v := hE39
     refine ld ha rfl (by kernel_rfl) rfl rfl rfl (hE39 0 (.int .u8 (rd (((arL 16 a0.B).take (Int.toNat (4 : Int))).drop (Int.toNat (0 : Int))) x24)) (by kernel_rfl)) fun a ha => ?_
     refine seg ha 1 [(3, .slice ao22 x23.length cap22), (5, .int .u8 (rd (((arL 16 a0.B).take (Int.toNat (4 : Int))).drop (Int.toNat (0 : Int))) x24)), (14, .slice ao20 (((arL 16 a0.B).take (Int.toNat (4 : Int))).drop (Int.toNat (0 : Int))).length cap20), (15, .int .i64 ((((arL 16 a0.B).take (Int.toNat (4 : Int))).drop (Int.toNat (0 : Int))).length : Int)), (16, .int .i64 x24)] (by kernel_rfl) fun a ha => ?_
     refine hK33 _ _ ?_; try clear hK33 K33
     refine wp_region_lit ?_
     refine seg ha 3 [(14, .slice ao20 (((arL 16 a0.B).take (Int.toNat (4 : Int))).drop (Int.toNat (0 : Int))).length cap20), (15, .int .i64 ((((arL 16 a0.B).take (Int.toNat (4 : Int))).drop (Int.toNat (0 : Int))).length : Int)), (16, .int .i64 x24), (20, .slice ao22 x23.length cap22), (22, .int .i64 (IntKind.i64.wrap (rd (((arL 16 a0.B).take (Int.toNat (4 : Int))).drop (Int.toNat (0 : Int))) x24)))] (by kernel_rfl) fun a ha => ?_
     obtain ⟨t41, H41, H⟩ := bind_some H
     refine cl ha (by rfl) (by kernel_rfl) (by rfl) (by rfl) (by rfl) (strconv_Itoa.walk w21 _ hM hG (IntKind.i64.wrap (rd (((arL 16 a0.B).take (Int.toNat (4 : Int))).drop (Int.toNat (0 : Int))) x24)) _ H41) ?_
     rintro _ w41 ⟨rfl, hc41, hMn⟩ a ha
     have o1 : Ok [] (blkL ao22 ++ (M)) w21.heap.size := Ok.nil _ _
     have o2 : Ok (blkL ao22 ++ (M)) (blkL ao22 ++ (M)) w21.heap.size := (Ok.refl _ _)
     have hG := hG.chg hc41 o1 o2
     have f20 := f20.chg hc41 o1 o2
     have f22 := f22.chg hc41 o1 o2 (fun _ _ h => nomatch h) (fun _ h => ml h)
     have hM : MS (blkL ao22 ++ (M)) w41 := (hM.chg hc41)
     have hC := hC.trans hc41 (Ok.nil _ _)
     refine bsl (vals := ([.string (bstr t41)] : List Value)) (T := 9) ha rfl (([.string (bstr t41)] : List Value) ++ ([] : List Value)) (fun w => by kernel_rfl) rfl rfl rfl fun a w42 g43 hN44 ha => ?_
     have o1 : Ok [] (blkL ao22 ++ (M)) w41.heap.size := Ok.nil _ _
     have o2 : Ok ([g43] ++ (blkL ao22 ++ (M))) (blkL ao22 ++ (M)) w41.heap.size := (Ok.app (hN44.ok _) (Ok.refl _ _))
     have hG := hG.chg hN44.chg o1 o2
     have f20 := f20.chg hN44.chg o1 o2
     have f22 := f22.chg hN44.chg o1 o2 (fun _ _ h => nomatch h) (fun _ h => mr (ml h))
     have p_i45_i22 : ∀ x ∈ [g43], x ∉ (blkL ao22) := fun x hx hy => absurd (hM x (ml hy)) (Nat.not_lt.2 ((hN44.ge1) x hx))
     have p_i45_M : ∀ x ∈ [g43], x ∉ M := fun x hx hy => absurd (hM x (mr (hy))) (Nat.not_lt.2 ((hN44.ge1) x hx))
     have e_i45 : ∀ x ∈ [g43], w.heap.size ≤ x := fun x hx => Nat.le_trans hC.size ((hN44.ge1) x hx)
     have hM : MS ([g43] ++ (blkL ao22 ++ (M))) w42 := (MS.app hN44.ms (hM.chg hN44.chg))
     have hC := hC.trans hN44.chg (Ok.nil _ _)
     have f46 : Own rStr 9 w42 ([g43] ++ (blkL ao22 ++ (M))) (some ⟨g43, 0, none⟩) 1 ([t41] : List (List UInt8)) := hN44.own ⟨([.string (bstr t41)] : List Value), _, rfl, rfl, rfl⟩ (Nat.le_of_ble_eq_true rfl)
     obtain ⟨hx47, H⟩ := ite_some H
     refine app (r := rStr) (xs := x23) (ys := ([t41] : List (List UInt8))) ha (ElemT.mk' (bytes := 16) (by kernel_rfl)) rfl rfl rfl rfl rfl f22 f46.src hx47 (by decide) fun a w48 ao49 cap49 hO49 hc49 hk49 hl49 ha => ?_
     have o1 : Ok (blkL ao22) ([g43] ++ (blkL ao22 ++ (M))) w42.heap.size := (fun _ h => .inl (mr (ml h)))
     have o2 : Ok (blkL ao49 ++ ([g43] ++ (M))) ([g43] ++ (blkL ao22 ++ (M))) w42.heap.size := (Ok.app (Ok.to hk49 (fun _ h => mr (ml h))) (Ok.app (fun _ h => .inl (ml h)) (fun _ h => .inl (mr (mr (h))))))
     have hG := hG.chg hc49 o1 o2
     have f20 := f20.chg hc49 o1 o2
     have f46 := f46.chg hc49 o1 o2 p_i45_i22 (fun _ h => mr (ml h))
     have p_i49_i45 : ∀ x ∈ blkL ao49, x ∉ ([g43]) := fun x hx hy => (hk49 x hx).elim (fun h => (fun x hx hy => p_i45_i22 x hy hx) x h hy) (fun h => absurd (hM x (ml hy)) (Nat.not_lt.2 h))
     have p_i49_M : ∀ x ∈ blkL ao49, x ∉ M := fun x hx hy => (hk49 x hx).elim (fun h => p_i22_M x h hy) (fun h => absurd (hM x (mr (mr (hy)))) (Nat.not_lt.2 h))
     have e_i49 : ∀ x ∈ blkL ao49, w.heap.size ≤ x := fun x hx => (hk49 x hx).elim (e_i22 x) (Nat.le_trans hC.size)
     have hM : MS (blkL ao49 ++ ([g43] ++ (M))) w48 := (MS.app hl49 (MS.app (fun x h => hM.chg hc49 x (ml h)) (fun x h => hM.chg hc49 x (mr (mr (h))))))
     have hC := hC.trans hc49 (fun x h => .inr (e_i22 x h))
     have f49 := hO49.chg (M' := blkL ao49 ++ ([g43] ++ (M))) (Chg.refl [] _) (Ok.nil _ _) (Ok.app (fun _ h => .inl (ml h)) (Ok.to (Ok.app (fun _ h => .inl (ml h)) (fun _ h => .inl (mr (mr (h))))) (fun _ h => mr h))) (fun _ _ h => nomatch h) (fun _ h => ml h)
     refine seg ha 1 [(3, .slice ao49 (x23 ++ ([t41] : List (List UInt8))).length cap49), (14, .slice ao20 (((arL 16 a0.B).take (Int.toNat (4 : Int))).drop (Int.toNat (0 : Int))).length cap20), (15, .int .i64 ((((arL 16 a0.B).take (Int.toNat (4 : Int))).drop (Int.toNat (0 : Int))).length : Int)), (16, .int .i64 x24)] (by kernel_rfl) fun a ha => ?_
     refine hK32 _ _ ?_; try clear hK32 K32
     refine wp_region_lit ?_
     refine seg ha 2 [(3, .slice ao49 (x23 ++ ([t41] : List (List UInt8))).length cap49), (14, .slice ao20 (((arL 16 a0.B).take (Int.toNat (4 : Int))).drop (Int.toNat (0 : Int))).length cap20), (15, .int .i64 ((((arL 16 a0.B).take (Int.toNat (4 : Int))).drop (Int.toNat (0 : Int))).length : Int)), (16, .int .i64 (IntKind.i64.wrap (x24 + (1 : Int))))] (by kernel_rfl) fun a ha => ?_
     have o1 : Ok [] (blkL ao49 ++ ([g43] ++ (M))) w48.heap.size := Ok.nil _ _
     have o2 : Ok (blkL ao49 ++ (M)) (blkL ao49 ++ ([g43] ++ (M))) w48.heap.size := (Ok.app (fun _ h => .inl (ml h)) (fun _ h => .inl (mr (mr (h)))))
     have hG := hG.chg (Chg.refl [] _) o1 o2
     have f20 := f20.chg (Chg.refl [] _) o1 o2
     have f49 := f49.chg (Chg.refl [] _) o1 o2 (fun _ _ h => nomatch h) (fun _ h => ml h)
     have hM : MS (blkL ao49 ++ (M)) w48 := (MS.app (fun x h => hM.chg (Chg.refl [] _) x (ml h)) (fun x h => hM.chg (Chg.refl [] _) x (mr (mr (h)))))
     have hC := hC.trans (Chg.refl [] _) (Ok.nil _ _)
     exact ⟨kk, Nat.lt_succ_self _, ⟨(x23 ++ ([t41] : List (List UInt8))), IntKind.i64.wrap (x24 + (1 : Int)), ao49, cap49, H, (ha.sel (by kernel_rfl)), f49, f20, e_i49, p_i49_M, hG, hC, hM⟩⟩
    ·have H := ite_f hc31 H
     refine wp_exit ?_
     simp only [Exit.then, Exit.inBlock, ↓reduceIte, Nat.reduceEqDiff]
     obtain rfl := Option.some.inj H
     exact J21 _ _ ao22 cap22 (ha.sel (by kernel_rfl)) f22 e_i22 p_i22_M hG hC hM
  ·have H := ite_f hc15 H
   refine wp_seq_k fun K50 hK50 => ?_
   refine wp_region_lit ?_
   refine seg ha 2 [(1, .pointer (some ⟨g3, 0, none⟩)), (29, .bool (a0.Size == (16 : Int)))] (by kernel_rfl) fun a ha => ?_
   refine hK50 _ _ ?_; try clear hK50 K50
   refine cnd ha rfl (fun hc51 => ?_) (fun hc51 => ?_)
   ·have H := ite_t hc51 H
    refine wp_seq_k fun K52 hK52 => ?_
    refine wp_region_lit ?_
    refine ldA (cs := (cS_api_Addr a0)) ha rfl (by kernel_rfl) rfl rfl rfl (cells_sub hE5 (all := (cS_api_Addr a0)) [] [] (by kernel_rfl)) fun a ha => ?_
    obtain ⟨t53, H53, H⟩ := bind_some H
    refine cl ha (by rfl) (by kernel_rfl) (by rfl) (by rfl) (by rfl) (addr_text6.walk w9 _ hM hG a0 k _ H53) ?_
    rintro _ w53 ⟨rfl, hc53, hMn⟩ a ha
    have o1 : Ok [] (M) w9.heap.size := Ok.nil _ _
    have o2 : Ok (M) (M) w9.heap.size := (Ok.refl _ _)
    have hG := hG.chg hc53 o1 o2
    have hM : MS (M) w53 := (hM.chg hc53)
    have hC := hC.trans hc53 (Ok.nil _ _)
    refine seg ha 1 [(2, .string (bstr t53))] (by kernel_rfl) fun a ha => ?_
    refine hK52 _ _ ?_; try clear hK52 K52
    refine wp_ret ?_
    try simp only [Exit.then, Exit.inBlock]
    obtain rfl := Option.some.inj H
    refine rt1 ha rfl rfl ?_
    exact ⟨rfl, hC, hM⟩
   ·have H := ite_f hc51 H
    refine wp_skip ?_
    refine hK12 _ _ ?_; try clear hK12 K12
    refine wp_seq_k fun K54 hK54 => ?_
    refine wp_region_lit ?_
    refine seg ha 1 [(2, .string (bstr ([] : List UInt8)))] (by kernel_rfl) fun a ha => ?_
    refine hK54 _ _ ?_; try clear hK54 K54
    refine wp_ret ?_
    try simp only [Exit.then, Exit.inBlock]
    obtain rfl := Option.some.inj H
    refine rt1 ha rfl rfl ?_
    exact ⟨rfl, hC, hM⟩
def addr_Parse.f (k : Nat) (a0 : List UInt8) : Option (S_api_Addr × Int) := (if ((bstr a0).toList == (bstr ([] : List UInt8)).toList) = true then some (((⟨(0 : Int), (List.replicate 16 (0 : Int))⟩ : S_api_Addr) : S_api_Addr), ((0 : Int) : Int)) else (addr_read4.f k a0).bind fun t13 => ((if (!t13.2) = true then (addr_read6.f k a0).bind fun t36 => some ((t36.2 : Bool), (t36.1.Size : Int), (t36.1.B : List Int)) else some ((t13.2 : Bool), (t13.1.Size : Int), (t13.1.B : List Int)))).bind fun s21 => ((if (!s21.1) = true then some (true : Bool) else (addr_Text.f k (⟨s21.2.1, s21.2.2⟩ : S_api_Addr)).bind fun t33 => some (!((bstr t33).toList == (bstr a0).toList) : Bool))).bind fun s24 => (if s24 = true then some (((⟨(0 : Int), (List.replicate 16 (0 : Int))⟩ : S_api_Addr) : S_api_Addr), ((4 : Int) : Int)) else some (((⟨s21.2.1, s21.2.2⟩ : S_api_Addr) : S_api_Addr), ((0 : Int) : Int))))
set_option maxRecDepth 100000 in
theorem addr_Parse.walk (w : World) (M : List Nat) (hM : MS M w) (hG : GF w M) (a0 : List UInt8) (k : Nat) (r : S_api_Addr × Int) (H : addr_Parse.f k a0 = some r) :
    To Tryd.prog 12 [.string (bstr a0)] w fun v w' => v = .tuple #[.agg (cS_api_Addr r.1).toArray, .int .i64 r.2] ∧ Chg [] w w' ∧ MS (M) w' := by
 unfold addr_Parse.f at H
 refine ent Tryd.func12 rfl [(0, .string (bstr a0))] rfl (by rfl) fun a ha => ?_
 have hC : Chg [] w w := Chg.refl _ _
 refine wp_seq_k fun K1 hK1 => ?_
 refine wp_region_lit ?_
 refine al (cs := (cS_api_Addr (⟨(0 : Int), (List.replicate 16 (0 : Int))⟩ : S_api_Addr))) (z := .agg (cS_api_Addr (⟨(0 : Int), (List.replicate 16 (0 : Int))⟩ : S_api_Addr)).toArray) ha (fun w => by kernel_rfl) rfl rfl rfl rfl fun a w2 g3 hN4 ha => ?_
 have o1 : Ok [] (M) w.heap.size := Ok.nil _ _
 have o2 : Ok ([g3] ++ (M)) (M) w.heap.size := (Ok.app (hN4.ok _) (Ok.refl _ _))
 have hG := hG.chg hN4.chg o1 o2
 have p_i5_M : ∀ x ∈ [g3], x ∉ M := fun x hx hy => absurd (hM x (hy)) (Nat.not_lt.2 ((hN4.ge1) x hx))
 have e_i5 : ∀ x ∈ [g3], w.heap.size ≤ x := fun x hx => Nat.le_trans hC.size ((hN4.ge1) x hx)
 have hM : MS ([g3] ++ (M)) w2 := (MS.app hN4.ms (hM.chg hN4.chg))
 have hC := hC.trans hN4.chg (Ok.nil _ _)
 have hBg3 : Box w2 g3 (cS_api_Addr (⟨(0 : Int), (List.replicate 16 (0 : Int))⟩ : S_api_Addr)) := hN4.box
 refine seg ha 1 [(0, .string (bstr a0)), (2, .pointer (some ⟨g3, 0, none⟩))] (by kernel_rfl) fun a ha => ?_
 refine hK1 _ _ ?_; try clear hK1 K1
 refine wp_seq_k fun K6 hK6 => ?_
 refine wp_seq_k fun K7 hK7 => ?_
 refine wp_region_lit ?_
 refine seg ha 2 [(0, .string (bstr a0)), (2, .pointer (some ⟨g3, 0, none⟩)), (7, .bool ((bstr a0).toList == (bstr ([] : List UInt8)).toList))] (by kernel_rfl) fun a ha => ?_
 refine hK7 _ _ ?_; try clear hK7 K7
 refine cnd ha rfl (fun hc8 => ?_) (fun hc8 => ?_)
 ·have H := ite_t hc8 H
  refine wp_seq_k fun K9 hK9 => ?_
  refine wp_region_lit ?_
  refine opk (v := .agg (cS_api_Addr (⟨(0 : Int), (List.replicate 16 (0 : Int))⟩ : S_api_Addr)).toArray) ha rfl rfl rfl rfl rfl (fun w => by kernel_rfl) fun a ha => ?_
  refine stA (l := (cS_api_Addr (⟨(0 : Int), (List.replicate 16 (0 : Int))⟩ : S_api_Addr))) ha rfl rfl rfl (by kernel_rfl) rfl rfl hBg3 rfl fun a w10 ha hb2 hc11 _ => ?_
  have o1 : Ok [g3] ([g3] ++ (M)) w2.heap.size := (fun _ h => .inl (ml h))
  have o2 : Ok ([g3] ++ (M)) ([g3] ++ (M)) w2.heap.size := (Ok.refl _ _)
  have hG := hG.chg hc11 o1 o2
  have hM : MS ([g3] ++ (M)) w10 := (hM.chg hc11)
  have hC := hC.trans hc11 (fun x h => .inr (e_i5 x h))
  have hBg3 : Box w10 g3 (cS_api_Addr (⟨(0 : Int), (List.replicate 16 (0 : Int))⟩ : S_api_Addr)) := hb2
  refine seg ha 1 [(2, .pointer (some ⟨g3, 0, none⟩)), (3, .int .i64 (0 : Int))] (by kernel_rfl) fun a ha => ?_
  refine hK9 _ _ ?_; try clear hK9 K9
  refine wp_ret ?_
  try simp only [Exit.then, Exit.inBlock]
  have o1 : Ok [] ([g3] ++ (M)) w10.heap.size := Ok.nil _ _
  have o2 : Ok (M) ([g3] ++ (M)) w10.heap.size := (fun _ h => .inl (mr (h)))
  have hG := hG.chg (Chg.refl [] _) o1 o2
  have hBg3 := hBg3.chg (Chg.refl [] _) (fun h => nomatch h)
  have hM : MS (M) w10 := (fun x h => hM.chg (Chg.refl [] _) x (mr (h)))
  have hC := hC.trans (Chg.refl [] _) (Ok.nil _ _)
  obtain rfl := Option.some.inj H
  refine rtr ha (res2 rfl (roA ha rfl hBg3 (by kernel_rfl)) (roT ha rfl)) ?_
  exact ⟨rfl, hC, hM⟩
 ·have H := ite_f hc8 H
  refine wp_skip ?_
  refine hK6 _ _ ?_; try clear hK6 K6
  refine wp_seq_k fun K12 hK12 => ?_
  refine wp_region_lit ?_
  refine seg ha 1 [(0, .string (bstr a0)), (2, .pointer (some ⟨g3, 0, none⟩)), (10, .string (bstr a0))] (by kernel_rfl) fun a ha => ?_
  obtain ⟨t13, H13, H⟩ := bind_some H
  refine cl ha (by rfl) (by kernel_rfl) (by rfl) (by rfl) (by rfl) (addr_read4.walk w2 _ hM a0 k _ H13) ?_
  rintro _ w13 ⟨rfl, hc13, hMn⟩ a ha
  have o1 : Ok [] ([g3] ++ (M)) w2.heap.size := Ok.nil _ _
  have o2 : Ok ([g3] ++ (M)) ([g3] ++ (M)) w2.heap.size := (Ok.refl _ _)
  have hG := hG.chg hc13 o1 o2
  have hBg3 := hBg3.chg hc13 (fun h => nomatch h)
  have hM : MS ([g3] ++ (M)) w13 := (hM.chg hc13)
  have hC := hC.trans hc13 (Ok.nil _ _)
  refine seg ha 3 [(0, .string (bstr a0)), (2, .pointer (some ⟨g3, 0, none⟩)), (12, .agg (cS_api_Addr t13.1).toArray), (13, .bool t13.2)] (by kernel_rfl) fun a ha => ?_
  refine al (cs := (cS_api_Addr (⟨(0 : Int), (List.replicate 16 (0 : Int))⟩ : S_api_Addr))) (z := .agg (cS_api_Addr (⟨(0 : Int), (List.replicate 16 (0 : Int))⟩ : S_api_Addr)).toArray) ha (fun w => by kernel_rfl) rfl rfl rfl rfl fun a w14 g15 hN16 ha => ?_
  have o1 : Ok [] ([g3] ++ (M)) w13.heap.size := Ok.nil _ _
  have o2 : Ok ([g15] ++ ([g3] ++ (M))) ([g3] ++ (M)) w13.heap.size := (Ok.app (hN16.ok _) (Ok.refl _ _))
  have hG := hG.chg hN16.chg o1 o2
  have hBg3 := hBg3.chg hN16.chg (fun h => nomatch h)
  have p_i17_i5 : ∀ x ∈ [g15], x ∉ ([g3]) := fun x hx hy => absurd (hM x (ml hy)) (Nat.not_lt.2 ((hN16.ge1) x hx))
  have p_i17_M : ∀ x ∈ [g15], x ∉ M := fun x hx hy => absurd (hM x (mr (hy))) (Nat.not_lt.2 ((hN16.ge1) x hx))
  have e_i17 : ∀ x ∈ [g15], w.heap.size ≤ x := fun x hx => Nat.le_trans hC.size ((hN16.ge1) x hx)
  have hM : MS ([g15] ++ ([g3] ++ (M))) w14 := (MS.app hN16.ms (hM.chg hN16.chg))
  have hC := hC.trans hN16.chg (Ok.nil _ _)
  have hBg15 : Box w14 g15 (cS_api_Addr (⟨(0 : Int), (List.replicate 16 (0 : Int))⟩ : S_api_Addr)) := hN16.box
  refine stA (l := (cS_api_Addr t13.1)) ha rfl rfl rfl (by kernel_rfl) rfl rfl hBg15 rfl fun a w18 ha hb2 hc19 _ => ?_
  have o1 : Ok [g15] ([g15] ++ ([g3] ++ (M))) w14.heap.size := (fun _ h => .inl (ml h))
  have o2 : Ok ([g15] ++ ([g3] ++ (M))) ([g15] ++ ([g3] ++ (M))) w14.heap.size := (Ok.refl _ _)
  have hG := hG.chg hc19 o1 o2
  have hBg3 := hBg3.chg hc19 ((fun x (hx : x ∈ [g3]) (hy : x ∈ [g15]) => p_i17_i5 x hy hx) g3 (by simp))
  have hM : MS ([g15] ++ ([g3] ++ (M))) w18 := (hM.chg hc19)
  have hC := hC.trans hc19 (fun x h => .inr (e_i17 x h))
  have hBg15 : Box w18 g15 (cS_api_Addr t13.1) := hb2
  refine seg ha 1 [(0, .string (bstr a0)), (2, .pointer (some ⟨g3, 0, none⟩)), (4, .pointer (some ⟨g15, 0, none⟩)), (5, .bool t13.2)] (by kernel_rfl) fun a ha => ?_
  refine hK12 _ _ ?_; try clear hK12 K12
  refine wp_seq_k fun K20 hK20 => ?_
  obtain ⟨s21, H21, H⟩ := bind_some H
  have J21 : ∀ (a : Act) (w21 : World), Has a Tryd.f12.ntmps [(0, .string (bstr a0)), (2, .pointer (some ⟨g3, 0, none⟩)), (4, .pointer (some ⟨g15, 0, none⟩)), (5, .bool s21.1)] → (Box w21 g3 (cS_api_Addr (⟨(0 : Int), (List.replicate 16 (0 : Int))⟩ : S_api_Addr))) → (Box w21 g15 (cS_api_Addr (⟨s21.2.1, s21.2.2⟩ : S_api_Addr))) → (GF w21 ([g15] ++ ([g3] ++ (M)))) → (Chg [] w w21) → (MS ([g15] ++ ([g3] ++ (M))) w21) → K20 a w21 := by
   intro a w21 ha hBg3 hBg15 hG hC hM
   refine hK20 _ _ ?_; try clear hK20 K20
   refine wp_seq_k fun K22 hK22 => ?_
   refine wp_seq_k fun K23 hK23 => ?_
   refine wp_region_lit ?_
   obtain ⟨s24, H24, H⟩ := bind_some H
   have J24 : ∀ (a : Act) (w24 : World), Has a Tryd.f12.ntmps [(2, .pointer (some ⟨g3, 0, none⟩)), (4, .pointer (some ⟨g15, 0, none⟩)), (28, .bool s24)] → (Box w24 g3 (cS_api_Addr (⟨(0 : Int), (List.replicate 16 (0 : Int))⟩ : S_api_Addr))) → (Box w24 g15 (cS_api_Addr (⟨s21.2.1, s21.2.2⟩ : S_api_Addr))) → (GF w24 ([g15] ++ ([g3] ++ (M)))) → (Chg [] w w24) → (MS ([g15] ++ ([g3] ++ (M))) w24) → K23 a w24 := by
    intro a w24 ha hBg3 hBg15 hG hC hM
    refine hK23 _ _ ?_; try clear hK23 K23
    refine cnd ha rfl (fun hc25 => ?_) (fun hc25 => ?_)
    ·have H := ite_t hc25 H
     refine wp_seq_k fun K26 hK26 => ?_
     refine wp_region_lit ?_
     refine opk (v := .agg (cS_api_Addr (⟨(0 : Int), (List.replicate 16 (0 : Int))⟩ : S_api_Addr)).toArray) ha rfl rfl rfl rfl rfl (fun w => by kernel_rfl) fun a ha => ?_
     refine stA (l := (cS_api_Addr (⟨(0 : Int), (List.replicate 16 (0 : Int))⟩ : S_api_Addr))) ha rfl rfl rfl (by kernel_rfl) rfl rfl hBg3 rfl fun a w27 ha hb2 hc28 _ => ?_
     have o1 : Ok [g3] ([g15] ++ ([g3] ++ (M))) w24.heap.size := (fun _ h => .inl (mr (ml h)))
     have o2 : Ok ([g15] ++ ([g3] ++ (M))) ([g15] ++ ([g3] ++ (M))) w24.heap.size := (Ok.refl _ _)
     have hG := hG.chg hc28 o1 o2
     have hBg15 := hBg15.chg hc28 (p_i17_i5 g15 (by simp))
     have hM : MS ([g15] ++ ([g3] ++ (M))) w27 := (hM.chg hc28)
     have hC := hC.trans hc28 (fun x h => .inr (e_i5 x h))
     have hBg3 : Box w27 g3 (cS_api_Addr (⟨(0 : Int), (List.replicate 16 (0 : Int))⟩ : S_api_Addr)) := hb2
     refine seg ha 1 [(2, .pointer (some ⟨g3, 0, none⟩)), (3, .int .i64 (4 : Int))] (by kernel_rfl) fun a ha => ?_
     refine hK26 _ _ ?_; try clear hK26 K26
     refine wp_ret ?_
     try simp only [Exit.then, Exit.inBlock]
     have o1 : Ok [] ([g15] ++ ([g3] ++ (M))) w27.heap.size := Ok.nil _ _
     have o2 : Ok (M) ([g15] ++ ([g3] ++ (M))) w27.heap.size := (fun _ h => .inl (mr (mr (h))))
     have hG := hG.chg (Chg.refl [] _) o1 o2
     have hBg3 := hBg3.chg (Chg.refl [] _) (fun h => nomatch h)
     have hBg15 := hBg15.chg (Chg.refl [] _) (fun h => nomatch h)
     have hM : MS (M) w27 := (fun x h => hM.chg (Chg.refl [] _) x (mr (mr (h))))
     have hC := hC.trans (Chg.refl [] _) (Ok.nil _ _)
     obtain rfl := Option.some.inj H
     refine rtr ha (res2 rfl (roA ha rfl hBg3 (by kernel_rfl)) (roT ha rfl)) ?_
     exact ⟨rfl, hC, hM⟩
    ·have H := ite_f hc25 H
     refine wp_skip ?_
     refine hK22 _ _ ?_; try clear hK22 K22
     refine wp_seq_k fun K29 hK29 => ?_
     refine wp_region_lit ?_
     refine ldA (cs := (cS_api_Addr (⟨s21.2.1, s21.2.2⟩ : S_api_Addr))) ha rfl (by kernel_rfl) rfl rfl rfl (cells_sub (Box.cells hBg15) (all := (cS_api_Addr (⟨s21.2.1, s21.2.2⟩ : S_api_Addr))) [] [] (by kernel_rfl)) fun a ha => ?_
     refine stA (l := (cS_api_Addr (⟨s21.2.1, s21.2.2⟩ : S_api_Addr))) ha rfl rfl rfl (by kernel_rfl) rfl rfl hBg3 rfl fun a w30 ha hb2 hc31 _ => ?_
     have o1 : Ok [g3] ([g15] ++ ([g3] ++ (M))) w24.heap.size := (fun _ h => .inl (mr (ml h)))
     have o2 : Ok ([g15] ++ ([g3] ++ (M))) ([g15] ++ ([g3] ++ (M))) w24.heap.size := (Ok.refl _ _)
     have hG := hG.chg hc31 o1 o2
     have hBg15 := hBg15.chg hc31 (p_i17_i5 g15 (by simp))
     have hM : MS ([g15] ++ ([g3] ++ (M))) w30 := (hM.chg hc31)
     have hC := hC.trans hc31 (fun x h => .inr (e_i5 x h))
     have hBg3 : Box w30 g3 (cS_api_Addr (⟨s21.2.1, s21.2.2⟩ : S_api_Addr)) := hb2
     refine seg ha 1 [(2, .pointer (some ⟨g3, 0, none⟩)), (3, .int .i64 (0 : Int))] (by kernel_rfl) fun a ha => ?_
     refine hK29 _ _ ?_; try clear hK29 K29
     refine wp_ret ?_
     try simp only [Exit.then, Exit.inBlock]
     have o1 : Ok [] ([g15] ++ ([g3] ++ (M))) w30.heap.size := Ok.nil _ _
     have o2 : Ok (M) ([g15] ++ ([g3] ++ (M))) w30.heap.size := (fun _ h => .inl (mr (mr (h))))
     have hG := hG.chg (Chg.refl [] _) o1 o2
     have hBg3 := hBg3.chg (Chg.refl [] _) (fun h => nomatch h)
     have hBg15 := hBg15.chg (Chg.refl [] _) (fun h => nomatch h)
     have hM : MS (M) w30 := (fun x h => hM.chg (Chg.refl [] _) x (mr (mr (h))))
     have hC := hC.trans (Chg.refl [] _) (Ok.nil _ _)
     obtain rfl := Option.some.inj H
     refine rtr ha (res2 rfl (roA ha rfl hBg3 (by kernel_rfl)) (roT ha rfl)) ?_
     exact ⟨rfl, hC, hM⟩
   have H := H24
   refine seg ha 3 [(23, .bool (!s21.1)), (0, .string (bstr a0)), (2, .pointer (some ⟨g3, 0, none⟩)), (4, .pointer (some ⟨g15, 0, none⟩))] (by kernel_rfl) fun a ha => ?_
   rcases Bool.eq_false_or_eq_true (!s21.1) with hb32 | hb32
   ·have ha := ha.lit hb32
    have H := ite_t hb32 H
    refine sgh ha 5 [1, 1, 1, 1, 3] [(2, .pointer (some ⟨g3, 0, none⟩)), (4, .pointer (some ⟨g15, 0, none⟩)), (28, .bool true)] (by kernel_rfl) fun a ha => ?_
    obtain rfl := Option.some.inj H
    exact J24 _ _ (ha.sel (by kernel_rfl)) hBg3 hBg15 hG hC hM
   ·have ha := ha.lit hb32
    have H := ite_f hb32 H
    refine ldA (cs := (cS_api_Addr (⟨s21.2.1, s21.2.2⟩ : S_api_Addr))) ha rfl (by kernel_rfl) rfl rfl rfl (cells_sub (Box.cells hBg15) (all := (cS_api_Addr (⟨s21.2.1, s21.2.2⟩ : S_api_Addr))) [] [] (by kernel_rfl)) fun a ha => ?_
    obtain ⟨t33, H33, H⟩ := bind_some H
    refine cl ha (by rfl) (by kernel_rfl) (by rfl) (by rfl) (by rfl) (addr_Text.walk w21 _ hM hG (⟨s21.2.1, s21.2.2⟩ : S_api_Addr) k _ H33) ?_
    rintro _ w33 ⟨rfl, hc33, hMn⟩ a ha
    have o1 : Ok [] ([g15] ++ ([g3] ++ (M))) w21.heap.size := Ok.nil _ _
    have o2 : Ok ([g15] ++ ([g3] ++ (M))) ([g15] ++ ([g3] ++ (M))) w21.heap.size := (Ok.refl _ _)
    have hG := hG.chg hc33 o1 o2
    have hBg3 := hBg3.chg hc33 (fun h => nomatch h)
    have hBg15 := hBg15.chg hc33 (fun h => nomatch h)
    have hM : MS ([g15] ++ ([g3] ++ (M))) w33 := (hM.chg hc33)
    have hC := hC.trans hc33 (Ok.nil _ _)
    refine sgh ha 3 [2, 2, 4] [(2, .pointer (some ⟨g3, 0, none⟩)), (4, .pointer (some ⟨g15, 0, none⟩)), (28, .bool (!((bstr t33).toList == (bstr a0).toList)))] (by kernel_rfl) fun a ha => ?_
    obtain rfl := Option.some.inj H
    exact J24 _ _ (ha.sel (by kernel_rfl)) hBg3 hBg15 hG hC hM
  have H := H21
  refine wp_seq_k fun K34 hK34 => ?_
  refine wp_region_lit ?_
  refine seg ha 2 [(0, .string (bstr a0)), (2, .pointer (some ⟨g3, 0, none⟩)), (4, .pointer (some ⟨g15, 0, none⟩)), (5, .bool t13.2), (15, .bool (!t13.2))] (by kernel_rfl) fun a ha => ?_
  refine hK34 _ _ ?_; try clear hK34 K34
  refine cnd ha rfl (fun hc35 => ?_) (fun hc35 => ?_)
  ·have H := ite_t hc35 H
   refine wp_region_lit ?_
   refine seg ha 1 [(0, .string (bstr a0)), (2, .pointer (some ⟨g3, 0, none⟩)), (4, .pointer (some ⟨g15, 0, none⟩)), (17, .string (bstr a0))] (by kernel_rfl) fun a ha => ?_
   obtain ⟨t36, H36, H⟩ := bind_some H
   refine cl ha (by rfl) (by kernel_rfl) (by rfl) (by rfl) (by rfl) (addr_read6.walk w18 _ hM hG a0 k _ H36) ?_
   rintro _ w36 ⟨rfl, hc36, hMn⟩ a ha
   have o1 : Ok [] ([g15] ++ ([g3] ++ (M))) w18.heap.size := Ok.nil _ _
   have o2 : Ok ([g15] ++ ([g3] ++ (M))) ([g15] ++ ([g3] ++ (M))) w18.heap.size := (Ok.refl _ _)
   have hG := hG.chg hc36 o1 o2
   have hBg3 := hBg3.chg hc36 (fun h => nomatch h)
   have hBg15 := hBg15.chg hc36 (fun h => nomatch h)
   have hM : MS ([g15] ++ ([g3] ++ (M))) w36 := (hM.chg hc36)
   have hC := hC.trans hc36 (Ok.nil _ _)
   refine seg ha 3 [(0, .string (bstr a0)), (2, .pointer (some ⟨g3, 0, none⟩)), (4, .pointer (some ⟨g15, 0, none⟩)), (19, .agg (cS_api_Addr t36.1).toArray), (20, .bool t36.2)] (by kernel_rfl) fun a ha => ?_
   refine stA (l := (cS_api_Addr t36.1)) ha rfl rfl rfl (by kernel_rfl) rfl rfl hBg15 rfl fun a w37 ha hb2 hc38 _ => ?_
   have o1 : Ok [g15] ([g15] ++ ([g3] ++ (M))) w36.heap.size := (fun _ h => .inl (ml h))
   have o2 : Ok ([g15] ++ ([g3] ++ (M))) ([g15] ++ ([g3] ++ (M))) w36.heap.size := (Ok.refl _ _)
   have hG := hG.chg hc38 o1 o2
   have hBg3 := hBg3.chg hc38 ((fun x (hx : x ∈ [g3]) (hy : x ∈ [g15]) => p_i17_i5 x hy hx) g3 (by simp))
   have hM : MS ([g15] ++ ([g3] ++ (M))) w37 := (hM.chg hc38)
   have hC := hC.trans hc38 (fun x h => .inr (e_i17 x h))
   have hBg15 : Box w37 g15 (cS_api_Addr t36.1) := hb2
   refine seg ha 1 [(0, .string (bstr a0)), (2, .pointer (some ⟨g3, 0, none⟩)), (4, .pointer (some ⟨g15, 0, none⟩)), (5, .bool t36.2)] (by kernel_rfl) fun a ha => ?_
   obtain rfl := Option.some.inj H
   exact J21 _ _ (ha.sel (by kernel_rfl)) hBg3 hBg15 hG hC hM
  ·have H := ite_f hc35 H
   refine wp_skip ?_
   obtain rfl := Option.some.inj H
   exact J21 _ _ (ha.sel (by kernel_rfl)) hBg3 hBg15 hG hC hM
def addr_mask.f (a0 : Int) : Option (Int) := (if (decide (a0 ≤ (0 : Int))) = true then some (((0 : Int) : Int)) else (if (decide (a0 ≥ (8 : Int))) = true then some (((255 : Int) : Int)) else (if 0 ≤ (IntKind.i64.wrap ((8 : Int) - a0)) then some ((IntKind.u8.wrap ((255 : Int) * 2 ^ (min (Int.toNat (IntKind.i64.wrap ((8 : Int) - a0))) IntKind.u8.bits)) : Int)) else none)))
set_option maxRecDepth 100000 in
theorem addr_mask.walk (w : World) (M : List Nat) (hM : MS M w) (a0 : Int) (r : Int) (H : addr_mask.f a0 = some r) :
    To Tryd.prog 68 [.int .i64 a0] w fun v w' => v = .int .u8 r ∧ Chg [] w w' ∧ MS (M) w' := by
 unfold addr_mask.f at H
 refine ent Tryd.func68 rfl [(0, .int .i64 a0)] rfl (by rfl) fun a ha => ?_
 have hC : Chg [] w w := Chg.refl _ _
 refine wp_seq_k fun K1 hK1 => ?_
 refine wp_region_lit ?_
 refine seg ha 1 [(0, .int .i64 a0)] (by kernel_rfl) fun a ha => ?_
 refine hK1 _ _ ?_; try clear hK1 K1
 refine wp_seq_k fun K2 hK2 => ?_
 refine wp_block ?_
 refine wp_seq_k fun K3 hK3 => ?_
 refine wp_region_lit ?_
 refine seg ha 3 [(0, .int .i64 a0), (3, .bool (decide (a0 ≤ (0 : Int))))] (by kernel_rfl) fun a ha => ?_
 refine hK3 _ _ ?_; try clear hK3 K3
 refine cnd ha rfl (fun hc4 => ?_) (fun hc4 => ?_)
 ·have H := ite_t hc4 H
  refine wp_seq_k fun K5 hK5 => ?_
  refine wp_region_lit ?_
  refine seg ha 1 [(2, .int .u8 (0 : Int))] (by kernel_rfl) fun a ha => ?_
  refine hK5 _ _ ?_; try clear hK5 K5
  refine wp_ret ?_
  try simp only [Exit.then, Exit.inBlock]
  obtain rfl := Option.some.inj H
  refine rt1 ha rfl rfl ?_
  exact ⟨rfl, hC, hM⟩
 ·have H := ite_f hc4 H
  refine wp_seq_k fun K6 hK6 => ?_
  refine wp_region_lit ?_
  refine seg ha 3 [(0, .int .i64 a0), (6, .bool (decide (a0 ≥ (8 : Int))))] (by kernel_rfl) fun a ha => ?_
  refine hK6 _ _ ?_; try clear hK6 K6
  refine cnd ha rfl (fun hc7 => ?_) (fun hc7 => ?_)
  ·have H := ite_t hc7 H
   refine wp_seq_k fun K8 hK8 => ?_
   refine wp_region_lit ?_
   refine seg ha 1 [(2, .int .u8 (255 : Int))] (by kernel_rfl) fun a ha => ?_
   refine hK8 _ _ ?_; try clear hK8 K8
   refine wp_ret ?_
   try simp only [Exit.then, Exit.inBlock]
   obtain rfl := Option.some.inj H
   refine rt1 ha rfl rfl ?_
   exact ⟨rfl, hC, hM⟩
  ·have H := ite_f hc7 H
   refine wp_skip ?_
   refine hK2 _ _ ?_; try clear hK2 K2
   refine wp_seq_k fun K9 hK9 => ?_
   refine wp_region_lit ?_
   refine seg ha 2 [(10, .int .i64 (IntKind.i64.wrap ((8 : Int) - a0)))] (by kernel_rfl) fun a ha => ?_
   obtain ⟨hx10, H⟩ := ite_some H
   refine hop (v := .int .u8 (IntKind.u8.wrap ((255 : Int) * 2 ^ (min (Int.toNat (IntKind.i64.wrap ((8 : Int) - a0))) IntKind.u8.bits)))) (w' := w) ha rfl rfl rfl (shl_run ha (by rfl) (by rfl) hx10 _) fun a ha => ?_
   refine seg ha 1 [(2, .int .u8 (IntKind.u8.wrap ((255 : Int) * 2 ^ (min (Int.toNat (IntKind.i64.wrap ((8 : Int) - a0))) IntKind.u8.bits))))] (by kernel_rfl) fun a ha => ?_
   refine hK9 _ _ ?_; try clear hK9 K9
   refine wp_ret ?_
   try simp only [Exit.then, Exit.inBlock]
   obtain rfl := Option.some.inj H
   refine rt1 ha rfl rfl ?_
   exact ⟨rfl, hC, hM⟩
def addr_cut.l0 (a1 : Int) : Nat → Int → (List Int) → Option (List Int)
  | 0, _, _ => none
  | kk + 1, x13, x14 => (if (decide (x13 < (16 : Int))) = true then (if 0 ≤ x13 ∧ x13 < (16 : Int) then (addr_mask.f (IntKind.i64.wrap (a1 - (IntKind.i64.wrap ((8 : Int) * x13))))).bind fun t24 => (if 0 ≤ x13 ∧ x13 < (16 : Int) then addr_cut.l0 a1 kk (IntKind.i64.wrap (x13 + (1 : Int))) ((arL 16 x14).set (Int.toNat x13) (IntKind.u8.wrap (BitVec.ofInt IntKind.u8.bits (ar x14 (Int.toNat x13)) &&& BitVec.ofInt IntKind.u8.bits t24).toNat)) else none) else none) else some (x14 : List Int))
def addr_cut.f (k : Nat) (a0 : S_api_Addr) (a1 : Int) : Option (S_api_Addr) := (addr_cut.l0 a1 k (0 : Int) a0.B).bind fun s12 => some (((⟨a0.Size, s12⟩ : S_api_Addr) : S_api_Addr))
set_option maxRecDepth 100000 in
theorem addr_cut.walk (w : World) (M : List Nat) (hM : MS M w) (a0 : S_api_Addr) (a1 : Int) (k : Nat) (r : S_api_Addr) (H : addr_cut.f k a0 a1 = some r) :
    To Tryd.prog 45 [.agg (cS_api_Addr a0).toArray, .int .i64 a1] w fun v w' => v = .agg (cS_api_Addr r).toArray ∧ Chg [] w w' ∧ MS (M) w' := by
 unfold addr_cut.f at H
 refine ent Tryd.func45 rfl [(0, .agg (cS_api_Addr a0).toArray), (1, .int .i64 a1)] rfl (by rfl) fun a ha => ?_
 have hC : Chg [] w w := Chg.refl _ _
 refine wp_seq_k fun K1 hK1 => ?_
 refine wp_region_lit ?_
 refine bx (cs := (cS_api_Addr a0)) ha rfl rfl rfl rfl rfl fun a w2 g3 hN4 ha => ?_
 have p_i5_M : ∀ x ∈ [g3], x ∉ M := fun x hx hy => absurd (hM x (hy)) (Nat.not_lt.2 ((hN4.ge1) x hx))
 have e_i5 : ∀ x ∈ [g3], w.heap.size ≤ x := fun x hx => Nat.le_trans hC.size ((hN4.ge1) x hx)
 have hM : MS ([g3] ++ (M)) w2 := (MS.app hN4.ms (hM.chg hN4.chg))
 have hC := hC.trans hN4.chg (Ok.nil _ _)
 have hBg3 : Box w2 g3 (cS_api_Addr a0) := hN4.box
 refine al (cs := (cS_api_Addr (⟨(0 : Int), (List.replicate 16 (0 : Int))⟩ : S_api_Addr))) (z := .agg (cS_api_Addr (⟨(0 : Int), (List.replicate 16 (0 : Int))⟩ : S_api_Addr)).toArray) ha (fun w => by kernel_rfl) rfl rfl rfl rfl fun a w6 g7 hN8 ha => ?_
 have hBg3 := hBg3.chg hN8.chg (fun h => nomatch h)
 have p_i9_i5 : ∀ x ∈ [g7], x ∉ ([g3]) := fun x hx hy => absurd (hM x (ml hy)) (Nat.not_lt.2 ((hN8.ge1) x hx))
 have p_i9_M : ∀ x ∈ [g7], x ∉ M := fun x hx hy => absurd (hM x (mr (hy))) (Nat.not_lt.2 ((hN8.ge1) x hx))
 have e_i9 : ∀ x ∈ [g7], w.heap.size ≤ x := fun x hx => Nat.le_trans hC.size ((hN8.ge1) x hx)
 have hM : MS ([g7] ++ ([g3] ++ (M))) w6 := (MS.app hN8.ms (hM.chg hN8.chg))
 have hC := hC.trans hN8.chg (Ok.nil _ _)
 have hBg7 : Box w6 g7 (cS_api_Addr (⟨(0 : Int), (List.replicate 16 (0 : Int))⟩ : S_api_Addr)) := hN8.box
 refine hK1 _ _ ?_; try clear hK1 K1
 refine wp_seq_k fun K10 hK10 => ?_
 refine wp_seq_k fun K11 hK11 => ?_
 refine wp_region_lit ?_
 refine seg ha 1 [(1, .int .i64 a1), (2, .pointer (some ⟨g3, 0, none⟩)), (4, .pointer (some ⟨g7, 0, none⟩)), (6, .int .i64 (0 : Int))] (by kernel_rfl) fun a ha => ?_
 refine hK11 _ _ ?_; try clear hK11 K11
 refine wp_block ?_
 obtain ⟨s12, H12, H⟩ := bind_some H
 have J12 : ∀ (a : Act) (wx12 : World), Has a Tryd.f45.ntmps [(2, .pointer (some ⟨g3, 0, none⟩)), (4, .pointer (some ⟨g7, 0, none⟩))] → (Box wx12 g3 (cS_api_Addr (⟨a0.Size, s12⟩ : S_api_Addr))) → (Box wx12 g7 (cS_api_Addr (⟨(0 : Int), (List.replicate 16 (0 : Int))⟩ : S_api_Addr))) → (Chg [] w wx12) → (MS ([g7] ++ ([g3] ++ (M))) wx12) → K10 a wx12 := by
  intro a wx12 ha hBg3 hBg7 hC hM
  refine hK10 _ _ ?_; try clear hK10 K10
  refine wp_seq_k fun K15 hK15 => ?_
  refine wp_region_lit ?_
  refine ldA (cs := (cS_api_Addr (⟨a0.Size, s12⟩ : S_api_Addr))) ha rfl (by kernel_rfl) rfl rfl rfl (cells_sub (Box.cells hBg3) (all := (cS_api_Addr (⟨a0.Size, s12⟩ : S_api_Addr))) [] [] (by kernel_rfl)) fun a ha => ?_
  refine stA (l := (cS_api_Addr (⟨a0.Size, s12⟩ : S_api_Addr))) ha rfl rfl rfl (by kernel_rfl) rfl rfl hBg7 rfl fun a w16 ha hb2 hc17 _ => ?_
  have hBg3 := hBg3.chg hc17 ((fun x (hx : x ∈ [g3]) (hy : x ∈ [g7]) => p_i9_i5 x hy hx) g3 (by simp))
  have hM : MS ([g7] ++ ([g3] ++ (M))) w16 := (hM.chg hc17)
  have hC := hC.trans hc17 (fun x h => .inr (e_i9 x h))
  have hBg7 : Box w16 g7 (cS_api_Addr (⟨a0.Size, s12⟩ : S_api_Addr)) := hb2
  refine hK15 _ _ ?_; try clear hK15 K15
  refine wp_ret ?_
  try simp only [Exit.then, Exit.inBlock]
  have hBg3 := hBg3.chg (Chg.refl [] _) (fun h => nomatch h)
  have hBg7 := hBg7.chg (Chg.refl [] _) (fun h => nomatch h)
  have hM : MS (M) w16 := (fun x h => hM.chg (Chg.refl [] _) x (mr (mr (h))))
  have hC := hC.trans (Chg.refl [] _) (Ok.nil _ _)
  obtain rfl := Option.some.inj H
  refine rtr ha (res1 rfl (roA ha rfl hBg7 (by kernel_rfl))) ?_
  exact ⟨rfl, hC, hM⟩
 have Hc12 := H
 have H := H12
 refine wp_loop_ghost (fun kk a w12 => ∃ (x13 : Int) (x14 : List Int), addr_cut.l0 a1 kk x13 x14 = some s12 ∧ Has a Tryd.f45.ntmps [(1, .int .i64 a1), (2, .pointer (some ⟨g3, 0, none⟩)), (4, .pointer (some ⟨g7, 0, none⟩)), (6, .int .i64 x13)] ∧ (Box w12 g3 (cS_api_Addr (⟨a0.Size, x14⟩ : S_api_Addr))) ∧ (Box w12 g7 (cS_api_Addr (⟨(0 : Int), (List.replicate 16 (0 : Int))⟩ : S_api_Addr))) ∧ (Chg [] w w12) ∧ (MS ([g7] ++ ([g3] ++ (M))) w12)) k ?_ ?_
 ·skip
  exact ⟨(0 : Int), a0.B, H, (ha.sel (by kernel_rfl)), hBg3, hBg7, hC, hM⟩
 ·rintro kk a w12 ⟨x13, x14, H, ha, hBg3, hBg7, hC, hM⟩
  obtain _ | kk := kk
  ·exact nomatch (show none = some _ from H)
  rw [addr_cut.l0] at H
  refine wp_seq_k fun K18 hK18 => ?_
  refine wp_region_lit ?_
  refine seg ha 1 [(1, .int .i64 a1), (2, .pointer (some ⟨g3, 0, none⟩)), (4, .pointer (some ⟨g7, 0, none⟩)), (6, .int .i64 x13), (7, .bool (decide (x13 < (16 : Int))))] (by kernel_rfl) fun a ha => ?_
  refine hK18 _ _ ?_; try clear hK18 K18
  refine wp_seq_k fun K19 hK19 => ?_
  refine cnd ha rfl (fun hc20 => ?_) (fun hc20 => ?_)
  ·have H := ite_t hc20 H
   refine wp_skip ?_
   refine hK19 _ _ ?_; try clear hK19 K19
   refine wp_seq_k fun K21 hK21 => ?_
   refine wp_block ?_
   refine wp_seq_k fun K22 hK22 => ?_
   refine wp_region_lit ?_
   refine seg ha 2 [(1, .int .i64 a1), (2, .pointer (some ⟨g3, 0, none⟩)), (4, .pointer (some ⟨g7, 0, none⟩)), (5, .int .i64 x13), (6, .int .i64 x13)] (by kernel_rfl) fun a ha => ?_
   refine hK22 _ _ ?_; try clear hK22 K22
   refine drq 12 (fun w' => Chg [] w12 w') (by kernel_rfl) (by kernel_rfl) (fun _ h => h) ?_
   refine qp 0 (.int .i64 x13) ha rfl rfl rfl (by kernel_rfl) fun a ha => ?_
   refine qp 0 (.pointer (some ⟨g3, 1, none⟩)) ha rfl rfl rfl (by kernel_rfl) fun a ha => ?_
   obtain ⟨⟨hx23, hx23'⟩, H⟩ := ite_some H
   have hi23 : (Int.toNat x13) < 16 := by omega
   refine qv (v := .pointer (some ⟨g3, 1 + (Int.toNat x13), none⟩)) ha rfl rfl rfl (fun w' hs => ixA_run (T := 5) (N := 16) (g := g3) (o' := 1) (k := .i64) (i := x13) ha (by kernel_rfl) (by kernel_rfl) (by rfl) (by rfl) hx23 hx23' w') fun a ha => ?_
   refine qv (v := .int .u8 (ar x14 (Int.toNat x13))) ha rfl rfl rfl (fun w' hs => ld_run ha rfl (by kernel_rfl) ((Box.chg hBg3 hs (fun h => nomatch h)).cell' (o := 1 + (Int.toNat x13)) rfl (arr_cell (k := .u8) (m := 16) (x := x14) ([.int .i64 a0.Size] : List Value) ([] : List Value) (by kernel_rfl) hi23))) fun a ha => ?_
   refine qp 0 (.int .i64 a1) ha rfl rfl rfl (by kernel_rfl) fun a ha => ?_
   refine qp 0 (.int .i64 x13) ha rfl rfl rfl (by kernel_rfl) fun a ha => ?_
   refine qp 0 (.int .i64 (IntKind.i64.wrap ((8 : Int) * x13))) ha rfl rfl rfl (by kernel_rfl) fun a ha => ?_
   refine qp 0 (.int .i64 (IntKind.i64.wrap (a1 - (IntKind.i64.wrap ((8 : Int) * x13))))) ha rfl rfl rfl (by kernel_rfl) fun a ha => ?_
   obtain ⟨t24, H24, H⟩ := bind_some H
   refine qc (.int .u8 t24) ha (by rfl) (by kernel_rfl) (by rfl) (by rfl) (by rfl) (fun w' hs => (addr_mask.walk w' [] (MS.nil _) (IntKind.i64.wrap (a1 - (IntKind.i64.wrap ((8 : Int) * x13)))) _ H24).mono fun v w'' ⟨hv, hc, _⟩ => ⟨hv, hs.trans hc (Ok.nil _ _)⟩) fun a ha => ?_
   refine qp 0 (.int .u8 (IntKind.u8.wrap (BitVec.ofInt IntKind.u8.bits (ar x14 (Int.toNat x13)) &&& BitVec.ofInt IntKind.u8.bits t24).toNat)) ha rfl rfl rfl (by kernel_rfl) fun a ha => ?_
   refine qp 0 (.pointer (some ⟨g3, 1, none⟩)) ha rfl rfl rfl (by kernel_rfl) fun a ha => ?_
   obtain ⟨⟨hx25, hx25'⟩, H⟩ := ite_some H
   have hi25 : (Int.toNat x13) < 16 := by omega
   refine qv (v := .pointer (some ⟨g3, 1 + (Int.toNat x13), none⟩)) ha rfl rfl rfl (fun w' hs => ixA_run (T := 5) (N := 16) (g := g3) (o' := 1) (k := .i64) (i := x13) ha (by kernel_rfl) (by kernel_rfl) (by rfl) (by rfl) hx25 hx25' w') fun a ha => ?_
   refine wpQuiet_nil ?_
   intro w26 hc27
   have hBg3 := hBg3.chg hc27 (fun h => nomatch h)
   have hBg7 := hBg7.chg hc27 (fun h => nomatch h)
   have hM : MS ([g7] ++ ([g3] ++ (M))) w26 := (hM.chg hc27)
   have hC := hC.trans hc27 (Ok.nil _ _)
   refine st (o' := 1 + (Int.toNat x13)) ha rfl rfl rfl (by kernel_rfl) rfl rfl hBg3 (arr_lt (k := .u8) (m := 16) (x := x14) ([.int .i64 a0.Size] : List Value) ([] : List Value) (by kernel_rfl) hi25) fun a w28 ha hb2 hc29 _ => ?_
   have hBg7 := hBg7.chg hc29 (p_i9_i5 g7 (by simp))
   have hM : MS ([g7] ++ ([g3] ++ (M))) w28 := (hM.chg hc29)
   have hC := hC.trans hc29 (fun x h => .inr (e_i5 x h))
   have hBg3 : Box w28 g3 (cS_api_Addr (⟨a0.Size, ((arL 16 x14).set (Int.toNat x13) (IntKind.u8.wrap (BitVec.ofInt IntKind.u8.bits (ar x14 (Int.toNat x13)) &&& BitVec.ofInt IntKind.u8.bits t24).toNat))⟩ : S_api_Addr)) := Box.setA (k := .u8) (m := 16) (x := x14) ([.int .i64 a0.Size] : List Value) ([] : List Value) hb2 (by kernel_rfl) hi25 (by kernel_rfl)
   refine hK21 _ _ ?_; try clear hK21 K21
   refine wp_region_lit ?_
   refine seg ha 2 [(1, .int .i64 a1), (2, .pointer (some ⟨g3, 0, none⟩)), (4, .pointer (some ⟨g7, 0, none⟩)), (6, .int .i64 (IntKind.i64.wrap (x13 + (1 : Int))))] (by kernel_rfl) fun a ha => ?_
   exact ⟨kk, Nat.lt_succ_self _, ⟨IntKind.i64.wrap (x13 + (1 : Int)), ((arL 16 x14).set (Int.toNat x13) (IntKind.u8.wrap (BitVec.ofInt IntKind.u8.bits (ar x14 (Int.toNat x13)) &&& BitVec.ofInt IntKind.u8.bits t24).toNat)), H, (ha.sel (by kernel_rfl)), hBg3, hBg7, hC, hM⟩⟩
  ·have H := ite_f hc20 H
   refine wp_exit ?_
   simp only [Exit.then, Exit.inBlock, ↓reduceIte, Nat.reduceEqDiff]
   obtain rfl := Option.some.inj H
   exact J12 _ _ (ha.sel (by kernel_rfl)) hBg3 hBg7 hC hM
def addr_Cut.f (k : Nat) (a0 : S_api_Addr) (a1 : Int) : Option (S_api_Prefix × Int) := ((addr_Right.f k a0).bind fun t22 => (if (!t22) = true then some (true : Bool) else (if (a0.Size == (0 : Int)) = true then some (true : Bool) else (if (decide (a1 < (0 : Int))) = true then some (true : Bool) else some (decide (a1 > (IntKind.i64.wrap ((8 : Int) * a0.Size))) : Bool))))).bind fun s13 => (if s13 = true then some (((⟨(⟨(0 : Int), (List.replicate 16 (0 : Int))⟩ : S_api_Addr), (0 : Int)⟩ : S_api_Prefix) : S_api_Prefix), ((1 : Int) : Int)) else (addr_cut.f k a0 a1).bind fun t19 => some (((⟨t19, a1⟩ : S_api_Prefix) : S_api_Prefix), ((0 : Int) : Int)))
set_option maxRecDepth 100000 in
theorem addr_Cut.walk (w : World) (M : List Nat) (hM : MS M w) (a0 : S_api_Addr) (a1 : Int) (k : Nat) (r : S_api_Prefix × Int) (H : addr_Cut.f k a0 a1 = some r) :
    To Tryd.prog 16 [.agg (cS_api_Addr a0).toArray, .int .i64 a1] w fun v w' => v = .tuple #[.agg (cS_api_Prefix r.1).toArray, .int .i64 r.2] ∧ Chg [] w w' ∧ MS (M) w' := by
 unfold addr_Cut.f at H
 refine ent Tryd.func16 rfl [(0, .agg (cS_api_Addr a0).toArray), (1, .int .i64 a1)] rfl (by rfl) fun a ha => ?_
 have hC : Chg [] w w := Chg.refl _ _
 refine wp_seq_k fun K1 hK1 => ?_
 refine wp_region_lit ?_
 refine bx (cs := (cS_api_Addr a0)) ha rfl rfl rfl rfl rfl fun a w2 g3 hN4 ha => ?_
 have hn6 := hN4.notin hM
 have hM : MS (M) w2 := (hM.chg hN4.chg)
 have hC := hC.trans hN4.chg (Ok.nil _ _)
 have hE5 : ∀ j v, (cS_api_Addr a0)[j]? = some v → w2.cell? ⟨g3, 0 + j, none⟩ = some v := Box.cells (New.box hN4)
 refine al (cs := (cS_api_Prefix (⟨(⟨(0 : Int), (List.replicate 16 (0 : Int))⟩ : S_api_Addr), (0 : Int)⟩ : S_api_Prefix))) (z := .agg (cS_api_Prefix (⟨(⟨(0 : Int), (List.replicate 16 (0 : Int))⟩ : S_api_Addr), (0 : Int)⟩ : S_api_Prefix)).toArray) ha (fun w => by kernel_rfl) rfl rfl rfl rfl fun a w7 g8 hN9 ha => ?_
 have o1 : Ok [] (M) w2.heap.size := Ok.nil _ _
 have o2 : Ok ([g8] ++ (M)) (M) w2.heap.size := (Ok.app (hN9.ok _) (Ok.refl _ _))
 have q_hn6 : g3 ∉ [g8] ++ (M) := fun h => (o2 g3 h).elim hn6 (fun h => absurd (lt_cell (hE5 0 _ rfl)) (Nat.not_lt.2 h))
 have hE5 : ∀ j v, (cS_api_Addr a0)[j]? = some v → w7.cell? ⟨g3, 0 + j, none⟩ = some v := fun j v hv => (cell_keep hN9.chg o1 hn6 (hE5 j v hv))
 have hn6 := q_hn6
 have p_i10_M : ∀ x ∈ [g8], x ∉ M := fun x hx hy => absurd (hM x (hy)) (Nat.not_lt.2 ((hN9.ge1) x hx))
 have e_i10 : ∀ x ∈ [g8], w.heap.size ≤ x := fun x hx => Nat.le_trans hC.size ((hN9.ge1) x hx)
 have hM : MS ([g8] ++ (M)) w7 := (MS.app hN9.ms (hM.chg hN9.chg))
 have hC := hC.trans hN9.chg (Ok.nil _ _)
 have hBg8 : Box w7 g8 (cS_api_Prefix (⟨(⟨(0 : Int), (List.replicate 16 (0 : Int))⟩ : S_api_Addr), (0 : Int)⟩ : S_api_Prefix)) := hN9.box
 refine seg ha 1 [(1, .int .i64 a1), (2, .pointer (some ⟨g3, 0, none⟩)), (4, .pointer (some ⟨g8, 0, none⟩))] (by kernel_rfl) fun a ha => ?_
 refine hK1 _ _ ?_; try clear hK1 K1
 refine wp_seq_k fun K11 hK11 => ?_
 refine wp_seq_k fun K12 hK12 => ?_
 refine wp_region_lit ?_
 obtain ⟨s13, H13, H⟩ := bind_some H
 have J13 : ∀ (a : Act) (w13 : World), Has a Tryd.f16.ntmps [(1, .int .i64 a1), (2, .pointer (some ⟨g3, 0, none⟩)), (4, .pointer (some ⟨g8, 0, none⟩)), (24, .bool s13)] → (Box w13 g8 (cS_api_Prefix (⟨(⟨(0 : Int), (List.replicate 16 (0 : Int))⟩ : S_api_Addr), (0 : Int)⟩ : S_api_Prefix))) → (∀ j v, (cS_api_Addr a0)[j]? = some v → w13.cell? ⟨g3, 0 + j, none⟩ = some v) → (g3 ∉ ([g8] ++ (M))) → (Chg [] w w13) → (MS ([g8] ++ (M)) w13) → K12 a w13 := by
  intro a w13 ha hBg8 hE5 hn6 hC hM
  refine hK12 _ _ ?_; try clear hK12 K12
  refine cnd ha rfl (fun hc14 => ?_) (fun hc14 => ?_)
  ·have H := ite_t hc14 H
   refine wp_seq_k fun K15 hK15 => ?_
   refine wp_region_lit ?_
   refine opk (v := .agg (cS_api_Prefix (⟨(⟨(0 : Int), (List.replicate 16 (0 : Int))⟩ : S_api_Addr), (0 : Int)⟩ : S_api_Prefix)).toArray) ha rfl rfl rfl rfl rfl (fun w => by kernel_rfl) fun a ha => ?_
   refine stA (l := (cS_api_Prefix (⟨(⟨(0 : Int), (List.replicate 16 (0 : Int))⟩ : S_api_Addr), (0 : Int)⟩ : S_api_Prefix))) ha rfl rfl rfl (by kernel_rfl) rfl rfl hBg8 rfl fun a w16 ha hb2 hc17 _ => ?_
   have hM : MS ([g8] ++ (M)) w16 := (hM.chg hc17)
   have hC := hC.trans hc17 (fun x h => .inr (e_i10 x h))
   have hBg8 : Box w16 g8 (cS_api_Prefix (⟨(⟨(0 : Int), (List.replicate 16 (0 : Int))⟩ : S_api_Addr), (0 : Int)⟩ : S_api_Prefix)) := hb2
   refine seg ha 1 [(4, .pointer (some ⟨g8, 0, none⟩)), (5, .int .i64 (1 : Int))] (by kernel_rfl) fun a ha => ?_
   refine hK15 _ _ ?_; try clear hK15 K15
   refine wp_ret ?_
   try simp only [Exit.then, Exit.inBlock]
   have hBg8 := hBg8.chg (Chg.refl [] _) (fun h => nomatch h)
   have hM : MS (M) w16 := (fun x h => hM.chg (Chg.refl [] _) x (mr (h)))
   have hC := hC.trans (Chg.refl [] _) (Ok.nil _ _)
   obtain rfl := Option.some.inj H
   refine rtr ha (res2 rfl (roA ha rfl hBg8 (by kernel_rfl)) (roT ha rfl)) ?_
   exact ⟨rfl, hC, hM⟩
  ·have H := ite_f hc14 H
   refine wp_skip ?_
   refine hK11 _ _ ?_; try clear hK11 K11
   refine wp_seq_k fun K18 hK18 => ?_
   refine wp_region_lit ?_
   refine ldA (cs := (cS_api_Addr a0)) ha rfl (by kernel_rfl) rfl rfl rfl (cells_sub hE5 (all := (cS_api_Addr a0)) [] [] (by kernel_rfl)) fun a ha => ?_
   refine seg ha 1 [(1, .int .i64 a1), (4, .pointer (some ⟨g8, 0, none⟩)), (26, .agg (cS_api_Addr a0).toArray), (27, .int .i64 a1)] (by kernel_rfl) fun a ha => ?_
   obtain ⟨t19, H19, H⟩ := bind_some H
   refine cl ha (by rfl) (by kernel_rfl) (by rfl) (by rfl) (by rfl) (addr_cut.walk w13 _ hM a0 a1 k _ H19) ?_
   rintro _ w19 ⟨rfl, hc19, hMn⟩ a ha
   have hBg8 := hBg8.chg hc19 (fun h => nomatch h)
   have hM : MS ([g8] ++ (M)) w19 := (hM.chg hc19)
   have hC := hC.trans hc19 (Ok.nil _ _)
   refine seg ha 1 [(4, .pointer (some ⟨g8, 0, none⟩)), (28, .agg (cS_api_Addr t19).toArray), (29, .int .i64 a1)] (by kernel_rfl) fun a ha => ?_
   refine opk (v := .agg (cS_api_Prefix (⟨t19, a1⟩ : S_api_Prefix)).toArray) ha rfl rfl rfl rfl rfl (fun w => by kernel_rfl) fun a ha => ?_
   refine stA (l := (cS_api_Prefix (⟨t19, a1⟩ : S_api_Prefix))) ha rfl rfl rfl (by kernel_rfl) rfl rfl hBg8 rfl fun a w20 ha hb2 hc21 _ => ?_
   have hM : MS ([g8] ++ (M)) w20 := (hM.chg hc21)
   have hC := hC.trans hc21 (fun x h => .inr (e_i10 x h))
   have hBg8 : Box w20 g8 (cS_api_Prefix (⟨t19, a1⟩ : S_api_Prefix)) := hb2
   refine seg ha 1 [(4, .pointer (some ⟨g8, 0, none⟩)), (5, .int .i64 (0 : Int))] (by kernel_rfl) fun a ha => ?_
   refine hK18 _ _ ?_; try clear hK18 K18
   refine wp_ret ?_
   try simp only [Exit.then, Exit.inBlock]
   have hBg8 := hBg8.chg (Chg.refl [] _) (fun h => nomatch h)
   have hM : MS (M) w20 := (fun x h => hM.chg (Chg.refl [] _) x (mr (h)))
   have hC := hC.trans (Chg.refl [] _) (Ok.nil _ _)
   obtain rfl := Option.some.inj H
   refine rtr ha (res2 rfl (roA ha rfl hBg8 (by kernel_rfl)) (roT ha rfl)) ?_
   exact ⟨rfl, hC, hM⟩
 have H := H13
 refine ldA (cs := (cS_api_Addr a0)) ha rfl (by kernel_rfl) rfl rfl rfl (cells_sub hE5 (all := (cS_api_Addr a0)) [] [] (by kernel_rfl)) fun a ha => ?_
 obtain ⟨t22, H22, H⟩ := bind_some H
 refine cl ha (by rfl) (by kernel_rfl) (by rfl) (by rfl) (by rfl) (addr_Right.walk w7 _ hM a0 k _ H22) ?_
 rintro _ w22 ⟨rfl, hc22, hMn⟩ a ha
 have o1 : Ok [] ([g8] ++ (M)) w7.heap.size := Ok.nil _ _
 have o2 : Ok ([g8] ++ (M)) ([g8] ++ (M)) w7.heap.size := (Ok.refl _ _)
 have hBg8 := hBg8.chg hc22 (fun h => nomatch h)
 have q_hn6 : g3 ∉ [g8] ++ (M) := fun h => (o2 g3 h).elim hn6 (fun h => absurd (lt_cell (hE5 0 _ rfl)) (Nat.not_lt.2 h))
 have hE5 : ∀ j v, (cS_api_Addr a0)[j]? = some v → w22.cell? ⟨g3, 0 + j, none⟩ = some v := fun j v hv => (cell_keep hc22 o1 hn6 (hE5 j v hv))
 have hn6 := q_hn6
 have hM : MS ([g8] ++ (M)) w22 := (hM.chg hc22)
 have hC := hC.trans hc22 (Ok.nil _ _)
 refine seg ha 2 [(9, .bool (!t22)), (1, .int .i64 a1), (2, .pointer (some ⟨g3, 0, none⟩)), (4, .pointer (some ⟨g8, 0, none⟩))] (by kernel_rfl) fun a ha => ?_
 rcases Bool.eq_false_or_eq_true (!t22) with hb23 | hb23
 ·have ha := ha.lit hb23
  have H := ite_t hb23 H
  refine sgh ha 15 [1, 1, 1, 3, 0, 1, 1, 3, 0, 1, 1, 1, 1, 1, 3] [(1, .int .i64 a1), (2, .pointer (some ⟨g3, 0, none⟩)), (4, .pointer (some ⟨g8, 0, none⟩)), (24, .bool true)] (by kernel_rfl) fun a ha => ?_
  obtain rfl := Option.some.inj H
  exact J13 _ _ (ha.sel (by kernel_rfl)) hBg8 hE5 hn6 hC hM
 ·have ha := ha.lit hb23
  have H := ite_f hb23 H
  refine sgh ha 1 [2] [(1, .int .i64 a1), (2, .pointer (some ⟨g3, 0, none⟩)), (4, .pointer (some ⟨g8, 0, none⟩)), (9, .bool false), (10, .pointer (some ⟨g3, 0, none⟩))] (by kernel_rfl) fun a ha => ?_
  refine ld ha rfl (by kernel_rfl) rfl rfl rfl (hE5 0 (.int .i64 a0.Size) (by kernel_rfl)) fun a ha => ?_
  refine sgh ha 3 [2, 4, 0] [(14, .bool (a0.Size == (0 : Int))), (1, .int .i64 a1), (2, .pointer (some ⟨g3, 0, none⟩)), (4, .pointer (some ⟨g8, 0, none⟩))] (by kernel_rfl) fun a ha => ?_
  rcases Bool.eq_false_or_eq_true (a0.Size == (0 : Int)) with hb24 | hb24
  ·have ha := ha.lit hb24
   have H := ite_t hb24 H
   refine sgh ha 10 [1, 1, 3, 0, 1, 1, 1, 1, 1, 3] [(1, .int .i64 a1), (2, .pointer (some ⟨g3, 0, none⟩)), (4, .pointer (some ⟨g8, 0, none⟩)), (24, .bool true)] (by kernel_rfl) fun a ha => ?_
   obtain rfl := Option.some.inj H
   exact J13 _ _ (ha.sel (by kernel_rfl)) hBg8 hE5 hn6 hC hM
  ·have ha := ha.lit hb24
   have H := ite_f hb24 H
   refine sgh ha 4 [2, 2, 4, 0] [(18, .bool (decide (a1 < (0 : Int)))), (1, .int .i64 a1), (2, .pointer (some ⟨g3, 0, none⟩)), (4, .pointer (some ⟨g8, 0, none⟩))] (by kernel_rfl) fun a ha => ?_
   rcases Bool.eq_false_or_eq_true (decide (a1 < (0 : Int))) with hb25 | hb25
   ·have ha := ha.lit hb25
    have H := ite_t hb25 H
    refine sgh ha 6 [1, 1, 1, 1, 1, 3] [(1, .int .i64 a1), (2, .pointer (some ⟨g3, 0, none⟩)), (4, .pointer (some ⟨g8, 0, none⟩)), (24, .bool true)] (by kernel_rfl) fun a ha => ?_
    obtain rfl := Option.some.inj H
    exact J13 _ _ (ha.sel (by kernel_rfl)) hBg8 hE5 hn6 hC hM
   ·have ha := ha.lit hb25
    have H := ite_f hb25 H
    refine sgh ha 2 [2, 2] [(1, .int .i64 a1), (2, .pointer (some ⟨g3, 0, none⟩)), (4, .pointer (some ⟨g8, 0, none⟩)), (18, .bool false), (19, .int .i64 a1), (20, .pointer (some ⟨g3, 0, none⟩))] (by kernel_rfl) fun a ha => ?_
    refine ld ha rfl (by kernel_rfl) rfl rfl rfl (hE5 0 (.int .i64 a0.Size) (by kernel_rfl)) fun a ha => ?_
    refine sgh ha 3 [2, 2, 4] [(1, .int .i64 a1), (2, .pointer (some ⟨g3, 0, none⟩)), (4, .pointer (some ⟨g8, 0, none⟩)), (24, .bool (decide (a1 > (IntKind.i64.wrap ((8 : Int) * a0.Size)))))] (by kernel_rfl) fun a ha => ?_
    obtain rfl := Option.some.inj H
    exact J13 _ _ (ha.sel (by kernel_rfl)) hBg8 hE5 hn6 hC hM
def addr_right.f (k : Nat) (a0 : S_api_Prefix) : Option (Bool) := (addr_Cut.f k a0.Addr a0.Bits).bind fun t8 => ((if (t8.2 == (0 : Int)) = true then some ((((t8.1.Addr.Size == a0.Addr.Size) && ((eqA 16 t8.1.Addr.B a0.Addr.B) && true)) && ((t8.1.Bits == a0.Bits) && true)) : Bool) else some (false : Bool))).bind fun s16 => some ((s16 : Bool))
set_option maxRecDepth 100000 in
theorem addr_right.walk (w : World) (M : List Nat) (hM : MS M w) (a0 : S_api_Prefix) (k : Nat) (r : Bool) (H : addr_right.f k a0 = some r) :
    To Tryd.prog 46 [.agg (cS_api_Prefix a0).toArray] w fun v w' => v = .bool r ∧ Chg [] w w' ∧ MS (M) w' := by
 unfold addr_right.f at H
 refine ent Tryd.func46 rfl [(0, .agg (cS_api_Prefix a0).toArray)] rfl (by rfl) fun a ha => ?_
 have hC : Chg [] w w := Chg.refl _ _
 refine wp_seq_k fun K1 hK1 => ?_
 refine wp_region_lit ?_
 refine bx (cs := (cS_api_Prefix a0)) ha rfl rfl rfl rfl rfl fun a w2 g3 hN4 ha => ?_
 have hn6 := hN4.notin hM
 have hM : MS (M) w2 := (hM.chg hN4.chg)
 have hC := hC.trans hN4.chg (Ok.nil _ _)
 have hE5 : ∀ j v, (cS_api_Prefix a0)[j]? = some v → w2.cell? ⟨g3, 0 + j, none⟩ = some v := Box.cells (New.box hN4)
 refine seg ha 1 [(1, .pointer (some ⟨g3, 0, none⟩))] (by kernel_rfl) fun a ha => ?_
 refine hK1 _ _ ?_; try clear hK1 K1
 refine wp_seq_k fun K7 hK7 => ?_
 refine wp_region_lit ?_
 refine seg ha 1 [(1, .pointer (some ⟨g3, 0, none⟩)), (6, .pointer (some ⟨g3, 0, none⟩))] (by kernel_rfl) fun a ha => ?_
 refine ldA (cs := (cS_api_Addr a0.Addr)) ha rfl (by kernel_rfl) rfl rfl rfl (cells_sub hE5 (all := (cS_api_Prefix a0)) [] [.int .i64 a0.Bits] (by kernel_rfl)) fun a ha => ?_
 refine seg ha 1 [(1, .pointer (some ⟨g3, 0, none⟩)), (7, .agg (cS_api_Addr a0.Addr).toArray), (8, .pointer (some ⟨g3, 0 + 17, none⟩))] (by kernel_rfl) fun a ha => ?_
 refine ld ha rfl (by kernel_rfl) rfl rfl rfl (hE5 17 (.int .i64 a0.Bits) (by kernel_rfl)) fun a ha => ?_
 obtain ⟨t8, H8, H⟩ := bind_some H
 refine cl ha (by rfl) (by kernel_rfl) (by rfl) (by rfl) (by rfl) (addr_Cut.walk w2 _ hM a0.Addr a0.Bits k _ H8) ?_
 rintro _ w8 ⟨rfl, hc8, hMn⟩ a ha
 have o1 : Ok [] (M) w2.heap.size := Ok.nil _ _
 have o2 : Ok (M) (M) w2.heap.size := (Ok.refl _ _)
 have q_hn6 : g3 ∉ M := fun h => (o2 g3 h).elim hn6 (fun h => absurd (lt_cell (hE5 0 _ rfl)) (Nat.not_lt.2 h))
 have hE5 : ∀ j v, (cS_api_Prefix a0)[j]? = some v → w8.cell? ⟨g3, 0 + j, none⟩ = some v := fun j v hv => (cell_keep hc8 o1 hn6 (hE5 j v hv))
 have hn6 := q_hn6
 have hM : MS (M) w8 := (hM.chg hc8)
 have hC := hC.trans hc8 (Ok.nil _ _)
 refine seg ha 3 [(1, .pointer (some ⟨g3, 0, none⟩)), (11, .agg (cS_api_Prefix t8.1).toArray), (12, .int .i64 t8.2)] (by kernel_rfl) fun a ha => ?_
 refine al (cs := (cS_api_Prefix (⟨(⟨(0 : Int), (List.replicate 16 (0 : Int))⟩ : S_api_Addr), (0 : Int)⟩ : S_api_Prefix))) (z := .agg (cS_api_Prefix (⟨(⟨(0 : Int), (List.replicate 16 (0 : Int))⟩ : S_api_Addr), (0 : Int)⟩ : S_api_Prefix)).toArray) ha (fun w => by kernel_rfl) rfl rfl rfl rfl fun a w9 g10 hN11 ha => ?_
 have o1 : Ok [] (M) w8.heap.size := Ok.nil _ _
 have o2 : Ok ([g10] ++ (M)) (M) w8.heap.size := (Ok.app (hN11.ok _) (Ok.refl _ _))
 have q_hn6 : g3 ∉ [g10] ++ (M) := fun h => (o2 g3 h).elim hn6 (fun h => absurd (lt_cell (hE5 0 _ rfl)) (Nat.not_lt.2 h))
 have hE5 : ∀ j v, (cS_api_Prefix a0)[j]? = some v → w9.cell? ⟨g3, 0 + j, none⟩ = some v := fun j v hv => (cell_keep hN11.chg o1 hn6 (hE5 j v hv))
 have hn6 := q_hn6
 have p_i12_M : ∀ x ∈ [g10], x ∉ M := fun x hx hy => absurd (hM x (hy)) (Nat.not_lt.2 ((hN11.ge1) x hx))
 have e_i12 : ∀ x ∈ [g10], w.heap.size ≤ x := fun x hx => Nat.le_trans hC.size ((hN11.ge1) x hx)
 have hM : MS ([g10] ++ (M)) w9 := (MS.app hN11.ms (hM.chg hN11.chg))
 have hC := hC.trans hN11.chg (Ok.nil _ _)
 have hBg10 : Box w9 g10 (cS_api_Prefix (⟨(⟨(0 : Int), (List.replicate 16 (0 : Int))⟩ : S_api_Addr), (0 : Int)⟩ : S_api_Prefix)) := hN11.box
 refine stA (l := (cS_api_Prefix t8.1)) ha rfl rfl rfl (by kernel_rfl) rfl rfl hBg10 rfl fun a w13 ha hb2 hc14 _ => ?_
 have o1 : Ok [g10] ([g10] ++ (M)) w9.heap.size := (fun _ h => .inl (ml h))
 have o2 : Ok ([g10] ++ (M)) ([g10] ++ (M)) w9.heap.size := (Ok.refl _ _)
 have q_hn6 : g3 ∉ [g10] ++ (M) := fun h => (o2 g3 h).elim hn6 (fun h => absurd (lt_cell (hE5 0 _ rfl)) (Nat.not_lt.2 h))
 have hE5 : ∀ j v, (cS_api_Prefix a0)[j]? = some v → w13.cell? ⟨g3, 0 + j, none⟩ = some v := fun j v hv => (cell_keep hc14 o1 hn6 (hE5 j v hv))
 have hn6 := q_hn6
 have hM : MS ([g10] ++ (M)) w13 := (hM.chg hc14)
 have hC := hC.trans hc14 (fun x h => .inr (e_i12 x h))
 have hBg10 : Box w13 g10 (cS_api_Prefix t8.1) := hb2
 refine seg ha 1 [(1, .pointer (some ⟨g3, 0, none⟩)), (3, .pointer (some ⟨g10, 0, none⟩)), (4, .int .i64 t8.2)] (by kernel_rfl) fun a ha => ?_
 refine hK7 _ _ ?_; try clear hK7 K7
 refine wp_seq_k fun K15 hK15 => ?_
 refine wp_region_lit ?_
 obtain ⟨s16, H16, H⟩ := bind_some H
 have J16 : ∀ (a : Act) (w16 : World), Has a Tryd.f46.ntmps [(2, .bool s16)] → (Box w16 g10 (cS_api_Prefix t8.1)) → (Chg [] w w16) → (MS ([g10] ++ (M)) w16) → K15 a w16 := by
  intro a w16 ha hBg10 hC hM
  refine hK15 _ _ ?_; try clear hK15 K15
  refine wp_ret ?_
  try simp only [Exit.then, Exit.inBlock]
  have hBg10 := hBg10.chg (Chg.refl [] _) (fun h => nomatch h)
  have hM : MS (M) w16 := (fun x h => hM.chg (Chg.refl [] _) x (mr (h)))
  have hC := hC.trans (Chg.refl [] _) (Ok.nil _ _)
  obtain rfl := Option.some.inj H
  refine rt1 ha rfl rfl ?_
  exact ⟨rfl, hC, hM⟩
 have H := H16
 refine seg ha 3 [(15, .bool (t8.2 == (0 : Int))), (1, .pointer (some ⟨g3, 0, none⟩)), (3, .pointer (some ⟨g10, 0, none⟩))] (by kernel_rfl) fun a ha => ?_
 rcases Bool.eq_false_or_eq_true (t8.2 == (0 : Int)) with hb17 | hb17
 ·have ha := ha.lit hb17
  have H := ite_t hb17 H
  refine ldA (cs := (cS_api_Prefix t8.1)) ha rfl (by kernel_rfl) rfl rfl rfl (cells_sub (Box.cells hBg10) (all := (cS_api_Prefix t8.1)) [] [] (by kernel_rfl)) fun a ha => ?_
  refine ldA (cs := (cS_api_Prefix a0)) ha rfl (by kernel_rfl) rfl rfl rfl (cells_sub hE5 (all := (cS_api_Prefix a0)) [] [] (by kernel_rfl)) fun a ha => ?_
  refine hop (v := .bool (((t8.1.Addr.Size == a0.Addr.Size) && ((eqA 16 t8.1.Addr.B a0.Addr.B) && true)) && ((t8.1.Bits == a0.Bits) && true))) (w' := w13) ha rfl rfl rfl (eqs_run (r := (((t8.1.Addr.Size == a0.Addr.Size) && ((eqA 16 t8.1.Addr.B a0.Addr.B) && true)) && ((t8.1.Bits == a0.Bits) && true))) (m := 9) ha rfl rfl (by kernel_rfl) rfl (by kernel_rfl) _) fun a ha => ?_
  refine sgh ha 2 [3, 0] [(2, .bool (((t8.1.Addr.Size == a0.Addr.Size) && ((eqA 16 t8.1.Addr.B a0.Addr.B) && true)) && ((t8.1.Bits == a0.Bits) && true)))] (by kernel_rfl) fun a ha => ?_
  obtain rfl := Option.some.inj H
  exact J16 _ _ (ha.sel (by kernel_rfl)) hBg10 hC hM
 ·have ha := ha.lit hb17
  have H := ite_f hb17 H
  refine sgh ha 5 [1, 1, 1, 4, 0] [(2, .bool false)] (by kernel_rfl) fun a ha => ?_
  obtain rfl := Option.some.inj H
  exact J16 _ _ (ha.sel (by kernel_rfl)) hBg10 hC hM
def addr_PrefixText.f (k : Nat) (a0 : S_api_Prefix) : Option (List UInt8) := (addr_right.f k a0).bind fun t9 => (if (!t9) = true then some ((([] : List UInt8) : List UInt8)) else (addr_Text.f k a0.Addr).bind fun t13 => (if (t13 ++ ([47] : List UInt8)).length ≤ 9223372036854775807 then (strconv_Itoa.f a0.Bits).bind fun t15 => (if ((t13 ++ ([47] : List UInt8)) ++ t15).length ≤ 9223372036854775807 then some (((t13 ++ ([47] : List UInt8)) ++ t15 : List UInt8)) else none) else none))
set_option maxRecDepth 100000 in
theorem addr_PrefixText.walk (w : World) (M : List Nat) (hM : MS M w) (hG : GF w M) (a0 : S_api_Prefix) (k : Nat) (r : List UInt8) (H : addr_PrefixText.f k a0 = some r) :
    To Tryd.prog 21 [.agg (cS_api_Prefix a0).toArray] w fun v w' => v = .string (bstr r) ∧ Chg [] w w' ∧ MS (M) w' := by
 unfold addr_PrefixText.f at H
 refine ent Tryd.func21 rfl [(0, .agg (cS_api_Prefix a0).toArray)] rfl (by rfl) fun a ha => ?_
 have hC : Chg [] w w := Chg.refl _ _
 refine wp_seq_k fun K1 hK1 => ?_
 refine wp_region_lit ?_
 refine bx (cs := (cS_api_Prefix a0)) ha rfl rfl rfl rfl rfl fun a w2 g3 hN4 ha => ?_
 have hn6 := hN4.notin hM
 have o1 : Ok [] (M) w.heap.size := Ok.nil _ _
 have o2 : Ok (M) (M) w.heap.size := (Ok.refl _ _)
 have hG := hG.chg hN4.chg o1 o2
 have hM : MS (M) w2 := (hM.chg hN4.chg)
 have hC := hC.trans hN4.chg (Ok.nil _ _)
 have hE5 : ∀ j v, (cS_api_Prefix a0)[j]? = some v → w2.cell? ⟨g3, 0 + j, none⟩ = some v := Box.cells (New.box hN4)
 refine seg ha 1 [(1, .pointer (some ⟨g3, 0, none⟩))] (by kernel_rfl) fun a ha => ?_
 refine hK1 _ _ ?_; try clear hK1 K1
 refine wp_seq_k fun K7 hK7 => ?_
 refine wp_seq_k fun K8 hK8 => ?_
 refine wp_region_lit ?_
 refine ldA (cs := (cS_api_Prefix a0)) ha rfl (by kernel_rfl) rfl rfl rfl (cells_sub hE5 (all := (cS_api_Prefix a0)) [] [] (by kernel_rfl)) fun a ha => ?_
 obtain ⟨t9, H9, H⟩ := bind_some H
 refine cl ha (by rfl) (by kernel_rfl) (by rfl) (by rfl) (by rfl) (addr_right.walk w2 _ hM a0 k _ H9) ?_
 rintro _ w9 ⟨rfl, hc9, hMn⟩ a ha
 have o1 : Ok [] (M) w2.heap.size := Ok.nil _ _
 have o2 : Ok (M) (M) w2.heap.size := (Ok.refl _ _)
 have hG := hG.chg hc9 o1 o2
 have q_hn6 : g3 ∉ M := fun h => (o2 g3 h).elim hn6 (fun h => absurd (lt_cell (hE5 0 _ rfl)) (Nat.not_lt.2 h))
 have hE5 : ∀ j v, (cS_api_Prefix a0)[j]? = some v → w9.cell? ⟨g3, 0 + j, none⟩ = some v := fun j v hv => (cell_keep hc9 o1 hn6 (hE5 j v hv))
 have hn6 := q_hn6
 have hM : MS (M) w9 := (hM.chg hc9)
 have hC := hC.trans hc9 (Ok.nil _ _)
 refine seg ha 1 [(1, .pointer (some ⟨g3, 0, none⟩)), (5, .bool (!t9))] (by kernel_rfl) fun a ha => ?_
 refine hK8 _ _ ?_; try clear hK8 K8
 refine cnd ha rfl (fun hc10 => ?_) (fun hc10 => ?_)
 ·have H := ite_t hc10 H
  refine wp_seq_k fun K11 hK11 => ?_
  refine wp_region_lit ?_
  refine seg ha 1 [(2, .string (bstr ([] : List UInt8)))] (by kernel_rfl) fun a ha => ?_
  refine hK11 _ _ ?_; try clear hK11 K11
  refine wp_ret ?_
  try simp only [Exit.then, Exit.inBlock]
  obtain rfl := Option.some.inj H
  refine rt1 ha rfl rfl ?_
  exact ⟨rfl, hC, hM⟩
 ·have H := ite_f hc10 H
  refine wp_skip ?_
  refine hK7 _ _ ?_; try clear hK7 K7
  refine wp_seq_k fun K12 hK12 => ?_
  refine drq0 (fun w' => Chg [] w9 w') (by kernel_rfl) (by kernel_rfl) (fun _ h => h) ?_
  refine qp 0 (.pointer (some ⟨g3, 0, none⟩)) ha rfl rfl rfl (by kernel_rfl) fun a ha => ?_
  refine qv (v := .agg (cS_api_Addr a0.Addr).toArray) ha rfl rfl rfl (fun w' hs => ldA_run (cs := (cS_api_Addr a0.Addr)) ha rfl (by kernel_rfl) (cells_sub (fun j v hv => hs.keep (hE5 j v hv)) (all := (cS_api_Prefix a0)) [] [.int .i64 a0.Bits] (by kernel_rfl))) fun a ha => ?_
  obtain ⟨t13, H13, H⟩ := bind_some H
  refine qc (.string (bstr t13)) ha (by rfl) (by kernel_rfl) (by rfl) (by rfl) (by rfl) (fun w' hs => (addr_Text.walk w' [] (MS.nil _) (hG.chg (M' := []) hs (Ok.nil _ _) (Ok.nil _ _)) a0.Addr k _ H13).mono fun v w'' ⟨hv, hc, _⟩ => ⟨hv, hs.trans hc (Ok.nil _ _)⟩) fun a ha => ?_
  obtain ⟨hx14, H⟩ := ite_some H
  refine qv (v := .string (bstr (t13 ++ ([47] : List UInt8)))) ha rfl rfl rfl (fun w' hs => sadd_run ha rfl rfl hx14 w') fun a ha => ?_
  refine qp 0 (.pointer (some ⟨g3, 0 + 17, none⟩)) ha rfl rfl rfl (by kernel_rfl) fun a ha => ?_
  refine qv (v := .int .i64 a0.Bits) ha rfl rfl rfl (fun w' hs => ld_run ha rfl (by kernel_rfl) (hs.keep (hE5 17 (.int .i64 a0.Bits) (by kernel_rfl)))) fun a ha => ?_
  obtain ⟨t15, H15, H⟩ := bind_some H
  refine qc (.string (bstr t15)) ha (by rfl) (by kernel_rfl) (by rfl) (by rfl) (by rfl) (fun w' hs => (strconv_Itoa.walk w' [] (MS.nil _) (hG.chg (M' := []) hs (Ok.nil _ _) (Ok.nil _ _)) a0.Bits _ H15).mono fun v w'' ⟨hv, hc, _⟩ => ⟨hv, hs.trans hc (Ok.nil _ _)⟩) fun a ha => ?_
  obtain ⟨hx16, H⟩ := ite_some H
  refine qv (v := .string (bstr ((t13 ++ ([47] : List UInt8)) ++ t15))) ha rfl rfl rfl (fun w' hs => sadd_run ha rfl rfl hx16 w') fun a ha => ?_
  refine qp 0 (.string (bstr ((t13 ++ ([47] : List UInt8)) ++ t15))) ha rfl rfl rfl (by kernel_rfl) fun a ha => ?_
  refine wpQuiet_nil ?_
  intro w17 hc18
  have o1 : Ok [] (M) w9.heap.size := Ok.nil _ _
  have o2 : Ok (M) (M) w9.heap.size := (Ok.refl _ _)
  have hG := hG.chg hc18 o1 o2
  have q_hn6 : g3 ∉ M := fun h => (o2 g3 h).elim hn6 (fun h => absurd (lt_cell (hE5 0 _ rfl)) (Nat.not_lt.2 h))
  have hE5 : ∀ j v, (cS_api_Prefix a0)[j]? = some v → w17.cell? ⟨g3, 0 + j, none⟩ = some v := fun j v hv => (cell_keep hc18 o1 hn6 (hE5 j v hv))
  have hn6 := q_hn6
  have hM : MS (M) w17 := (hM.chg hc18)
  have hC := hC.trans hc18 (Ok.nil _ _)
  refine wpl_end ?_
  refine hK12 _ _ ?_; try clear hK12 K12
  refine wp_ret ?_
  try simp only [Exit.then, Exit.inBlock]
  obtain rfl := Option.some.inj H
  refine rt1 ha rfl rfl ?_
  exact ⟨rfl, hC, hM⟩
def addr_Has.f (k : Nat) (a0 : S_api_Prefix) (a1 : S_api_Addr) : Option (Bool) := ((addr_right.f k a0).bind fun t14 => (if t14 = true then (addr_Right.f k a1).bind fun t16 => (if t16 = true then (if (a1.Size == a0.Addr.Size) = true then (addr_cut.f k a1 a0.Bits).bind fun t19 => some (((t19.Size == a0.Addr.Size) && ((eqA 16 t19.B a0.Addr.B) && true)) : Bool) else some (false : Bool)) else some (false : Bool)) else some (false : Bool))).bind fun s13 => some ((s13 : Bool))
set_option maxRecDepth 100000 in
theorem addr_Has.walk (w : World) (M : List Nat) (hM : MS M w) (a0 : S_api_Prefix) (a1 : S_api_Addr) (k : Nat) (r : Bool) (H : addr_Has.f k a0 a1 = some r) :
    To Tryd.prog 17 [.agg (cS_api_Prefix a0).toArray, .agg (cS_api_Addr a1).toArray] w fun v w' => v = .bool r ∧ Chg [] w w' ∧ MS (M) w' := by
 unfold addr_Has.f at H
 refine ent Tryd.func17 rfl [(0, .agg (cS_api_Prefix a0).toArray), (1, .agg (cS_api_Addr a1).toArray)] rfl (by rfl) fun a ha => ?_
 have hC : Chg [] w w := Chg.refl _ _
 refine wp_seq_k fun K1 hK1 => ?_
 refine wp_region_lit ?_
 refine bx (cs := (cS_api_Prefix a0)) ha rfl rfl rfl rfl rfl fun a w2 g3 hN4 ha => ?_
 have hn6 := hN4.notin hM
 have hM : MS (M) w2 := (hM.chg hN4.chg)
 have hC := hC.trans hN4.chg (Ok.nil _ _)
 have hE5 : ∀ j v, (cS_api_Prefix a0)[j]? = some v → w2.cell? ⟨g3, 0 + j, none⟩ = some v := Box.cells (New.box hN4)
 refine bx (cs := (cS_api_Addr a1)) ha rfl rfl rfl rfl rfl fun a w7 g8 hN9 ha => ?_
 have hn11 := hN9.notin hM
 have o1 : Ok [] (M) w2.heap.size := Ok.nil _ _
 have o2 : Ok (M) (M) w2.heap.size := (Ok.refl _ _)
 have q_hn6 : g3 ∉ M := fun h => (o2 g3 h).elim hn6 (fun h => absurd (lt_cell (hE5 0 _ rfl)) (Nat.not_lt.2 h))
 have hE5 : ∀ j v, (cS_api_Prefix a0)[j]? = some v → w7.cell? ⟨g3, 0 + j, none⟩ = some v := fun j v hv => (cell_keep hN9.chg o1 hn6 (hE5 j v hv))
 have hn6 := q_hn6
 have hM : MS (M) w7 := (hM.chg hN9.chg)
 have hC := hC.trans hN9.chg (Ok.nil _ _)
 have hE10 : ∀ j v, (cS_api_Addr a1)[j]? = some v → w7.cell? ⟨g8, 0 + j, none⟩ = some v := Box.cells (New.box hN9)
 refine seg ha 1 [(2, .pointer (some ⟨g3, 0, none⟩)), (3, .pointer (some ⟨g8, 0, none⟩))] (by kernel_rfl) fun a ha => ?_
 refine hK1 _ _ ?_; try clear hK1 K1
 refine wp_seq_k fun K12 hK12 => ?_
 refine drq0 (fun w' => Chg [] w7 w') (by kernel_rfl) (by kernel_rfl) (fun _ h => h) ?_
 obtain ⟨s13, H13, H⟩ := bind_some H
 have J13 : ∀ (a : Act) (w13 : World), Has a Tryd.f17.ntmps [(4, .bool s13)] → (Chg [] w w13) → (MS (M) w13) → K12 a w13 := by
  intro a w13 ha hC hM
  refine hK12 _ _ ?_; try clear hK12 K12
  refine wp_ret ?_
  try simp only [Exit.then, Exit.inBlock]
  obtain rfl := Option.some.inj H
  refine rt1 ha rfl rfl ?_
  exact ⟨rfl, hC, hM⟩
 have H := H13
 refine qv (v := .agg (cS_api_Prefix a0).toArray) ha rfl rfl rfl (fun w' hs => ldA_run (cs := (cS_api_Prefix a0)) ha rfl (by kernel_rfl) (cells_sub (fun j v hv => hs.keep (hE5 j v hv)) (all := (cS_api_Prefix a0)) [] [] (by kernel_rfl))) fun a ha => ?_
 obtain ⟨t14, H14, H⟩ := bind_some H
 refine qc (.bool t14) ha (by rfl) (by kernel_rfl) (by rfl) (by rfl) (by rfl) (fun w' hs => (addr_right.walk w' [] (MS.nil _) a0 k _ H14).mono fun v w'' ⟨hv, hc, _⟩ => ⟨hv, hs.trans hc (Ok.nil _ _)⟩) fun a ha => ?_
 refine qp 0 (.bool t14) ha rfl rfl rfl (by kernel_rfl) fun a ha => ?_
 have ha := ha.sel (env' := [(7, .bool t14), (2, .pointer (some ⟨g3, 0, none⟩)), (3, .pointer (some ⟨g8, 0, none⟩))]) (by kernel_rfl)
 rcases Bool.eq_false_or_eq_true (t14) with hb15 | hb15
 ·have ha := ha.lit hb15
  have H := ite_t hb15 H
  refine qv (v := .agg (cS_api_Addr a1).toArray) ha rfl rfl rfl (fun w' hs => ldA_run (cs := (cS_api_Addr a1)) ha rfl (by kernel_rfl) (cells_sub (fun j v hv => hs.keep (hE10 j v hv)) (all := (cS_api_Addr a1)) [] [] (by kernel_rfl))) fun a ha => ?_
  obtain ⟨t16, H16, H⟩ := bind_some H
  refine qc (.bool t16) ha (by rfl) (by kernel_rfl) (by rfl) (by rfl) (by rfl) (fun w' hs => (addr_Right.walk w' [] (MS.nil _) a1 k _ H16).mono fun v w'' ⟨hv, hc, _⟩ => ⟨hv, hs.trans hc (Ok.nil _ _)⟩) fun a ha => ?_
  refine qp 3 (.bool t16) ha rfl rfl rfl (by kernel_rfl) fun a ha => ?_
  refine qp 0 (.bool t16) ha rfl rfl rfl (by kernel_rfl) fun a ha => ?_
  have ha := ha.sel (env' := [(11, .bool t16), (2, .pointer (some ⟨g3, 0, none⟩)), (3, .pointer (some ⟨g8, 0, none⟩))]) (by kernel_rfl)
  rcases Bool.eq_false_or_eq_true (t16) with hb17 | hb17
  ·have ha := ha.lit hb17
   have H := ite_t hb17 H
   refine qp 0 (.pointer (some ⟨g8, 0, none⟩)) ha rfl rfl rfl (by kernel_rfl) fun a ha => ?_
   refine qv (v := .int .i64 a1.Size) ha rfl rfl rfl (fun w' hs => ld_run ha rfl (by kernel_rfl) (hs.keep (hE10 0 (.int .i64 a1.Size) (by kernel_rfl)))) fun a ha => ?_
   refine qp 0 (.pointer (some ⟨g3, 0, none⟩)) ha rfl rfl rfl (by kernel_rfl) fun a ha => ?_
   refine qp 0 (.pointer (some ⟨g3, 0, none⟩)) ha rfl rfl rfl (by kernel_rfl) fun a ha => ?_
   refine qv (v := .int .i64 a0.Addr.Size) ha rfl rfl rfl (fun w' hs => ld_run ha rfl (by kernel_rfl) (hs.keep (hE5 0 (.int .i64 a0.Addr.Size) (by kernel_rfl)))) fun a ha => ?_
   refine qp 0 (.bool (a1.Size == a0.Addr.Size)) ha rfl rfl rfl (by kernel_rfl) fun a ha => ?_
   refine qp 3 (.bool (a1.Size == a0.Addr.Size)) ha rfl rfl rfl (by kernel_rfl) fun a ha => ?_
   refine qp 0 (.bool (a1.Size == a0.Addr.Size)) ha rfl rfl rfl (by kernel_rfl) fun a ha => ?_
   have ha := ha.sel (env' := [(19, .bool (a1.Size == a0.Addr.Size)), (2, .pointer (some ⟨g3, 0, none⟩)), (3, .pointer (some ⟨g8, 0, none⟩))]) (by kernel_rfl)
   rcases Bool.eq_false_or_eq_true (a1.Size == a0.Addr.Size) with hb18 | hb18
   ·have ha := ha.lit hb18
    have H := ite_t hb18 H
    refine qv (v := .agg (cS_api_Addr a1).toArray) ha rfl rfl rfl (fun w' hs => ldA_run (cs := (cS_api_Addr a1)) ha rfl (by kernel_rfl) (cells_sub (fun j v hv => hs.keep (hE10 j v hv)) (all := (cS_api_Addr a1)) [] [] (by kernel_rfl))) fun a ha => ?_
    refine qp 0 (.pointer (some ⟨g3, 0 + 17, none⟩)) ha rfl rfl rfl (by kernel_rfl) fun a ha => ?_
    refine qv (v := .int .i64 a0.Bits) ha rfl rfl rfl (fun w' hs => ld_run ha rfl (by kernel_rfl) (hs.keep (hE5 17 (.int .i64 a0.Bits) (by kernel_rfl)))) fun a ha => ?_
    obtain ⟨t19, H19, H⟩ := bind_some H
    refine qc (.agg (cS_api_Addr t19).toArray) ha (by rfl) (by kernel_rfl) (by rfl) (by rfl) (by rfl) (fun w' hs => (addr_cut.walk w' [] (MS.nil _) a1 a0.Bits k _ H19).mono fun v w'' ⟨hv, hc, _⟩ => ⟨hv, hs.trans hc (Ok.nil _ _)⟩) fun a ha => ?_
    refine qp 0 (.pointer (some ⟨g3, 0, none⟩)) ha rfl rfl rfl (by kernel_rfl) fun a ha => ?_
    refine qv (v := .agg (cS_api_Addr a0.Addr).toArray) ha rfl rfl rfl (fun w' hs => ldA_run (cs := (cS_api_Addr a0.Addr)) ha rfl (by kernel_rfl) (cells_sub (fun j v hv => hs.keep (hE5 j v hv)) (all := (cS_api_Prefix a0)) [] [.int .i64 a0.Bits] (by kernel_rfl))) fun a ha => ?_
    refine qv (v := .bool ((t19.Size == a0.Addr.Size) && ((eqA 16 t19.B a0.Addr.B) && true))) ha rfl rfl rfl (fun w' hs => eqs_run (r := ((t19.Size == a0.Addr.Size) && ((eqA 16 t19.B a0.Addr.B) && true))) (m := 9) ha rfl rfl (by kernel_rfl) rfl (by kernel_rfl) w') fun a ha => ?_
    refine qp 3 (.bool ((t19.Size == a0.Addr.Size) && ((eqA 16 t19.B a0.Addr.B) && true))) ha rfl rfl rfl (by kernel_rfl) fun a ha => ?_
    refine qp 0 (.bool ((t19.Size == a0.Addr.Size) && ((eqA 16 t19.B a0.Addr.B) && true))) ha rfl rfl rfl (by kernel_rfl) fun a ha => ?_
    refine wpQuiet_nil ?_
    intro w20 hc21
    have o1 : Ok [] (M) w7.heap.size := Ok.nil _ _
    have o2 : Ok (M) (M) w7.heap.size := (Ok.refl _ _)
    have q_hn6 : g3 ∉ M := fun h => (o2 g3 h).elim hn6 (fun h => absurd (lt_cell (hE5 0 _ rfl)) (Nat.not_lt.2 h))
    have hE5 : ∀ j v, (cS_api_Prefix a0)[j]? = some v → w20.cell? ⟨g3, 0 + j, none⟩ = some v := fun j v hv => (cell_keep hc21 o1 hn6 (hE5 j v hv))
    have hn6 := q_hn6
    have q_hn11 : g8 ∉ M := fun h => (o2 g8 h).elim hn11 (fun h => absurd (lt_cell (hE10 0 _ rfl)) (Nat.not_lt.2 h))
    have hE10 : ∀ j v, (cS_api_Addr a1)[j]? = some v → w20.cell? ⟨g8, 0 + j, none⟩ = some v := fun j v hv => (cell_keep hc21 o1 hn11 (hE10 j v hv))
    have hn11 := q_hn11
    have hM : MS (M) w20 := (hM.chg hc21)
    have hC := hC.trans hc21 (Ok.nil _ _)
    refine wpl_end ?_
    obtain rfl := Option.some.inj H
    exact J13 _ _ (ha.sel (by kernel_rfl)) hC hM
   ·have ha := ha.lit hb18
    have H := ite_f hb18 H
    refine qo ha rfl rfl rfl fun a ha => ?_
    refine qo ha rfl rfl rfl fun a ha => ?_
    refine qo ha rfl rfl rfl fun a ha => ?_
    refine qo ha rfl rfl rfl fun a ha => ?_
    refine qo ha rfl rfl rfl fun a ha => ?_
    refine qo ha rfl rfl rfl fun a ha => ?_
    refine qo ha rfl rfl rfl fun a ha => ?_
    refine qp 4 (.bool false) ha rfl rfl rfl (by kernel_rfl) fun a ha => ?_
    refine qp 0 (.bool false) ha rfl rfl rfl (by kernel_rfl) fun a ha => ?_
    refine wpQuiet_nil ?_
    intro w22 hc23
    have o1 : Ok [] (M) w7.heap.size := Ok.nil _ _
    have o2 : Ok (M) (M) w7.heap.size := (Ok.refl _ _)
    have q_hn6 : g3 ∉ M := fun h => (o2 g3 h).elim hn6 (fun h => absurd (lt_cell (hE5 0 _ rfl)) (Nat.not_lt.2 h))
    have hE5 : ∀ j v, (cS_api_Prefix a0)[j]? = some v → w22.cell? ⟨g3, 0 + j, none⟩ = some v := fun j v hv => (cell_keep hc23 o1 hn6 (hE5 j v hv))
    have hn6 := q_hn6
    have q_hn11 : g8 ∉ M := fun h => (o2 g8 h).elim hn11 (fun h => absurd (lt_cell (hE10 0 _ rfl)) (Nat.not_lt.2 h))
    have hE10 : ∀ j v, (cS_api_Addr a1)[j]? = some v → w22.cell? ⟨g8, 0 + j, none⟩ = some v := fun j v hv => (cell_keep hc23 o1 hn11 (hE10 j v hv))
    have hn11 := q_hn11
    have hM : MS (M) w22 := (hM.chg hc23)
    have hC := hC.trans hc23 (Ok.nil _ _)
    refine wpl_end ?_
    obtain rfl := Option.some.inj H
    exact J13 _ _ (ha.sel (by kernel_rfl)) hC hM
  ·have ha := ha.lit hb17
   have H := ite_f hb17 H
   refine qo ha rfl rfl rfl fun a ha => ?_
   refine qo ha rfl rfl rfl fun a ha => ?_
   refine qo ha rfl rfl rfl fun a ha => ?_
   refine qo ha rfl rfl rfl fun a ha => ?_
   refine qo ha rfl rfl rfl fun a ha => ?_
   refine qo ha rfl rfl rfl fun a ha => ?_
   refine qp 4 (.bool false) ha rfl rfl rfl (by kernel_rfl) fun a ha => ?_
   refine qp 0 (.bool false) ha rfl rfl rfl (by kernel_rfl) fun a ha => ?_
   refine qo ha rfl rfl rfl fun a ha => ?_
   refine qo ha rfl rfl rfl fun a ha => ?_
   refine qo ha rfl rfl rfl fun a ha => ?_
   refine qo ha rfl rfl rfl fun a ha => ?_
   refine qo ha rfl rfl rfl fun a ha => ?_
   refine qo ha rfl rfl rfl fun a ha => ?_
   refine qo ha rfl rfl rfl fun a ha => ?_
   refine qp 4 (.bool false) ha rfl rfl rfl (by kernel_rfl) fun a ha => ?_
   refine qp 0 (.bool false) ha rfl rfl rfl (by kernel_rfl) fun a ha => ?_
   refine wpQuiet_nil ?_
   intro w24 hc25
   have o1 : Ok [] (M) w7.heap.size := Ok.nil _ _
   have o2 : Ok (M) (M) w7.heap.size := (Ok.refl _ _)
   have q_hn6 : g3 ∉ M := fun h => (o2 g3 h).elim hn6 (fun h => absurd (lt_cell (hE5 0 _ rfl)) (Nat.not_lt.2 h))
   have hE5 : ∀ j v, (cS_api_Prefix a0)[j]? = some v → w24.cell? ⟨g3, 0 + j, none⟩ = some v := fun j v hv => (cell_keep hc25 o1 hn6 (hE5 j v hv))
   have hn6 := q_hn6
   have q_hn11 : g8 ∉ M := fun h => (o2 g8 h).elim hn11 (fun h => absurd (lt_cell (hE10 0 _ rfl)) (Nat.not_lt.2 h))
   have hE10 : ∀ j v, (cS_api_Addr a1)[j]? = some v → w24.cell? ⟨g8, 0 + j, none⟩ = some v := fun j v hv => (cell_keep hc25 o1 hn11 (hE10 j v hv))
   have hn11 := q_hn11
   have hM : MS (M) w24 := (hM.chg hc25)
   have hC := hC.trans hc25 (Ok.nil _ _)
   refine wpl_end ?_
   obtain rfl := Option.some.inj H
   exact J13 _ _ (ha.sel (by kernel_rfl)) hC hM
 ·have ha := ha.lit hb15
  have H := ite_f hb15 H
  refine qo ha rfl rfl rfl fun a ha => ?_
  refine qo ha rfl rfl rfl fun a ha => ?_
  refine qp 4 (.bool false) ha rfl rfl rfl (by kernel_rfl) fun a ha => ?_
  refine qp 0 (.bool false) ha rfl rfl rfl (by kernel_rfl) fun a ha => ?_
  refine qo ha rfl rfl rfl fun a ha => ?_
  refine qo ha rfl rfl rfl fun a ha => ?_
  refine qo ha rfl rfl rfl fun a ha => ?_
  refine qo ha rfl rfl rfl fun a ha => ?_
  refine qo ha rfl rfl rfl fun a ha => ?_
  refine qo ha rfl rfl rfl fun a ha => ?_
  refine qp 4 (.bool false) ha rfl rfl rfl (by kernel_rfl) fun a ha => ?_
  refine qp 0 (.bool false) ha rfl rfl rfl (by kernel_rfl) fun a ha => ?_
  refine qo ha rfl rfl rfl fun a ha => ?_
  refine qo ha rfl rfl rfl fun a ha => ?_
  refine qo ha rfl rfl rfl fun a ha => ?_
  refine qo ha rfl rfl rfl fun a ha => ?_
  refine qo ha rfl rfl rfl fun a ha => ?_
  refine qo ha rfl rfl rfl fun a ha => ?_
  refine qo ha rfl rfl rfl fun a ha => ?_
  refine qp 4 (.bool false) ha rfl rfl rfl (by kernel_rfl) fun a ha => ?_
  refine qp 0 (.bool false) ha rfl rfl rfl (by kernel_rfl) fun a ha => ?_
  refine wpQuiet_nil ?_
  intro w26 hc27
  have o1 : Ok [] (M) w7.heap.size := Ok.nil _ _
  have o2 : Ok (M) (M) w7.heap.size := (Ok.refl _ _)
  have q_hn6 : g3 ∉ M := fun h => (o2 g3 h).elim hn6 (fun h => absurd (lt_cell (hE5 0 _ rfl)) (Nat.not_lt.2 h))
  have hE5 : ∀ j v, (cS_api_Prefix a0)[j]? = some v → w26.cell? ⟨g3, 0 + j, none⟩ = some v := fun j v hv => (cell_keep hc27 o1 hn6 (hE5 j v hv))
  have hn6 := q_hn6
  have q_hn11 : g8 ∉ M := fun h => (o2 g8 h).elim hn11 (fun h => absurd (lt_cell (hE10 0 _ rfl)) (Nat.not_lt.2 h))
  have hE10 : ∀ j v, (cS_api_Addr a1)[j]? = some v → w26.cell? ⟨g8, 0 + j, none⟩ = some v := fun j v hv => (cell_keep hc27 o1 hn11 (hE10 j v hv))
  have hn11 := q_hn11
  have hM : MS (M) w26 := (hM.chg hc27)
  have hC := hC.trans hc27 (Ok.nil _ _)
  refine wpl_end ?_
  obtain rfl := Option.some.inj H
  exact J13 _ _ (ha.sel (by kernel_rfl)) hC hM
def vinerylaw02_small.f (k : Nat) : Option (Bool) := (addr_Parse.f k ([49, 57, 50, 46, 48, 46, 50, 46, 49] : List UInt8)).bind fun t3 => (addr_Parse.f k ([50, 48, 48, 49, 58, 100, 98, 56, 58, 58] : List UInt8)).bind fun t11 => (addr_Parse.f k ([48, 49, 46, 50, 46, 51, 46, 52] : List UInt8)).bind fun t19 => (addr_Cut.f k t3.1 (8 : Int)).bind fun t27 => ((if (t3.2 == (0 : Int)) = true then (if ((t3.1.Size == (4 : Int)) && ((eqA 16 t3.1.B ([(192 : Int), (0 : Int), (2 : Int), (1 : Int), (0 : Int), (0 : Int), (0 : Int), (0 : Int), (0 : Int), (0 : Int), (0 : Int), (0 : Int), (0 : Int), (0 : Int), (0 : Int), (0 : Int)] : List Int)) && true)) = true then (addr_Text.f k t3.1).bind fun t38 => (if ((bstr t38).toList == (bstr ([49, 57, 50, 46, 48, 46, 50, 46, 49] : List UInt8)).toList) = true then (if (t11.2 == (0 : Int)) = true then (addr_Text.f k t11.1).bind fun t41 => (if ((bstr t41).toList == (bstr ([50, 48, 48, 49, 58, 100, 98, 56, 58, 58] : List UInt8)).toList) = true then (if (t19.2 == (4 : Int)) = true then (if (t27.2 == (0 : Int)) = true then (addr_PrefixText.f k t27.1).bind fun t45 => (if ((bstr t45).toList == (bstr ([49, 57, 50, 46, 48, 46, 48, 46, 48, 47, 56] : List UInt8)).toList) = true then (addr_Has.f k t27.1 t3.1).bind fun t47 => some (t47 : Bool) else some (false : Bool)) else some (false : Bool)) else some (false : Bool)) else some (false : Bool)) else some (false : Bool)) else some (false : Bool)) else some (false : Bool)) else some (false : Bool))).bind fun s35 => some ((s35 : Bool))
set_option maxRecDepth 100000 in
theorem vinerylaw02_small.walk (w : World) (M : List Nat) (hM : MS M w) (hG : GF w M)  (k : Nat) (r : Bool) (H : vinerylaw02_small.f k = some r) :
    To Tryd.prog 11 [] w fun v w' => v = .bool r ∧ Chg [] w w' ∧ MS (M) w' := by
 unfold vinerylaw02_small.f at H
 refine ent Tryd.func11 rfl [] rfl (by rfl) fun a ha => ?_
 have hC : Chg [] w w := Chg.refl _ _
 refine wp_seq_k fun K1 hK1 => ?_
 refine wp_region_lit ?_
 refine seg ha 1 [] (by kernel_rfl) fun a ha => ?_
 refine hK1 _ _ ?_; try clear hK1 K1
 refine wp_seq_k fun K2 hK2 => ?_
 refine wp_region_lit ?_
 obtain ⟨t3, H3, H⟩ := bind_some H
 refine cl ha (by rfl) (by kernel_rfl) (by rfl) (by rfl) (by rfl) (addr_Parse.walk w _ hM hG ([49, 57, 50, 46, 48, 46, 50, 46, 49] : List UInt8) k _ H3) ?_
 rintro _ w3 ⟨rfl, hc3, hMn⟩ a ha
 have o1 : Ok [] (M) w.heap.size := Ok.nil _ _
 have o2 : Ok (M) (M) w.heap.size := (Ok.refl _ _)
 have hG := hG.chg hc3 o1 o2
 have hM : MS (M) w3 := (hM.chg hc3)
 have hC := hC.trans hc3 (Ok.nil _ _)
 refine seg ha 3 [(11, .agg (cS_api_Addr t3.1).toArray), (12, .int .i64 t3.2)] (by kernel_rfl) fun a ha => ?_
 refine al (cs := (cS_api_Addr (⟨(0 : Int), (List.replicate 16 (0 : Int))⟩ : S_api_Addr))) (z := .agg (cS_api_Addr (⟨(0 : Int), (List.replicate 16 (0 : Int))⟩ : S_api_Addr)).toArray) ha (fun w => by kernel_rfl) rfl rfl rfl rfl fun a w4 g5 hN6 ha => ?_
 have o1 : Ok [] (M) w3.heap.size := Ok.nil _ _
 have o2 : Ok ([g5] ++ (M)) (M) w3.heap.size := (Ok.app (hN6.ok _) (Ok.refl _ _))
 have hG := hG.chg hN6.chg o1 o2
 have p_i7_M : ∀ x ∈ [g5], x ∉ M := fun x hx hy => absurd (hM x (hy)) (Nat.not_lt.2 ((hN6.ge1) x hx))
 have e_i7 : ∀ x ∈ [g5], w.heap.size ≤ x := fun x hx => Nat.le_trans hC.size ((hN6.ge1) x hx)
 have hM : MS ([g5] ++ (M)) w4 := (MS.app hN6.ms (hM.chg hN6.chg))
 have hC := hC.trans hN6.chg (Ok.nil _ _)
 have hBg5 : Box w4 g5 (cS_api_Addr (⟨(0 : Int), (List.replicate 16 (0 : Int))⟩ : S_api_Addr)) := hN6.box
 refine stA (l := (cS_api_Addr t3.1)) ha rfl rfl rfl (by kernel_rfl) rfl rfl hBg5 rfl fun a w8 ha hb2 hc9 _ => ?_
 have o1 : Ok [g5] ([g5] ++ (M)) w4.heap.size := (fun _ h => .inl (ml h))
 have o2 : Ok ([g5] ++ (M)) ([g5] ++ (M)) w4.heap.size := (Ok.refl _ _)
 have hG := hG.chg hc9 o1 o2
 have hM : MS ([g5] ++ (M)) w8 := (hM.chg hc9)
 have hC := hC.trans hc9 (fun x h => .inr (e_i7 x h))
 have hBg5 : Box w8 g5 (cS_api_Addr t3.1) := hb2
 refine seg ha 1 [(1, .pointer (some ⟨g5, 0, none⟩)), (2, .int .i64 t3.2)] (by kernel_rfl) fun a ha => ?_
 refine hK2 _ _ ?_; try clear hK2 K2
 refine wp_seq_k fun K10 hK10 => ?_
 refine wp_region_lit ?_
 obtain ⟨t11, H11, H⟩ := bind_some H
 refine cl ha (by rfl) (by kernel_rfl) (by rfl) (by rfl) (by rfl) (addr_Parse.walk w8 _ hM hG ([50, 48, 48, 49, 58, 100, 98, 56, 58, 58] : List UInt8) k _ H11) ?_
 rintro _ w11 ⟨rfl, hc11, hMn⟩ a ha
 have o1 : Ok [] ([g5] ++ (M)) w8.heap.size := Ok.nil _ _
 have o2 : Ok ([g5] ++ (M)) ([g5] ++ (M)) w8.heap.size := (Ok.refl _ _)
 have hG := hG.chg hc11 o1 o2
 have hBg5 := hBg5.chg hc11 (fun h => nomatch h)
 have hM : MS ([g5] ++ (M)) w11 := (hM.chg hc11)
 have hC := hC.trans hc11 (Ok.nil _ _)
 refine seg ha 3 [(1, .pointer (some ⟨g5, 0, none⟩)), (2, .int .i64 t3.2), (15, .agg (cS_api_Addr t11.1).toArray), (16, .int .i64 t11.2)] (by kernel_rfl) fun a ha => ?_
 refine al (cs := (cS_api_Addr (⟨(0 : Int), (List.replicate 16 (0 : Int))⟩ : S_api_Addr))) (z := .agg (cS_api_Addr (⟨(0 : Int), (List.replicate 16 (0 : Int))⟩ : S_api_Addr)).toArray) ha (fun w => by kernel_rfl) rfl rfl rfl rfl fun a w12 g13 hN14 ha => ?_
 have o1 : Ok [] ([g5] ++ (M)) w11.heap.size := Ok.nil _ _
 have o2 : Ok ([g13] ++ ([g5] ++ (M))) ([g5] ++ (M)) w11.heap.size := (Ok.app (hN14.ok _) (Ok.refl _ _))
 have hG := hG.chg hN14.chg o1 o2
 have hBg5 := hBg5.chg hN14.chg (fun h => nomatch h)
 have p_i15_i7 : ∀ x ∈ [g13], x ∉ ([g5]) := fun x hx hy => absurd (hM x (ml hy)) (Nat.not_lt.2 ((hN14.ge1) x hx))
 have p_i15_M : ∀ x ∈ [g13], x ∉ M := fun x hx hy => absurd (hM x (mr (hy))) (Nat.not_lt.2 ((hN14.ge1) x hx))
 have e_i15 : ∀ x ∈ [g13], w.heap.size ≤ x := fun x hx => Nat.le_trans hC.size ((hN14.ge1) x hx)
 have hM : MS ([g13] ++ ([g5] ++ (M))) w12 := (MS.app hN14.ms (hM.chg hN14.chg))
 have hC := hC.trans hN14.chg (Ok.nil _ _)
 have hBg13 : Box w12 g13 (cS_api_Addr (⟨(0 : Int), (List.replicate 16 (0 : Int))⟩ : S_api_Addr)) := hN14.box
 refine stA (l := (cS_api_Addr t11.1)) ha rfl rfl rfl (by kernel_rfl) rfl rfl hBg13 rfl fun a w16 ha hb2 hc17 _ => ?_
 have o1 : Ok [g13] ([g13] ++ ([g5] ++ (M))) w12.heap.size := (fun _ h => .inl (ml h))
 have o2 : Ok ([g13] ++ ([g5] ++ (M))) ([g13] ++ ([g5] ++ (M))) w12.heap.size := (Ok.refl _ _)
 have hG := hG.chg hc17 o1 o2
 have hBg5 := hBg5.chg hc17 ((fun x (hx : x ∈ [g5]) (hy : x ∈ [g13]) => p_i15_i7 x hy hx) g5 (by simp))
 have hM : MS ([g13] ++ ([g5] ++ (M))) w16 := (hM.chg hc17)
 have hC := hC.trans hc17 (fun x h => .inr (e_i15 x h))
 have hBg13 : Box w16 g13 (cS_api_Addr t11.1) := hb2
 refine seg ha 1 [(1, .pointer (some ⟨g5, 0, none⟩)), (2, .int .i64 t3.2), (3, .pointer (some ⟨g13, 0, none⟩)), (4, .int .i64 t11.2)] (by kernel_rfl) fun a ha => ?_
 refine hK10 _ _ ?_; try clear hK10 K10
 refine wp_seq_k fun K18 hK18 => ?_
 refine wp_region_lit ?_
 obtain ⟨t19, H19, H⟩ := bind_some H
 refine cl ha (by rfl) (by kernel_rfl) (by rfl) (by rfl) (by rfl) (addr_Parse.walk w16 _ hM hG ([48, 49, 46, 50, 46, 51, 46, 52] : List UInt8) k _ H19) ?_
 rintro _ w19 ⟨rfl, hc19, hMn⟩ a ha
 have o1 : Ok [] ([g13] ++ ([g5] ++ (M))) w16.heap.size := Ok.nil _ _
 have o2 : Ok ([g13] ++ ([g5] ++ (M))) ([g13] ++ ([g5] ++ (M))) w16.heap.size := (Ok.refl _ _)
 have hG := hG.chg hc19 o1 o2
 have hBg5 := hBg5.chg hc19 (fun h => nomatch h)
 have hBg13 := hBg13.chg hc19 (fun h => nomatch h)
 have hM : MS ([g13] ++ ([g5] ++ (M))) w19 := (hM.chg hc19)
 have hC := hC.trans hc19 (Ok.nil _ _)
 refine seg ha 3 [(1, .pointer (some ⟨g5, 0, none⟩)), (2, .int .i64 t3.2), (3, .pointer (some ⟨g13, 0, none⟩)), (4, .int .i64 t11.2), (19, .agg (cS_api_Addr t19.1).toArray), (20, .int .i64 t19.2)] (by kernel_rfl) fun a ha => ?_
 refine al (cs := (cS_api_Addr (⟨(0 : Int), (List.replicate 16 (0 : Int))⟩ : S_api_Addr))) (z := .agg (cS_api_Addr (⟨(0 : Int), (List.replicate 16 (0 : Int))⟩ : S_api_Addr)).toArray) ha (fun w => by kernel_rfl) rfl rfl rfl rfl fun a w20 g21 hN22 ha => ?_
 have o1 : Ok [] ([g13] ++ ([g5] ++ (M))) w19.heap.size := Ok.nil _ _
 have o2 : Ok ([g21] ++ ([g13] ++ ([g5] ++ (M)))) ([g13] ++ ([g5] ++ (M))) w19.heap.size := (Ok.app (hN22.ok _) (Ok.refl _ _))
 have hG := hG.chg hN22.chg o1 o2
 have hBg5 := hBg5.chg hN22.chg (fun h => nomatch h)
 have hBg13 := hBg13.chg hN22.chg (fun h => nomatch h)
 have p_i23_i15 : ∀ x ∈ [g21], x ∉ ([g13]) := fun x hx hy => absurd (hM x (ml hy)) (Nat.not_lt.2 ((hN22.ge1) x hx))
 have p_i23_i7 : ∀ x ∈ [g21], x ∉ ([g5]) := fun x hx hy => absurd (hM x (mr (ml hy))) (Nat.not_lt.2 ((hN22.ge1) x hx))
 have p_i23_M : ∀ x ∈ [g21], x ∉ M := fun x hx hy => absurd (hM x (mr (mr (hy)))) (Nat.not_lt.2 ((hN22.ge1) x hx))
 have e_i23 : ∀ x ∈ [g21], w.heap.size ≤ x := fun x hx => Nat.le_trans hC.size ((hN22.ge1) x hx)
 have hM : MS ([g21] ++ ([g13] ++ ([g5] ++ (M)))) w20 := (MS.app hN22.ms (hM.chg hN22.chg))
 have hC := hC.trans hN22.chg (Ok.nil _ _)
 have hBg21 : Box w20 g21 (cS_api_Addr (⟨(0 : Int), (List.replicate 16 (0 : Int))⟩ : S_api_Addr)) := hN22.box
 refine stA (l := (cS_api_Addr t19.1)) ha rfl rfl rfl (by kernel_rfl) rfl rfl hBg21 rfl fun a w24 ha hb2 hc25 _ => ?_
 have o1 : Ok [g21] ([g21] ++ ([g13] ++ ([g5] ++ (M)))) w20.heap.size := (fun _ h => .inl (ml h))
 have o2 : Ok ([g21] ++ ([g13] ++ ([g5] ++ (M)))) ([g21] ++ ([g13] ++ ([g5] ++ (M)))) w20.heap.size := (Ok.refl _ _)
 have hG := hG.chg hc25 o1 o2
 have hBg5 := hBg5.chg hc25 ((fun x (hx : x ∈ [g5]) (hy : x ∈ [g21]) => p_i23_i7 x hy hx) g5 (by simp))
 have hBg13 := hBg13.chg hc25 ((fun x (hx : x ∈ [g13]) (hy : x ∈ [g21]) => p_i23_i15 x hy hx) g13 (by simp))
 have hM : MS ([g21] ++ ([g13] ++ ([g5] ++ (M)))) w24 := (hM.chg hc25)
 have hC := hC.trans hc25 (fun x h => .inr (e_i23 x h))
 have hBg21 : Box w24 g21 (cS_api_Addr t19.1) := hb2
 refine seg ha 1 [(1, .pointer (some ⟨g5, 0, none⟩)), (2, .int .i64 t3.2), (3, .pointer (some ⟨g13, 0, none⟩)), (4, .int .i64 t11.2), (6, .int .i64 t19.2)] (by kernel_rfl) fun a ha => ?_
 refine hK18 _ _ ?_; try clear hK18 K18
 refine wp_seq_k fun K26 hK26 => ?_
 refine wp_region_lit ?_
 refine ldA (cs := (cS_api_Addr t3.1)) ha rfl (by kernel_rfl) rfl rfl rfl (cells_sub (Box.cells hBg5) (all := (cS_api_Addr t3.1)) [] [] (by kernel_rfl)) fun a ha => ?_
 obtain ⟨t27, H27, H⟩ := bind_some H
 refine cl ha (by rfl) (by kernel_rfl) (by rfl) (by rfl) (by rfl) (addr_Cut.walk w24 _ hM t3.1 (8 : Int) k _ H27) ?_
 rintro _ w27 ⟨rfl, hc27, hMn⟩ a ha
 have o1 : Ok [] ([g21] ++ ([g13] ++ ([g5] ++ (M)))) w24.heap.size := Ok.nil _ _
 have o2 : Ok ([g21] ++ ([g13] ++ ([g5] ++ (M)))) ([g21] ++ ([g13] ++ ([g5] ++ (M)))) w24.heap.size := (Ok.refl _ _)
 have hG := hG.chg hc27 o1 o2
 have hBg5 := hBg5.chg hc27 (fun h => nomatch h)
 have hBg13 := hBg13.chg hc27 (fun h => nomatch h)
 have hBg21 := hBg21.chg hc27 (fun h => nomatch h)
 have hM : MS ([g21] ++ ([g13] ++ ([g5] ++ (M)))) w27 := (hM.chg hc27)
 have hC := hC.trans hc27 (Ok.nil _ _)
 refine seg ha 3 [(1, .pointer (some ⟨g5, 0, none⟩)), (2, .int .i64 t3.2), (3, .pointer (some ⟨g13, 0, none⟩)), (4, .int .i64 t11.2), (6, .int .i64 t19.2), (24, .agg (cS_api_Prefix t27.1).toArray), (25, .int .i64 t27.2)] (by kernel_rfl) fun a ha => ?_
 refine al (cs := (cS_api_Prefix (⟨(⟨(0 : Int), (List.replicate 16 (0 : Int))⟩ : S_api_Addr), (0 : Int)⟩ : S_api_Prefix))) (z := .agg (cS_api_Prefix (⟨(⟨(0 : Int), (List.replicate 16 (0 : Int))⟩ : S_api_Addr), (0 : Int)⟩ : S_api_Prefix)).toArray) ha (fun w => by kernel_rfl) rfl rfl rfl rfl fun a w28 g29 hN30 ha => ?_
 have o1 : Ok [] ([g21] ++ ([g13] ++ ([g5] ++ (M)))) w27.heap.size := Ok.nil _ _
 have o2 : Ok ([g29] ++ ([g21] ++ ([g13] ++ ([g5] ++ (M))))) ([g21] ++ ([g13] ++ ([g5] ++ (M)))) w27.heap.size := (Ok.app (hN30.ok _) (Ok.refl _ _))
 have hG := hG.chg hN30.chg o1 o2
 have hBg5 := hBg5.chg hN30.chg (fun h => nomatch h)
 have hBg13 := hBg13.chg hN30.chg (fun h => nomatch h)
 have hBg21 := hBg21.chg hN30.chg (fun h => nomatch h)
 have p_i31_i23 : ∀ x ∈ [g29], x ∉ ([g21]) := fun x hx hy => absurd (hM x (ml hy)) (Nat.not_lt.2 ((hN30.ge1) x hx))
 have p_i31_i15 : ∀ x ∈ [g29], x ∉ ([g13]) := fun x hx hy => absurd (hM x (mr (ml hy))) (Nat.not_lt.2 ((hN30.ge1) x hx))
 have p_i31_i7 : ∀ x ∈ [g29], x ∉ ([g5]) := fun x hx hy => absurd (hM x (mr (mr (ml hy)))) (Nat.not_lt.2 ((hN30.ge1) x hx))
 have p_i31_M : ∀ x ∈ [g29], x ∉ M := fun x hx hy => absurd (hM x (mr (mr (mr (hy))))) (Nat.not_lt.2 ((hN30.ge1) x hx))
 have e_i31 : ∀ x ∈ [g29], w.heap.size ≤ x := fun x hx => Nat.le_trans hC.size ((hN30.ge1) x hx)
 have hM : MS ([g29] ++ ([g21] ++ ([g13] ++ ([g5] ++ (M))))) w28 := (MS.app hN30.ms (hM.chg hN30.chg))
 have hC := hC.trans hN30.chg (Ok.nil _ _)
 have hBg29 : Box w28 g29 (cS_api_Prefix (⟨(⟨(0 : Int), (List.replicate 16 (0 : Int))⟩ : S_api_Addr), (0 : Int)⟩ : S_api_Prefix)) := hN30.box
 refine stA (l := (cS_api_Prefix t27.1)) ha rfl rfl rfl (by kernel_rfl) rfl rfl hBg29 rfl fun a w32 ha hb2 hc33 _ => ?_
 have o1 : Ok [g29] ([g29] ++ ([g21] ++ ([g13] ++ ([g5] ++ (M))))) w28.heap.size := (fun _ h => .inl (ml h))
 have o2 : Ok ([g29] ++ ([g21] ++ ([g13] ++ ([g5] ++ (M))))) ([g29] ++ ([g21] ++ ([g13] ++ ([g5] ++ (M))))) w28.heap.size := (Ok.refl _ _)
 have hG := hG.chg hc33 o1 o2
 have hBg5 := hBg5.chg hc33 ((fun x (hx : x ∈ [g5]) (hy : x ∈ [g29]) => p_i31_i7 x hy hx) g5 (by simp))
 have hBg13 := hBg13.chg hc33 ((fun x (hx : x ∈ [g13]) (hy : x ∈ [g29]) => p_i31_i15 x hy hx) g13 (by simp))
 have hBg21 := hBg21.chg hc33 ((fun x (hx : x ∈ [g21]) (hy : x ∈ [g29]) => p_i31_i23 x hy hx) g21 (by simp))
 have hM : MS ([g29] ++ ([g21] ++ ([g13] ++ ([g5] ++ (M))))) w32 := (hM.chg hc33)
 have hC := hC.trans hc33 (fun x h => .inr (e_i31 x h))
 have hBg29 : Box w32 g29 (cS_api_Prefix t27.1) := hb2
 refine seg ha 1 [(1, .pointer (some ⟨g5, 0, none⟩)), (2, .int .i64 t3.2), (3, .pointer (some ⟨g13, 0, none⟩)), (4, .int .i64 t11.2), (6, .int .i64 t19.2), (7, .pointer (some ⟨g29, 0, none⟩)), (8, .int .i64 t27.2)] (by kernel_rfl) fun a ha => ?_
 refine hK26 _ _ ?_; try clear hK26 K26
 refine wp_seq_k fun K34 hK34 => ?_
 refine wp_region_lit ?_
 obtain ⟨s35, H35, H⟩ := bind_some H
 have J35 : ∀ (a : Act) (w35 : World), Has a Tryd.f11.ntmps [(0, .bool s35)] → (Box w35 g5 (cS_api_Addr t3.1)) → (Box w35 g13 (cS_api_Addr t11.1)) → (Box w35 g21 (cS_api_Addr t19.1)) → (Box w35 g29 (cS_api_Prefix t27.1)) → (GF w35 ([g29] ++ ([g21] ++ ([g13] ++ ([g5] ++ (M)))))) → (Chg [] w w35) → (MS ([g29] ++ ([g21] ++ ([g13] ++ ([g5] ++ (M))))) w35) → K34 a w35 := by
  intro a w35 ha hBg5 hBg13 hBg21 hBg29 hG hC hM
  refine hK34 _ _ ?_; try clear hK34 K34
  refine wp_ret ?_
  try simp only [Exit.then, Exit.inBlock]
  have o1 : Ok [] ([g29] ++ ([g21] ++ ([g13] ++ ([g5] ++ (M))))) w35.heap.size := Ok.nil _ _
  have o2 : Ok (M) ([g29] ++ ([g21] ++ ([g13] ++ ([g5] ++ (M))))) w35.heap.size := (fun _ h => .inl (mr (mr (mr (mr (h))))))
  have hG := hG.chg (Chg.refl [] _) o1 o2
  have hBg5 := hBg5.chg (Chg.refl [] _) (fun h => nomatch h)
  have hBg13 := hBg13.chg (Chg.refl [] _) (fun h => nomatch h)
  have hBg21 := hBg21.chg (Chg.refl [] _) (fun h => nomatch h)
  have hBg29 := hBg29.chg (Chg.refl [] _) (fun h => nomatch h)
  have hM : MS (M) w35 := (fun x h => hM.chg (Chg.refl [] _) x (mr (mr (mr (mr (h))))))
  have hC := hC.trans (Chg.refl [] _) (Ok.nil _ _)
  obtain rfl := Option.some.inj H
  refine rt1 ha rfl rfl ?_
  exact ⟨rfl, hC, hM⟩
 have H := H35
 refine seg ha 3 [(28, .bool (t3.2 == (0 : Int))), (1, .pointer (some ⟨g5, 0, none⟩)), (3, .pointer (some ⟨g13, 0, none⟩)), (4, .int .i64 t11.2), (6, .int .i64 t19.2), (7, .pointer (some ⟨g29, 0, none⟩)), (8, .int .i64 t27.2)] (by kernel_rfl) fun a ha => ?_
 rcases Bool.eq_false_or_eq_true (t3.2 == (0 : Int)) with hb36 | hb36
 ·have ha := ha.lit hb36
  have H := ite_t hb36 H
  refine ldA (cs := (cS_api_Addr t3.1)) ha rfl (by kernel_rfl) rfl rfl rfl (cells_sub (Box.cells hBg5) (all := (cS_api_Addr t3.1)) [] [] (by kernel_rfl)) fun a ha => ?_
  refine opk (v := .agg (cA .u8 16 ([(192 : Int), (0 : Int), (2 : Int), (1 : Int), (0 : Int), (0 : Int), (0 : Int), (0 : Int), (0 : Int), (0 : Int), (0 : Int), (0 : Int), (0 : Int), (0 : Int), (0 : Int), (0 : Int)] : List Int)).toArray) ha rfl rfl rfl rfl rfl (fun w => by kernel_rfl) fun a ha => ?_
  refine opk (v := .agg (cS_api_Addr (⟨(4 : Int), ([(192 : Int), (0 : Int), (2 : Int), (1 : Int), (0 : Int), (0 : Int), (0 : Int), (0 : Int), (0 : Int), (0 : Int), (0 : Int), (0 : Int), (0 : Int), (0 : Int), (0 : Int), (0 : Int)] : List Int)⟩ : S_api_Addr)).toArray) ha rfl rfl rfl rfl rfl (fun w => by kernel_rfl) fun a ha => ?_
  refine hop (v := .bool ((t3.1.Size == (4 : Int)) && ((eqA 16 t3.1.B ([(192 : Int), (0 : Int), (2 : Int), (1 : Int), (0 : Int), (0 : Int), (0 : Int), (0 : Int), (0 : Int), (0 : Int), (0 : Int), (0 : Int), (0 : Int), (0 : Int), (0 : Int), (0 : Int)] : List Int)) && true))) (w' := w32) ha rfl rfl rfl (eqs_run (r := ((t3.1.Size == (4 : Int)) && ((eqA 16 t3.1.B ([(192 : Int), (0 : Int), (2 : Int), (1 : Int), (0 : Int), (0 : Int), (0 : Int), (0 : Int), (0 : Int), (0 : Int), (0 : Int), (0 : Int), (0 : Int), (0 : Int), (0 : Int), (0 : Int)] : List Int)) && true))) (m := 9) ha rfl rfl (by kernel_rfl) rfl (by kernel_rfl) _) fun a ha => ?_
  refine sgh ha 2 [3, 0] [(34, .bool ((t3.1.Size == (4 : Int)) && ((eqA 16 t3.1.B ([(192 : Int), (0 : Int), (2 : Int), (1 : Int), (0 : Int), (0 : Int), (0 : Int), (0 : Int), (0 : Int), (0 : Int), (0 : Int), (0 : Int), (0 : Int), (0 : Int), (0 : Int), (0 : Int)] : List Int)) && true))), (1, .pointer (some ⟨g5, 0, none⟩)), (3, .pointer (some ⟨g13, 0, none⟩)), (4, .int .i64 t11.2), (6, .int .i64 t19.2), (7, .pointer (some ⟨g29, 0, none⟩)), (8, .int .i64 t27.2)] (by kernel_rfl) fun a ha => ?_
  rcases Bool.eq_false_or_eq_true (((t3.1.Size == (4 : Int)) && ((eqA 16 t3.1.B ([(192 : Int), (0 : Int), (2 : Int), (1 : Int), (0 : Int), (0 : Int), (0 : Int), (0 : Int), (0 : Int), (0 : Int), (0 : Int), (0 : Int), (0 : Int), (0 : Int), (0 : Int), (0 : Int)] : List Int)) && true))) with hb37 | hb37
  ·have ha := ha.lit hb37
   have H := ite_t hb37 H
   refine ldA (cs := (cS_api_Addr t3.1)) ha rfl (by kernel_rfl) rfl rfl rfl (cells_sub (Box.cells hBg5) (all := (cS_api_Addr t3.1)) [] [] (by kernel_rfl)) fun a ha => ?_
   obtain ⟨t38, H38, H⟩ := bind_some H
   refine cl ha (by rfl) (by kernel_rfl) (by rfl) (by rfl) (by rfl) (addr_Text.walk w32 _ hM hG t3.1 k _ H38) ?_
   rintro _ w38 ⟨rfl, hc38, hMn⟩ a ha
   have o1 : Ok [] ([g29] ++ ([g21] ++ ([g13] ++ ([g5] ++ (M))))) w32.heap.size := Ok.nil _ _
   have o2 : Ok ([g29] ++ ([g21] ++ ([g13] ++ ([g5] ++ (M))))) ([g29] ++ ([g21] ++ ([g13] ++ ([g5] ++ (M))))) w32.heap.size := (Ok.refl _ _)
   have hG := hG.chg hc38 o1 o2
   have hBg5 := hBg5.chg hc38 (fun h => nomatch h)
   have hBg13 := hBg13.chg hc38 (fun h => nomatch h)
   have hBg21 := hBg21.chg hc38 (fun h => nomatch h)
   have hBg29 := hBg29.chg hc38 (fun h => nomatch h)
   have hM : MS ([g29] ++ ([g21] ++ ([g13] ++ ([g5] ++ (M))))) w38 := (hM.chg hc38)
   have hC := hC.trans hc38 (Ok.nil _ _)
   refine sgh ha 3 [2, 3, 0] [(39, .bool ((bstr t38).toList == (bstr ([49, 57, 50, 46, 48, 46, 50, 46, 49] : List UInt8)).toList)), (1, .pointer (some ⟨g5, 0, none⟩)), (3, .pointer (some ⟨g13, 0, none⟩)), (4, .int .i64 t11.2), (6, .int .i64 t19.2), (7, .pointer (some ⟨g29, 0, none⟩)), (8, .int .i64 t27.2)] (by kernel_rfl) fun a ha => ?_
   rcases Bool.eq_false_or_eq_true ((bstr t38).toList == (bstr ([49, 57, 50, 46, 48, 46, 50, 46, 49] : List UInt8)).toList) with hb39 | hb39
   ·have ha := ha.lit hb39
    have H := ite_t hb39 H
    refine sgh ha 4 [2, 2, 3, 0] [(43, .bool (t11.2 == (0 : Int))), (1, .pointer (some ⟨g5, 0, none⟩)), (3, .pointer (some ⟨g13, 0, none⟩)), (6, .int .i64 t19.2), (7, .pointer (some ⟨g29, 0, none⟩)), (8, .int .i64 t27.2)] (by kernel_rfl) fun a ha => ?_
    rcases Bool.eq_false_or_eq_true (t11.2 == (0 : Int)) with hb40 | hb40
    ·have ha := ha.lit hb40
     have H := ite_t hb40 H
     refine ldA (cs := (cS_api_Addr t11.1)) ha rfl (by kernel_rfl) rfl rfl rfl (cells_sub (Box.cells hBg13) (all := (cS_api_Addr t11.1)) [] [] (by kernel_rfl)) fun a ha => ?_
     obtain ⟨t41, H41, H⟩ := bind_some H
     refine cl ha (by rfl) (by kernel_rfl) (by rfl) (by rfl) (by rfl) (addr_Text.walk w38 _ hM hG t11.1 k _ H41) ?_
     rintro _ w41 ⟨rfl, hc41, hMn⟩ a ha
     have o1 : Ok [] ([g29] ++ ([g21] ++ ([g13] ++ ([g5] ++ (M))))) w38.heap.size := Ok.nil _ _
     have o2 : Ok ([g29] ++ ([g21] ++ ([g13] ++ ([g5] ++ (M))))) ([g29] ++ ([g21] ++ ([g13] ++ ([g5] ++ (M))))) w38.heap.size := (Ok.refl _ _)
     have hG := hG.chg hc41 o1 o2
     have hBg5 := hBg5.chg hc41 (fun h => nomatch h)
     have hBg13 := hBg13.chg hc41 (fun h => nomatch h)
     have hBg21 := hBg21.chg hc41 (fun h => nomatch h)
     have hBg29 := hBg29.chg hc41 (fun h => nomatch h)
     have hM : MS ([g29] ++ ([g21] ++ ([g13] ++ ([g5] ++ (M))))) w41 := (hM.chg hc41)
     have hC := hC.trans hc41 (Ok.nil _ _)
     refine sgh ha 3 [2, 3, 0] [(48, .bool ((bstr t41).toList == (bstr ([50, 48, 48, 49, 58, 100, 98, 56, 58, 58] : List UInt8)).toList)), (1, .pointer (some ⟨g5, 0, none⟩)), (6, .int .i64 t19.2), (7, .pointer (some ⟨g29, 0, none⟩)), (8, .int .i64 t27.2)] (by kernel_rfl) fun a ha => ?_
     rcases Bool.eq_false_or_eq_true ((bstr t41).toList == (bstr ([50, 48, 48, 49, 58, 100, 98, 56, 58, 58] : List UInt8)).toList) with hb42 | hb42
     ·have ha := ha.lit hb42
      have H := ite_t hb42 H
      refine sgh ha 4 [2, 2, 3, 0] [(52, .bool (t19.2 == (4 : Int))), (1, .pointer (some ⟨g5, 0, none⟩)), (7, .pointer (some ⟨g29, 0, none⟩)), (8, .int .i64 t27.2)] (by kernel_rfl) fun a ha => ?_
      rcases Bool.eq_false_or_eq_true (t19.2 == (4 : Int)) with hb43 | hb43
      ·have ha := ha.lit hb43
       have H := ite_t hb43 H
       refine sgh ha 4 [2, 2, 3, 0] [(56, .bool (t27.2 == (0 : Int))), (1, .pointer (some ⟨g5, 0, none⟩)), (7, .pointer (some ⟨g29, 0, none⟩))] (by kernel_rfl) fun a ha => ?_
       rcases Bool.eq_false_or_eq_true (t27.2 == (0 : Int)) with hb44 | hb44
       ·have ha := ha.lit hb44
        have H := ite_t hb44 H
        refine ldA (cs := (cS_api_Prefix t27.1)) ha rfl (by kernel_rfl) rfl rfl rfl (cells_sub (Box.cells hBg29) (all := (cS_api_Prefix t27.1)) [] [] (by kernel_rfl)) fun a ha => ?_
        obtain ⟨t45, H45, H⟩ := bind_some H
        refine cl ha (by rfl) (by kernel_rfl) (by rfl) (by rfl) (by rfl) (addr_PrefixText.walk w41 _ hM hG t27.1 k _ H45) ?_
        rintro _ w45 ⟨rfl, hc45, hMn⟩ a ha
        have o1 : Ok [] ([g29] ++ ([g21] ++ ([g13] ++ ([g5] ++ (M))))) w41.heap.size := Ok.nil _ _
        have o2 : Ok ([g29] ++ ([g21] ++ ([g13] ++ ([g5] ++ (M))))) ([g29] ++ ([g21] ++ ([g13] ++ ([g5] ++ (M))))) w41.heap.size := (Ok.refl _ _)
        have hG := hG.chg hc45 o1 o2
        have hBg5 := hBg5.chg hc45 (fun h => nomatch h)
        have hBg13 := hBg13.chg hc45 (fun h => nomatch h)
        have hBg21 := hBg21.chg hc45 (fun h => nomatch h)
        have hBg29 := hBg29.chg hc45 (fun h => nomatch h)
        have hM : MS ([g29] ++ ([g21] ++ ([g13] ++ ([g5] ++ (M))))) w45 := (hM.chg hc45)
        have hC := hC.trans hc45 (Ok.nil _ _)
        refine sgh ha 3 [2, 3, 0] [(61, .bool ((bstr t45).toList == (bstr ([49, 57, 50, 46, 48, 46, 48, 46, 48, 47, 56] : List UInt8)).toList)), (1, .pointer (some ⟨g5, 0, none⟩)), (7, .pointer (some ⟨g29, 0, none⟩))] (by kernel_rfl) fun a ha => ?_
        rcases Bool.eq_false_or_eq_true ((bstr t45).toList == (bstr ([49, 57, 50, 46, 48, 46, 48, 46, 48, 47, 56] : List UInt8)).toList) with hb46 | hb46
        ·have ha := ha.lit hb46
         have H := ite_t hb46 H
         refine ldA (cs := (cS_api_Prefix t27.1)) ha rfl (by kernel_rfl) rfl rfl rfl (cells_sub (Box.cells hBg29) (all := (cS_api_Prefix t27.1)) [] [] (by kernel_rfl)) fun a ha => ?_
         refine ldA (cs := (cS_api_Addr t3.1)) ha rfl (by kernel_rfl) rfl rfl rfl (cells_sub (Box.cells hBg5) (all := (cS_api_Addr t3.1)) [] [] (by kernel_rfl)) fun a ha => ?_
         obtain ⟨t47, H47, H⟩ := bind_some H
         refine cl ha (by rfl) (by kernel_rfl) (by rfl) (by rfl) (by rfl) (addr_Has.walk w45 _ hM t27.1 t3.1 k _ H47) ?_
         rintro _ w47 ⟨rfl, hc47, hMn⟩ a ha
         have o1 : Ok [] ([g29] ++ ([g21] ++ ([g13] ++ ([g5] ++ (M))))) w45.heap.size := Ok.nil _ _
         have o2 : Ok ([g29] ++ ([g21] ++ ([g13] ++ ([g5] ++ (M))))) ([g29] ++ ([g21] ++ ([g13] ++ ([g5] ++ (M))))) w45.heap.size := (Ok.refl _ _)
         have hG := hG.chg hc47 o1 o2
         have hBg5 := hBg5.chg hc47 (fun h => nomatch h)
         have hBg13 := hBg13.chg hc47 (fun h => nomatch h)
         have hBg21 := hBg21.chg hc47 (fun h => nomatch h)
         have hBg29 := hBg29.chg hc47 (fun h => nomatch h)
         have hM : MS ([g29] ++ ([g21] ++ ([g13] ++ ([g5] ++ (M))))) w47 := (hM.chg hc47)
         have hC := hC.trans hc47 (Ok.nil _ _)
         refine sgh ha 2 [3, 0] [(0, .bool t47)] (by kernel_rfl) fun a ha => ?_
         obtain rfl := Option.some.inj H
         exact J35 _ _ (ha.sel (by kernel_rfl)) hBg5 hBg13 hBg21 hBg29 hG hC hM
        ·have ha := ha.lit hb46
         have H := ite_f hb46 H
         refine sgh ha 5 [1, 1, 1, 4, 0] [(0, .bool false)] (by kernel_rfl) fun a ha => ?_
         obtain rfl := Option.some.inj H
         exact J35 _ _ (ha.sel (by kernel_rfl)) hBg5 hBg13 hBg21 hBg29 hG hC hM
       ·have ha := ha.lit hb44
        have H := ite_f hb44 H
        refine sgh ha 10 [1, 1, 1, 4, 0, 1, 1, 1, 4, 0] [(0, .bool false)] (by kernel_rfl) fun a ha => ?_
        obtain rfl := Option.some.inj H
        exact J35 _ _ (ha.sel (by kernel_rfl)) hBg5 hBg13 hBg21 hBg29 hG hC hM
      ·have ha := ha.lit hb43
       have H := ite_f hb43 H
       refine sgh ha 14 [1, 1, 4, 0, 1, 1, 1, 4, 0, 1, 1, 1, 4, 0] [(0, .bool false)] (by kernel_rfl) fun a ha => ?_
       obtain rfl := Option.some.inj H
       exact J35 _ _ (ha.sel (by kernel_rfl)) hBg5 hBg13 hBg21 hBg29 hG hC hM
     ·have ha := ha.lit hb42
      have H := ite_f hb42 H
      refine sgh ha 18 [1, 1, 4, 0, 1, 1, 4, 0, 1, 1, 1, 4, 0, 1, 1, 1, 4, 0] [(0, .bool false)] (by kernel_rfl) fun a ha => ?_
      obtain rfl := Option.some.inj H
      exact J35 _ _ (ha.sel (by kernel_rfl)) hBg5 hBg13 hBg21 hBg29 hG hC hM
    ·have ha := ha.lit hb40
     have H := ite_f hb40 H
     refine sgh ha 23 [1, 1, 1, 4, 0, 1, 1, 4, 0, 1, 1, 4, 0, 1, 1, 1, 4, 0, 1, 1, 1, 4, 0] [(0, .bool false)] (by kernel_rfl) fun a ha => ?_
     obtain rfl := Option.some.inj H
     exact J35 _ _ (ha.sel (by kernel_rfl)) hBg5 hBg13 hBg21 hBg29 hG hC hM
   ·have ha := ha.lit hb39
    have H := ite_f hb39 H
    refine sgh ha 27 [1, 1, 4, 0, 1, 1, 1, 4, 0, 1, 1, 4, 0, 1, 1, 4, 0, 1, 1, 1, 4, 0, 1, 1, 1, 4, 0] [(0, .bool false)] (by kernel_rfl) fun a ha => ?_
    obtain rfl := Option.some.inj H
    exact J35 _ _ (ha.sel (by kernel_rfl)) hBg5 hBg13 hBg21 hBg29 hG hC hM
  ·have ha := ha.lit hb37
   have H := ite_f hb37 H
   refine sgh ha 32 [1, 1, 1, 4, 0, 1, 1, 4, 0, 1, 1, 1, 4, 0, 1, 1, 4, 0, 1, 1, 4, 0, 1, 1, 1, 4, 0, 1, 1, 1, 4, 0] [(0, .bool false)] (by kernel_rfl) fun a ha => ?_
   obtain rfl := Option.some.inj H
   exact J35 _ _ (ha.sel (by kernel_rfl)) hBg5 hBg13 hBg21 hBg29 hG hC hM
 ·have ha := ha.lit hb36
  have H := ite_f hb36 H
  refine sgh ha 38 [1, 1, 1, 1, 4, 0, 1, 1, 1, 4, 0, 1, 1, 4, 0, 1, 1, 1, 4, 0, 1, 1, 4, 0, 1, 1, 4, 0, 1, 1, 1, 4, 0, 1, 1, 1, 4, 0] [(0, .bool false)] (by kernel_rfl) fun a ha => ?_
  obtain rfl := Option.some.inj H
  exact J35 _ _ (ha.sel (by kernel_rfl)) hBg5 hBg13 hBg21 hBg29 hG hC hM
def vineryref02_split.l0 (a0 : List UInt8) (a1 : Int) : Nat → (List (List UInt8)) → Int → Option (List (List UInt8))
  | 0, _, _ => none
  | kk + 1, x12, x13 => (if (decide (x13 < ((bstr a0).size : Int))) = true then (if 0 ≤ x13 ∧ x13 < (a0.length : Int) then (if (((a0.getD (Int.toNat x13) 0).toNat : Int) == a1) = true then (if (x12.length + ([([] : List UInt8)] : List (List UInt8)).length) * 16 ≤ 140737488355328 then vineryref02_split.l0 a0 a1 kk (x12 ++ ([([] : List UInt8)] : List (List UInt8))) (IntKind.i64.wrap (x13 + (1 : Int))) else none) else (if 0 ≤ (IntKind.i64.wrap ((x12.length : Int) - (1 : Int))) ∧ (IntKind.i64.wrap ((x12.length : Int) - (1 : Int))) < (x12.length : Int) then (if 0 ≤ x13 ∧ x13 ≤ (IntKind.i64.wrap (x13 + (1 : Int))) ∧ (IntKind.i64.wrap (x13 + (1 : Int))) ≤ (a0.length : Int) then (if ((rd x12 (IntKind.i64.wrap ((x12.length : Int) - (1 : Int)))) ++ ((a0.take (Int.toNat (IntKind.i64.wrap (x13 + (1 : Int))))).drop (Int.toNat x13))).length ≤ 9223372036854775807 then (if 0 ≤ (IntKind.i64.wrap ((x12.length : Int) - (1 : Int))) ∧ (IntKind.i64.wrap ((x12.length : Int) - (1 : Int))) < (x12.length : Int) then vineryref02_split.l0 a0 a1 kk (x12.set (Int.toNat (IntKind.i64.wrap ((x12.length : Int) - (1 : Int)))) ((rd x12 (IntKind.i64.wrap ((x12.length : Int) - (1 : Int)))) ++ ((a0.take (Int.toNat (IntKind.i64.wrap (x13 + (1 : Int))))).drop (Int.toNat x13)))) (IntKind.i64.wrap (x13 + (1 : Int))) else none) else none) else none) else none)) else none) else some (x12 : List (List UInt8)))
def vineryref02_split.f (k : Nat) (a0 : List UInt8) (a1 : Int) : Option (List (List UInt8)) := (vineryref02_split.l0 a0 a1 k ([([] : List UInt8)] : List (List UInt8)) (0 : Int)).bind fun s10 => some ((s10 : List (List UInt8)))
set_option maxRecDepth 100000 in
theorem vineryref02_split.walk (w : World) (M : List Nat) (hM : MS M w) (a0 : List UInt8) (a1 : Int) (k : Nat) (r : List (List UInt8)) (H : vineryref02_split.f k a0 a1 = some r) :
    To Tryd.prog 50 [.string (bstr a0), .int .u8 a1] w fun v w' => ∃ (ao46 : Option Addr) (cap46 : Nat), v = .slice ao46 r.length cap46 ∧ (Own rStr 9 w' (blkL ao46 ++ (M)) ao46 cap46 r) ∧ (∀ x ∈ blkL ao46, w.heap.size ≤ x) ∧ Chg [] w w' ∧ MS (blkL ao46 ++ (M)) w' := by
 unfold vineryref02_split.f at H
 refine ent Tryd.func50 rfl [(0, .string (bstr a0)), (1, .int .u8 a1)] rfl (by rfl) fun a ha => ?_
 have hC : Chg [] w w := Chg.refl _ _
 refine wp_seq_k fun K1 hK1 => ?_
 refine wp_region_lit ?_
 refine seg ha 1 [(0, .string (bstr a0)), (1, .int .u8 a1)] (by kernel_rfl) fun a ha => ?_
 refine hK1 _ _ ?_; try clear hK1 K1
 refine wp_seq_k fun K2 hK2 => ?_
 refine wp_region_lit ?_
 refine bsl (vals := ([.string (bstr ([] : List UInt8))] : List Value)) (T := 9) ha rfl (([.string (bstr ([] : List UInt8))] : List Value) ++ ([] : List Value)) (fun w => by kernel_rfl) rfl rfl rfl fun a w3 g4 hN5 ha => ?_
 have p_i6_M : ∀ x ∈ [g4], x ∉ M := fun x hx hy => absurd (hM x (hy)) (Nat.not_lt.2 ((hN5.ge1) x hx))
 have e_i6 : ∀ x ∈ [g4], w.heap.size ≤ x := fun x hx => Nat.le_trans hC.size ((hN5.ge1) x hx)
 have hM : MS ([g4] ++ (M)) w3 := (MS.app hN5.ms (hM.chg hN5.chg))
 have hC := hC.trans hN5.chg (Ok.nil _ _)
 have f7 : Own rStr 9 w3 ([g4] ++ (M)) (some ⟨g4, 0, none⟩) 1 ([([] : List UInt8)] : List (List UInt8)) := hN5.own ⟨([.string (bstr ([] : List UInt8))] : List Value), _, rfl, rfl, rfl⟩ (Nat.le_of_ble_eq_true rfl)
 refine seg ha 1 [(0, .string (bstr a0)), (1, .int .u8 a1), (5, .slice (some ⟨g4, 0, none⟩) ([([] : List UInt8)] : List (List UInt8)).length 1)] (by kernel_rfl) fun a ha => ?_
 refine hK2 _ _ ?_; try clear hK2 K2
 refine wp_seq_k fun K8 hK8 => ?_
 refine wp_seq_k fun K9 hK9 => ?_
 refine wp_region_lit ?_
 refine seg ha 1 [(0, .string (bstr a0)), (1, .int .u8 a1), (5, .slice (some ⟨g4, 0, none⟩) ([([] : List UInt8)] : List (List UInt8)).length 1), (6, .int .i64 (0 : Int))] (by kernel_rfl) fun a ha => ?_
 refine hK9 _ _ ?_; try clear hK9 K9
 refine wp_block ?_
 obtain ⟨s10, H10, H⟩ := bind_some H
 have J10 : ∀ (a : Act) (wx10 : World) (ao14 : Option Addr) (cap14 : Nat), Has a Tryd.f50.ntmps [(5, .slice ao14 s10.length cap14)] → (Own rStr 9 wx10 (blkL ao14 ++ (M)) ao14 cap14 s10) → (∀ x ∈ blkL ao14, w.heap.size ≤ x) → (∀ x ∈ blkL ao14, x ∉ M) → (Chg [] w wx10) → (MS (blkL ao14 ++ (M)) wx10) → K8 a wx10 := by
  intro a wx10 ao14 cap14 ha f14 e_i14 p_i14_M hC hM
  refine hK8 _ _ ?_; try clear hK8 K8
  refine wp_seq_k fun K15 hK15 => ?_
  refine wp_region_lit ?_
  refine seg ha 2 [(4, .slice ao14 s10.length cap14)] (by kernel_rfl) fun a ha => ?_
  refine hK15 _ _ ?_; try clear hK15 K15
  refine wp_ret ?_
  try simp only [Exit.then, Exit.inBlock]
  obtain rfl := Option.some.inj H
  refine rt1 ha rfl rfl ?_
  exact ⟨ao14, cap14, rfl, f14, e_i14, hC, hM⟩
 have Hc10 := H
 have H := H10
 refine wp_loop_ghost (fun kk a w10 => ∃ (x12 : List (List UInt8)) (x13 : Int) (ao11 : Option Addr) (cap11 : Nat), vineryref02_split.l0 a0 a1 kk x12 x13 = some s10 ∧ Has a Tryd.f50.ntmps [(0, .string (bstr a0)), (1, .int .u8 a1), (5, .slice ao11 x12.length cap11), (6, .int .i64 x13)] ∧ (Own rStr 9 w10 (blkL ao11 ++ (M)) ao11 cap11 x12) ∧ (∀ x ∈ blkL ao11, w.heap.size ≤ x) ∧ (∀ x ∈ blkL ao11, x ∉ M) ∧ (Chg [] w w10) ∧ (MS (blkL ao11 ++ (M)) w10)) k ?_ ?_
 ·skip
  exact ⟨([([] : List UInt8)] : List (List UInt8)), (0 : Int), (some ⟨g4, 0, none⟩), 1, H, (ha.sel (by kernel_rfl)), f7, e_i6, p_i6_M, hC, hM⟩
 ·rintro kk a w10 ⟨x12, x13, ao11, cap11, H, ha, f11, e_i11, p_i11_M, hC, hM⟩
  obtain _ | kk := kk
  ·exact nomatch (show none = some _ from H)
  rw [vineryref02_split.l0] at H
  refine wp_seq_k fun K16 hK16 => ?_
  refine wp_seq_k fun K17 hK17 => ?_
  refine wp_region_lit ?_
  refine seg ha 4 [(0, .string (bstr a0)), (1, .int .u8 a1), (5, .slice ao11 x12.length cap11), (6, .int .i64 x13), (11, .bool (decide (x13 < ((bstr a0).size : Int))))] (by kernel_rfl) fun a ha => ?_
  refine hK17 _ _ ?_; try clear hK17 K17
  refine cnd ha rfl (fun hc18 => ?_) (fun hc18 => ?_)
  ·have H := ite_t hc18 H
   refine wp_skip ?_
   refine hK16 _ _ ?_; try clear hK16 K16
   refine wp_seq_k fun K19 hK19 => ?_
   refine wp_block ?_
   refine wp_seq_k fun K20 hK20 => ?_
   refine wp_region_lit ?_
   refine seg ha 2 [(0, .string (bstr a0)), (1, .int .u8 a1), (5, .slice ao11 x12.length cap11), (6, .int .i64 x13), (14, .string (bstr a0)), (15, .int .i64 x13)] (by kernel_rfl) fun a ha => ?_
   obtain ⟨⟨hx21, hx21'⟩, H⟩ := ite_some H
   refine hop (v := .int .u8 ((a0.getD (Int.toNat x13) 0).toNat : Int)) (w' := w10) ha rfl rfl rfl (sidx_run (l := a0) (k := .i64) (i := x13) ha (by kernel_rfl) (by rfl) (by rfl) hx21 hx21' _) fun a ha => ?_
   refine seg ha 2 [(0, .string (bstr a0)), (1, .int .u8 a1), (5, .slice ao11 x12.length cap11), (6, .int .i64 x13), (18, .bool (((a0.getD (Int.toNat x13) 0).toNat : Int) == a1))] (by kernel_rfl) fun a ha => ?_
   refine hK20 _ _ ?_; try clear hK20 K20
   refine cnd ha rfl (fun hc22 => ?_) (fun hc22 => ?_)
   ·have H := ite_t hc22 H
    refine wp_region_lit ?_
    refine seg ha 1 [(0, .string (bstr a0)), (1, .int .u8 a1), (6, .int .i64 x13), (19, .slice ao11 x12.length cap11)] (by kernel_rfl) fun a ha => ?_
    refine bsl (vals := ([.string (bstr ([] : List UInt8))] : List Value)) (T := 9) ha rfl (([.string (bstr ([] : List UInt8))] : List Value) ++ ([] : List Value)) (fun w => by kernel_rfl) rfl rfl rfl fun a w23 g24 hN25 ha => ?_
    have o1 : Ok [] (blkL ao11 ++ (M)) w10.heap.size := Ok.nil _ _
    have o2 : Ok ([g24] ++ (blkL ao11 ++ (M))) (blkL ao11 ++ (M)) w10.heap.size := (Ok.app (hN25.ok _) (Ok.refl _ _))
    have f11 := f11.chg hN25.chg o1 o2 (fun _ _ h => nomatch h) (fun _ h => mr (ml h))
    have p_i26_i11 : ∀ x ∈ [g24], x ∉ (blkL ao11) := fun x hx hy => absurd (hM x (ml hy)) (Nat.not_lt.2 ((hN25.ge1) x hx))
    have p_i26_M : ∀ x ∈ [g24], x ∉ M := fun x hx hy => absurd (hM x (mr (hy))) (Nat.not_lt.2 ((hN25.ge1) x hx))
    have e_i26 : ∀ x ∈ [g24], w.heap.size ≤ x := fun x hx => Nat.le_trans hC.size ((hN25.ge1) x hx)
    have hM : MS ([g24] ++ (blkL ao11 ++ (M))) w23 := (MS.app hN25.ms (hM.chg hN25.chg))
    have hC := hC.trans hN25.chg (Ok.nil _ _)
    have f27 : Own rStr 9 w23 ([g24] ++ (blkL ao11 ++ (M))) (some ⟨g24, 0, none⟩) 1 ([([] : List UInt8)] : List (List UInt8)) := hN25.own ⟨([.string (bstr ([] : List UInt8))] : List Value), _, rfl, rfl, rfl⟩ (Nat.le_of_ble_eq_true rfl)
    obtain ⟨hx28, H⟩ := ite_some H
    refine app (r := rStr) (xs := x12) (ys := ([([] : List UInt8)] : List (List UInt8))) ha (ElemT.mk' (bytes := 16) (by kernel_rfl)) rfl rfl rfl rfl rfl f11 f27.src hx28 (by decide) fun a w29 ao30 cap30 hO30 hc30 hk30 hl30 ha => ?_
    have o1 : Ok (blkL ao11) ([g24] ++ (blkL ao11 ++ (M))) w23.heap.size := (fun _ h => .inl (mr (ml h)))
    have o2 : Ok (blkL ao30 ++ ([g24] ++ (M))) ([g24] ++ (blkL ao11 ++ (M))) w23.heap.size := (Ok.app (Ok.to hk30 (fun _ h => mr (ml h))) (Ok.app (fun _ h => .inl (ml h)) (fun _ h => .inl (mr (mr (h))))))
    have f27 := f27.chg hc30 o1 o2 p_i26_i11 (fun _ h => mr (ml h))
    have p_i30_i26 : ∀ x ∈ blkL ao30, x ∉ ([g24]) := fun x hx hy => (hk30 x hx).elim (fun h => (fun x hx hy => p_i26_i11 x hy hx) x h hy) (fun h => absurd (hM x (ml hy)) (Nat.not_lt.2 h))
    have p_i30_M : ∀ x ∈ blkL ao30, x ∉ M := fun x hx hy => (hk30 x hx).elim (fun h => p_i11_M x h hy) (fun h => absurd (hM x (mr (mr (hy)))) (Nat.not_lt.2 h))
    have e_i30 : ∀ x ∈ blkL ao30, w.heap.size ≤ x := fun x hx => (hk30 x hx).elim (e_i11 x) (Nat.le_trans hC.size)
    have hM : MS (blkL ao30 ++ ([g24] ++ (M))) w29 := (MS.app hl30 (MS.app (fun x h => hM.chg hc30 x (ml h)) (fun x h => hM.chg hc30 x (mr (mr (h))))))
    have hC := hC.trans hc30 (fun x h => .inr (e_i11 x h))
    have f30 := hO30.chg (M' := blkL ao30 ++ ([g24] ++ (M))) (Chg.refl [] _) (Ok.nil _ _) (Ok.app (fun _ h => .inl (ml h)) (Ok.to (Ok.app (fun _ h => .inl (ml h)) (fun _ h => .inl (mr (mr (h))))) (fun _ h => mr h))) (fun _ _ h => nomatch h) (fun _ h => ml h)
    refine seg ha 1 [(0, .string (bstr a0)), (1, .int .u8 a1), (5, .slice ao30 (x12 ++ ([([] : List UInt8)] : List (List UInt8))).length cap30), (6, .int .i64 x13)] (by kernel_rfl) fun a ha => ?_
    refine hK19 _ _ ?_; try clear hK19 K19
    refine wp_region_lit ?_
    refine seg ha 3 [(0, .string (bstr a0)), (1, .int .u8 a1), (5, .slice ao30 (x12 ++ ([([] : List UInt8)] : List (List UInt8))).length cap30), (6, .int .i64 (IntKind.i64.wrap (x13 + (1 : Int))))] (by kernel_rfl) fun a ha => ?_
    have o1 : Ok [] (blkL ao30 ++ ([g24] ++ (M))) w29.heap.size := Ok.nil _ _
    have o2 : Ok (blkL ao30 ++ (M)) (blkL ao30 ++ ([g24] ++ (M))) w29.heap.size := (Ok.app (fun _ h => .inl (ml h)) (fun _ h => .inl (mr (mr (h)))))
    have f30 := f30.chg (Chg.refl [] _) o1 o2 (fun _ _ h => nomatch h) (fun _ h => ml h)
    have hM : MS (blkL ao30 ++ (M)) w29 := (MS.app (fun x h => hM.chg (Chg.refl [] _) x (ml h)) (fun x h => hM.chg (Chg.refl [] _) x (mr (mr (h)))))
    have hC := hC.trans (Chg.refl [] _) (Ok.nil _ _)
    exact ⟨kk, Nat.lt_succ_self _, ⟨(x12 ++ ([([] : List UInt8)] : List (List UInt8))), IntKind.i64.wrap (x13 + (1 : Int)), ao30, cap30, H, (ha.sel (by kernel_rfl)), f30, e_i30, p_i30_M, hC, hM⟩⟩
   ·have H := ite_f hc22 H
    refine drq 17 (fun w' => Chg [] w10 w') (by kernel_rfl) (by kernel_rfl) (fun _ h => h) ?_
    refine qp 0 (.slice ao11 x12.length cap11) ha rfl rfl rfl (by kernel_rfl) fun a ha => ?_
    refine qp 0 (.slice ao11 x12.length cap11) ha rfl rfl rfl (by kernel_rfl) fun a ha => ?_
    refine qp 0 (.int .i64 (x12.length : Int)) ha rfl rfl rfl (by kernel_rfl) fun a ha => ?_
    refine qp 0 (.int .i64 (IntKind.i64.wrap ((x12.length : Int) - (1 : Int)))) ha rfl rfl rfl (by kernel_rfl) fun a ha => ?_
    refine qp 0 (.slice ao11 x12.length cap11) ha rfl rfl rfl (by kernel_rfl) fun a ha => ?_
    refine qp 0 (.slice ao11 x12.length cap11) ha rfl rfl rfl (by kernel_rfl) fun a ha => ?_
    refine qp 0 (.int .i64 (x12.length : Int)) ha rfl rfl rfl (by kernel_rfl) fun a ha => ?_
    refine qp 0 (.int .i64 (IntKind.i64.wrap ((x12.length : Int) - (1 : Int)))) ha rfl rfl rfl (by kernel_rfl) fun a ha => ?_
    obtain ⟨⟨hx31, hx31'⟩, H⟩ := ite_some H
    obtain ⟨ge32, oe330, cs34, hx31eq, hn37, hR35, hE36⟩ := RSl.elem (Own.toRSl (M' := []) f11 (Ok.nil _ _) (fun _ _ h => nomatch h)) (Int.toNat (IntKind.i64.wrap ((x12.length : Int) - (1 : Int)))) (by omega)
    rw [rd_get] at hR35
    obtain rfl := hR35
    have hE36 : ∀ j v, ([.string (bstr (rd x12 (IntKind.i64.wrap ((x12.length : Int) - (1 : Int)))))] : List Value)[j]? = some v → w10.cell? ⟨ge32, (oe330 + (Int.toNat (IntKind.i64.wrap ((x12.length : Int) - (1 : Int)))) * rStr.sz) + j, none⟩ = some v := hE36
    refine qv (v := .pointer (some ⟨ge32, (oe330 + (Int.toNat (IntKind.i64.wrap ((x12.length : Int) - (1 : Int)))) * rStr.sz), none⟩)) ha rfl rfl rfl (fun w' hs => ix_run (r := rStr) (T := 9) ha (by kernel_rfl) (by kernel_rfl) (by rfl) (by rfl) hx31eq hx31 hx31') fun a ha => ?_
    refine qv (v := .string (bstr (rd x12 (IntKind.i64.wrap ((x12.length : Int) - (1 : Int)))))) ha rfl rfl rfl (fun w' hs => ld_run ha rfl (by kernel_rfl) (hs.keep (hE36 0 (.string (bstr (rd x12 (IntKind.i64.wrap ((x12.length : Int) - (1 : Int)))))) (by kernel_rfl)))) fun a ha => ?_
    refine qp 0 (.string (bstr a0)) ha rfl rfl rfl (by kernel_rfl) fun a ha => ?_
    refine qp 0 (.int .i64 x13) ha rfl rfl rfl (by kernel_rfl) fun a ha => ?_
    refine qp 0 (.int .i64 x13) ha rfl rfl rfl (by kernel_rfl) fun a ha => ?_
    refine qp 0 (.int .i64 (IntKind.i64.wrap (x13 + (1 : Int)))) ha rfl rfl rfl (by kernel_rfl) fun a ha => ?_
    obtain ⟨⟨hx38, hx38', hx38''⟩, H⟩ := ite_some H
    refine qv (v := .string (bstr ((a0.take (Int.toNat (IntKind.i64.wrap (x13 + (1 : Int))))).drop (Int.toNat x13)))) ha rfl rfl rfl (fun w' hs => ssl_run (s := a0) (l := x13) (h := (IntKind.i64.wrap (x13 + (1 : Int)))) ha (by kernel_rfl) (by rfl) (by rfl) (by rfl) hx38 hx38' hx38'' w') fun a ha => ?_
    obtain ⟨hx39, H⟩ := ite_some H
    refine qv (v := .string (bstr ((rd x12 (IntKind.i64.wrap ((x12.length : Int) - (1 : Int)))) ++ ((a0.take (Int.toNat (IntKind.i64.wrap (x13 + (1 : Int))))).drop (Int.toNat x13))))) ha rfl rfl rfl (fun w' hs => sadd_run ha rfl rfl hx39 w') fun a ha => ?_
    obtain ⟨⟨hx40, hx40'⟩, H⟩ := ite_some H
    have hi40 : (Int.toNat (IntKind.i64.wrap ((x12.length : Int) - (1 : Int)))) < x12.length := by omega
    obtain ⟨ge40, ee40⟩ := Own.addr f11 hi40
    refine qv (v := .pointer (some ⟨ge40, (Int.toNat (IntKind.i64.wrap ((x12.length : Int) - (1 : Int)))), none⟩)) ha rfl rfl rfl (fun w' hs => ixO_run (r := rStr) (T := 9) (k := .i64) (i := IntKind.i64.wrap ((x12.length : Int) - (1 : Int))) rfl ha (by kernel_rfl) (by kernel_rfl) (by rfl) (by rfl) ee40 hx40 hx40' w') fun a ha => ?_
    refine wpQuiet_nil ?_
    intro w41 hc42
    have o1 : Ok [] (blkL ao11 ++ (M)) w10.heap.size := Ok.nil _ _
    have o2 : Ok (blkL ao11 ++ (M)) (blkL ao11 ++ (M)) w10.heap.size := (Ok.refl _ _)
    have f11 := f11.chg hc42 o1 o2 (fun _ _ h => nomatch h) (fun _ h => ml h)
    have hM : MS (blkL ao11 ++ (M)) w41 := (hM.chg hc42)
    have hC := hC.trans hc42 (Ok.nil _ _)
    refine stO (r := rStr) (z := (rd x12 (IntKind.i64.wrap ((x12.length : Int) - (1 : Int)))) ++ ((a0.take (Int.toNat (IntKind.i64.wrap (x13 + (1 : Int))))).drop (Int.toNat x13))) ha rfl rfl (by kernel_rfl) rfl rfl f11 rfl ee40 hi40 (fun _ _ => rfl) fun a w43 ha hO45 hc44 => ?_
    have hM : MS (blkL ao11 ++ (M)) w43 := (hM.chg hc44)
    have hC := hC.trans hc44 (fun x h => .inr (e_i11 x h))
    have f45 := hO45
    have hl45 : (x12.set (Int.toNat (IntKind.i64.wrap ((x12.length : Int) - (1 : Int)))) ((rd x12 (IntKind.i64.wrap ((x12.length : Int) - (1 : Int)))) ++ ((a0.take (Int.toNat (IntKind.i64.wrap (x13 + (1 : Int))))).drop (Int.toNat x13)))).length = x12.length := List.length_set
    have ha : Has a Tryd.f50.ntmps [(0, .string (bstr a0)), (1, .int .u8 a1), (5, .slice ao11 (x12.set (Int.toNat (IntKind.i64.wrap ((x12.length : Int) - (1 : Int)))) ((rd x12 (IntKind.i64.wrap ((x12.length : Int) - (1 : Int)))) ++ ((a0.take (Int.toNat (IntKind.i64.wrap (x13 + (1 : Int))))).drop (Int.toNat x13)))).length cap11), (6, .int .i64 x13), (37, .string (bstr ((rd x12 (IntKind.i64.wrap ((x12.length : Int) - (1 : Int)))) ++ ((a0.take (Int.toNat (IntKind.i64.wrap (x13 + (1 : Int))))).drop (Int.toNat x13)))))] := by rw [hl45]; exact ha.sel (by kernel_rfl)
    refine hK19 _ _ ?_; try clear hK19 K19
    refine wp_region_lit ?_
    refine seg ha 3 [(0, .string (bstr a0)), (1, .int .u8 a1), (5, .slice ao11 (x12.set (Int.toNat (IntKind.i64.wrap ((x12.length : Int) - (1 : Int)))) ((rd x12 (IntKind.i64.wrap ((x12.length : Int) - (1 : Int)))) ++ ((a0.take (Int.toNat (IntKind.i64.wrap (x13 + (1 : Int))))).drop (Int.toNat x13)))).length cap11), (6, .int .i64 (IntKind.i64.wrap (x13 + (1 : Int))))] (by kernel_rfl) fun a ha => ?_
    exact ⟨kk, Nat.lt_succ_self _, ⟨(x12.set (Int.toNat (IntKind.i64.wrap ((x12.length : Int) - (1 : Int)))) ((rd x12 (IntKind.i64.wrap ((x12.length : Int) - (1 : Int)))) ++ ((a0.take (Int.toNat (IntKind.i64.wrap (x13 + (1 : Int))))).drop (Int.toNat x13)))), IntKind.i64.wrap (x13 + (1 : Int)), ao11, cap11, H, (ha.sel (by kernel_rfl)), f45, e_i11, p_i11_M, hC, hM⟩⟩
  ·have H := ite_f hc18 H
   refine wp_exit ?_
   simp only [Exit.then, Exit.inBlock, ↓reduceIte, Nat.reduceEqDiff]
   obtain rfl := Option.some.inj H
   exact J10 _ _ ao11 cap11 (ha.sel (by kernel_rfl)) f11 e_i11 p_i11_M hC hM
def vineryref02_Digits.l0 (a0 : List UInt8) (a1 : Int) : Nat → Int → Int → Option ((Int) ⊕ (Int))
  | 0, _, _ => none
  | kk + 1, x10, x11 => (if (decide (x11 < ((bstr a0).size : Int))) = true then (((if 0 ≤ x11 ∧ x11 < (a0.length : Int) then (if (decide (((a0.getD (Int.toNat x11) 0).toNat : Int) ≥ (48 : Int))) = true then (if 0 ≤ x11 ∧ x11 < (a0.length : Int) then some (decide (((a0.getD (Int.toNat x11) 0).toNat : Int) ≤ (57 : Int)) : Bool) else none) else some (false : Bool)) else none)).bind fun s34 => (if s34 = true then (if 0 ≤ x11 ∧ x11 < (a0.length : Int) then some (IntKind.i64.wrap (IntKind.u8.wrap (((a0.getD (Int.toNat x11) 0).toNat : Int) - (48 : Int))) : Int) else none) else some ((-1 : Int) : Int))).bind fun s19 => (((if 0 ≤ x11 ∧ x11 < (a0.length : Int) then (if (decide (((a0.getD (Int.toNat x11) 0).toNat : Int) ≥ (97 : Int))) = true then (if 0 ≤ x11 ∧ x11 < (a0.length : Int) then some (decide (((a0.getD (Int.toNat x11) 0).toNat : Int) ≤ (102 : Int)) : Bool) else none) else some (false : Bool)) else none)).bind fun s27 => (if s27 = true then (if 0 ≤ x11 ∧ x11 < (a0.length : Int) then some (IntKind.i64.wrap ((IntKind.i64.wrap (IntKind.u8.wrap (((a0.getD (Int.toNat x11) 0).toNat : Int) - (97 : Int)))) + (10 : Int)) : Int) else none) else some (s19 : Int))).bind fun s21 => (if (if (decide (s21 < (0 : Int))) = true then true else (decide (s21 ≥ a1))) = true then some (.inl (((-1 : Int) : Int))) else vineryref02_Digits.l0 a0 a1 kk (IntKind.i64.wrap ((IntKind.i64.wrap (x10 * a1)) + s21)) (IntKind.i64.wrap (x11 + (1 : Int)))) else some (.inr (x10 : Int)))
def vineryref02_Digits.f (k : Nat) (a0 : List UInt8) (a1 : Int) (a2 : Int) : Option (Int) := (if (if (((bstr a0).size : Int) == (0 : Int)) = true then true else (decide (((bstr a0).size : Int) > a2))) = true then some (((-1 : Int) : Int)) else (vineryref02_Digits.l0 a0 a1 k (0 : Int) (0 : Int)).bind fun s9 => match s9 with | .inl r => some r | .inr s9' => some ((s9' : Int)))
set_option maxRecDepth 100000 in
theorem vineryref02_Digits.walk (w : World) (M : List Nat) (hM : MS M w) (a0 : List UInt8) (a1 : Int) (a2 : Int) (k : Nat) (r : Int) (H : vineryref02_Digits.f k a0 a1 a2 = some r) :
    To Tryd.prog 51 [.string (bstr a0), .int .i64 a1, .int .i64 a2] w fun v w' => v = .int .i64 r ∧ Chg [] w w' ∧ MS (M) w' := by
 unfold vineryref02_Digits.f at H
 refine ent Tryd.func51 rfl [(0, .string (bstr a0)), (1, .int .i64 a1), (2, .int .i64 a2)] rfl (by rfl) fun a ha => ?_
 have hC : Chg [] w w := Chg.refl _ _
 refine wp_seq_k fun K1 hK1 => ?_
 refine wp_region_lit ?_
 refine seg ha 1 [(0, .string (bstr a0)), (1, .int .i64 a1), (2, .int .i64 a2)] (by kernel_rfl) fun a ha => ?_
 refine hK1 _ _ ?_; try clear hK1 K1
 refine wp_seq_k fun K2 hK2 => ?_
 refine wp_seq_k fun K3 hK3 => ?_
 refine wp_region_lit ?_
 refine seg ha 9 [(0, .string (bstr a0)), (1, .int .i64 a1), (18, .bool (if (((bstr a0).size : Int) == (0 : Int)) = true then true else (decide (((bstr a0).size : Int) > a2))))] (by kernel_rfl) fun a ha => ?_
 refine hK3 _ _ ?_; try clear hK3 K3
 refine cnd ha rfl (fun hc4 => ?_) (fun hc4 => ?_)
 ·have H := ite_t hc4 H
  refine wp_seq_k fun K5 hK5 => ?_
  refine wp_region_lit ?_
  refine seg ha 1 [(6, .int .i64 (-1 : Int))] (by kernel_rfl) fun a ha => ?_
  refine hK5 _ _ ?_; try clear hK5 K5
  refine wp_ret ?_
  try simp only [Exit.then, Exit.inBlock]
  obtain rfl := Option.some.inj H
  refine rt1 ha rfl rfl ?_
  exact ⟨rfl, hC, hM⟩
 ·have H := ite_f hc4 H
  refine wp_skip ?_
  refine hK2 _ _ ?_; try clear hK2 K2
  refine wp_seq_k fun K6 hK6 => ?_
  refine wp_region_lit ?_
  refine seg ha 1 [(0, .string (bstr a0)), (1, .int .i64 a1), (7, .int .i64 (0 : Int))] (by kernel_rfl) fun a ha => ?_
  refine hK6 _ _ ?_; try clear hK6 K6
  refine wp_seq_k fun K7 hK7 => ?_
  refine wp_seq_k fun K8 hK8 => ?_
  refine wp_region_lit ?_
  refine seg ha 1 [(0, .string (bstr a0)), (1, .int .i64 a1), (7, .int .i64 (0 : Int)), (8, .int .i64 (0 : Int))] (by kernel_rfl) fun a ha => ?_
  refine hK8 _ _ ?_; try clear hK8 K8
  refine wp_block ?_
  obtain ⟨s9, H9, H⟩ := bind_some H
  have J9 : ∀ s9' (a : Act) (wx9 : World), s9 = .inr s9' → Has a Tryd.f51.ntmps [(7, .int .i64 s9')] → (Chg [] w wx9) → (MS (M) wx9) → K7 a wx9 := by
   intro s9' a wx9 hs ha hC hM
   subst hs
   refine hK7 _ _ ?_; try clear hK7 K7
   refine wp_seq_k fun K12 hK12 => ?_
   refine wp_region_lit ?_
   refine seg ha 2 [(6, .int .i64 s9')] (by kernel_rfl) fun a ha => ?_
   refine hK12 _ _ ?_; try clear hK12 K12
   refine wp_ret ?_
   try simp only [Exit.then, Exit.inBlock]
   obtain rfl := Option.some.inj H
   refine rt1 ha rfl rfl ?_
   exact ⟨rfl, hC, hM⟩
  have Hc9 := H
  have H := H9
  refine wp_loop_ghost (fun kk a w9 => ∃ (x10 : Int) (x11 : Int), vineryref02_Digits.l0 a0 a1 kk x10 x11 = some s9 ∧ Has a Tryd.f51.ntmps [(0, .string (bstr a0)), (1, .int .i64 a1), (7, .int .i64 x10), (8, .int .i64 x11)] ∧ (Chg [] w w9) ∧ (MS (M) w9)) k ?_ ?_
  ·skip
   exact ⟨(0 : Int), (0 : Int), H, (ha.sel (by kernel_rfl)), hC, hM⟩
  ·rintro kk a w9 ⟨x10, x11, H, ha, hC, hM⟩
   obtain _ | kk := kk
   ·exact nomatch (show none = some _ from H)
   rw [vineryref02_Digits.l0] at H
   refine wp_seq_k fun K13 hK13 => ?_
   refine wp_seq_k fun K14 hK14 => ?_
   refine wp_region_lit ?_
   refine seg ha 4 [(0, .string (bstr a0)), (1, .int .i64 a1), (7, .int .i64 x10), (8, .int .i64 x11), (22, .bool (decide (x11 < ((bstr a0).size : Int))))] (by kernel_rfl) fun a ha => ?_
   refine hK14 _ _ ?_; try clear hK14 K14
   refine cnd ha rfl (fun hc15 => ?_) (fun hc15 => ?_)
   ·have H := ite_t hc15 H
    refine wp_skip ?_
    refine hK13 _ _ ?_; try clear hK13 K13
    refine wp_seq_k fun K16 hK16 => ?_
    refine wp_block ?_
    refine wp_seq_k fun K17 hK17 => ?_
    refine wp_region_lit ?_
    refine seg ha 1 [(0, .string (bstr a0)), (1, .int .i64 a1), (7, .int .i64 x10), (8, .int .i64 x11), (9, .int .i64 (-1 : Int))] (by kernel_rfl) fun a ha => ?_
    refine hK17 _ _ ?_; try clear hK17 K17
    refine wp_seq_k fun K18 hK18 => ?_
    obtain ⟨s19, H19, H⟩ := bind_some H
    have J19 : ∀ (a : Act) (w19 : World), Has a Tryd.f51.ntmps [(0, .string (bstr a0)), (1, .int .i64 a1), (7, .int .i64 x10), (8, .int .i64 x11), (9, .int .i64 s19)] → (Chg [] w w19) → (MS (M) w19) → K18 a w19 := by
     intro a w19 ha hC hM
     refine hK18 _ _ ?_; try clear hK18 K18
     refine wp_seq_k fun K20 hK20 => ?_
     obtain ⟨s21, H21, H⟩ := bind_some H
     have J21 : ∀ (a : Act) (w21 : World), Has a Tryd.f51.ntmps [(0, .string (bstr a0)), (1, .int .i64 a1), (7, .int .i64 x10), (8, .int .i64 x11), (9, .int .i64 s21)] → (Chg [] w w21) → (MS (M) w21) → K20 a w21 := by
      intro a w21 ha hC hM
      refine hK20 _ _ ?_; try clear hK20 K20
      refine wp_seq_k fun K22 hK22 => ?_
      refine wp_seq_k fun K23 hK23 => ?_
      refine wp_region_lit ?_
      refine seg ha 7 [(0, .string (bstr a0)), (1, .int .i64 a1), (7, .int .i64 x10), (8, .int .i64 x11), (9, .int .i64 s21), (62, .bool (if (decide (s21 < (0 : Int))) = true then true else (decide (s21 ≥ a1))))] (by kernel_rfl) fun a ha => ?_
      refine hK23 _ _ ?_; try clear hK23 K23
      refine cnd ha rfl (fun hc24 => ?_) (fun hc24 => ?_)
      ·have H := ite_t hc24 H
       refine wp_seq_k fun K25 hK25 => ?_
       refine wp_region_lit ?_
       refine seg ha 1 [(6, .int .i64 (-1 : Int))] (by kernel_rfl) fun a ha => ?_
       refine hK25 _ _ ?_; try clear hK25 K25
       refine wp_ret ?_
       try simp only [Exit.then, Exit.inBlock]
       obtain rfl := Option.some.inj H
       have H := (show some _ = some _ from Hc9)
       obtain rfl := Option.some.inj H
       refine rt1 ha rfl rfl ?_
       exact ⟨rfl, hC, hM⟩
      ·have H := ite_f hc24 H
       refine wp_skip ?_
       refine hK22 _ _ ?_; try clear hK22 K22
       refine wp_region_lit ?_
       refine seg ha 6 [(0, .string (bstr a0)), (1, .int .i64 a1), (7, .int .i64 (IntKind.i64.wrap ((IntKind.i64.wrap (x10 * a1)) + s21))), (8, .int .i64 x11)] (by kernel_rfl) fun a ha => ?_
       refine hK16 _ _ ?_; try clear hK16 K16
       refine wp_region_lit ?_
       refine seg ha 3 [(0, .string (bstr a0)), (1, .int .i64 a1), (7, .int .i64 (IntKind.i64.wrap ((IntKind.i64.wrap (x10 * a1)) + s21))), (8, .int .i64 (IntKind.i64.wrap (x11 + (1 : Int))))] (by kernel_rfl) fun a ha => ?_
       exact ⟨kk, Nat.lt_succ_self _, ⟨IntKind.i64.wrap ((IntKind.i64.wrap (x10 * a1)) + s21), IntKind.i64.wrap (x11 + (1 : Int)), H, (ha.sel (by kernel_rfl)), hC, hM⟩⟩
     have H := H21
     refine wp_seq_k fun K26 hK26 => ?_
     refine wp_region_lit ?_
     obtain ⟨s27, H27, H⟩ := bind_some H
     have J27 : ∀ (a : Act) (w27 : World), Has a Tryd.f51.ntmps [(0, .string (bstr a0)), (1, .int .i64 a1), (7, .int .i64 x10), (8, .int .i64 x11), (9, .int .i64 s19), (49, .bool s27)] → (Chg [] w w27) → (MS (M) w27) → K26 a w27 := by
      intro a w27 ha hC hM
      refine hK26 _ _ ?_; try clear hK26 K26
      refine cnd ha rfl (fun hc28 => ?_) (fun hc28 => ?_)
      ·have H := ite_t hc28 H
       refine wp_region_lit ?_
       refine seg ha 2 [(0, .string (bstr a0)), (1, .int .i64 a1), (7, .int .i64 x10), (8, .int .i64 x11), (50, .string (bstr a0)), (51, .int .i64 x11)] (by kernel_rfl) fun a ha => ?_
       obtain ⟨⟨hx29, hx29'⟩, H⟩ := ite_some H
       refine hop (v := .int .u8 ((a0.getD (Int.toNat x11) 0).toNat : Int)) (w' := w27) ha rfl rfl rfl (sidx_run (l := a0) (k := .i64) (i := x11) ha (by kernel_rfl) (by rfl) (by rfl) hx29 hx29' _) fun a ha => ?_
       refine seg ha 4 [(0, .string (bstr a0)), (1, .int .i64 a1), (7, .int .i64 x10), (8, .int .i64 x11), (9, .int .i64 (IntKind.i64.wrap ((IntKind.i64.wrap (IntKind.u8.wrap (((a0.getD (Int.toNat x11) 0).toNat : Int) - (97 : Int)))) + (10 : Int))))] (by kernel_rfl) fun a ha => ?_
       obtain rfl := Option.some.inj H
       exact J21 _ _ (ha.sel (by kernel_rfl)) hC hM
      ·have H := ite_f hc28 H
       refine wp_skip ?_
       obtain rfl := Option.some.inj H
       exact J21 _ _ (ha.sel (by kernel_rfl)) hC hM
     have H := H27
     refine seg ha 2 [(0, .string (bstr a0)), (1, .int .i64 a1), (7, .int .i64 x10), (8, .int .i64 x11), (9, .int .i64 s19), (40, .string (bstr a0)), (41, .int .i64 x11)] (by kernel_rfl) fun a ha => ?_
     obtain ⟨⟨hx30, hx30'⟩, H⟩ := ite_some H
     refine hop (v := .int .u8 ((a0.getD (Int.toNat x11) 0).toNat : Int)) (w' := w19) ha rfl rfl rfl (sidx_run (l := a0) (k := .i64) (i := x11) ha (by kernel_rfl) (by rfl) (by rfl) hx30 hx30' _) fun a ha => ?_
     refine seg ha 2 [(44, .bool (decide (((a0.getD (Int.toNat x11) 0).toNat : Int) ≥ (97 : Int)))), (0, .string (bstr a0)), (1, .int .i64 a1), (7, .int .i64 x10), (8, .int .i64 x11), (9, .int .i64 s19)] (by kernel_rfl) fun a ha => ?_
     rcases Bool.eq_false_or_eq_true (decide (((a0.getD (Int.toNat x11) 0).toNat : Int) ≥ (97 : Int))) with hb31 | hb31
     ·have ha := ha.lit hb31
      have H := ite_t hb31 H
      refine sgh ha 2 [2, 2] [(0, .string (bstr a0)), (1, .int .i64 a1), (7, .int .i64 x10), (8, .int .i64 x11), (9, .int .i64 s19), (44, .bool true), (45, .string (bstr a0)), (46, .int .i64 x11)] (by kernel_rfl) fun a ha => ?_
      obtain ⟨⟨hx32, hx32'⟩, H⟩ := ite_some H
      refine hop (v := .int .u8 ((a0.getD (Int.toNat x11) 0).toNat : Int)) (w' := w19) ha rfl rfl rfl (sidx_run (l := a0) (k := .i64) (i := x11) ha (by kernel_rfl) (by rfl) (by rfl) hx32 hx32' _) fun a ha => ?_
      refine sgh ha 2 [2, 3] [(0, .string (bstr a0)), (1, .int .i64 a1), (7, .int .i64 x10), (8, .int .i64 x11), (9, .int .i64 s19), (49, .bool (decide (((a0.getD (Int.toNat x11) 0).toNat : Int) ≤ (102 : Int))))] (by kernel_rfl) fun a ha => ?_
      obtain rfl := Option.some.inj H
      exact J27 _ _ (ha.sel (by kernel_rfl)) hC hM
     ·have ha := ha.lit hb31
      have H := ite_f hb31 H
      refine sgh ha 5 [1, 1, 1, 1, 4] [(0, .string (bstr a0)), (1, .int .i64 a1), (7, .int .i64 x10), (8, .int .i64 x11), (9, .int .i64 s19), (49, .bool false)] (by kernel_rfl) fun a ha => ?_
      obtain rfl := Option.some.inj H
      exact J27 _ _ (ha.sel (by kernel_rfl)) hC hM
    have H := H19
    refine wp_seq_k fun K33 hK33 => ?_
    refine wp_region_lit ?_
    obtain ⟨s34, H34, H⟩ := bind_some H
    have J34 : ∀ (a : Act) (w34 : World), Has a Tryd.f51.ntmps [(0, .string (bstr a0)), (1, .int .i64 a1), (7, .int .i64 x10), (8, .int .i64 x11), (9, .int .i64 (-1 : Int)), (34, .bool s34)] → (Chg [] w w34) → (MS (M) w34) → K33 a w34 := by
     intro a w34 ha hC hM
     refine hK33 _ _ ?_; try clear hK33 K33
     refine cnd ha rfl (fun hc35 => ?_) (fun hc35 => ?_)
     ·have H := ite_t hc35 H
      refine wp_region_lit ?_
      refine seg ha 2 [(0, .string (bstr a0)), (1, .int .i64 a1), (7, .int .i64 x10), (8, .int .i64 x11), (35, .string (bstr a0)), (36, .int .i64 x11)] (by kernel_rfl) fun a ha => ?_
      obtain ⟨⟨hx36, hx36'⟩, H⟩ := ite_some H
      refine hop (v := .int .u8 ((a0.getD (Int.toNat x11) 0).toNat : Int)) (w' := w34) ha rfl rfl rfl (sidx_run (l := a0) (k := .i64) (i := x11) ha (by kernel_rfl) (by rfl) (by rfl) hx36 hx36' _) fun a ha => ?_
      refine seg ha 3 [(0, .string (bstr a0)), (1, .int .i64 a1), (7, .int .i64 x10), (8, .int .i64 x11), (9, .int .i64 (IntKind.i64.wrap (IntKind.u8.wrap (((a0.getD (Int.toNat x11) 0).toNat : Int) - (48 : Int)))))] (by kernel_rfl) fun a ha => ?_
      obtain rfl := Option.some.inj H
      exact J19 _ _ (ha.sel (by kernel_rfl)) hC hM
     ·have H := ite_f hc35 H
      refine wp_skip ?_
      obtain rfl := Option.some.inj H
      exact J19 _ _ (ha.sel (by kernel_rfl)) hC hM
    have H := H34
    refine seg ha 2 [(0, .string (bstr a0)), (1, .int .i64 a1), (7, .int .i64 x10), (8, .int .i64 x11), (9, .int .i64 (-1 : Int)), (25, .string (bstr a0)), (26, .int .i64 x11)] (by kernel_rfl) fun a ha => ?_
    obtain ⟨⟨hx37, hx37'⟩, H⟩ := ite_some H
    refine hop (v := .int .u8 ((a0.getD (Int.toNat x11) 0).toNat : Int)) (w' := w9) ha rfl rfl rfl (sidx_run (l := a0) (k := .i64) (i := x11) ha (by kernel_rfl) (by rfl) (by rfl) hx37 hx37' _) fun a ha => ?_
    refine seg ha 2 [(29, .bool (decide (((a0.getD (Int.toNat x11) 0).toNat : Int) ≥ (48 : Int)))), (0, .string (bstr a0)), (1, .int .i64 a1), (7, .int .i64 x10), (8, .int .i64 x11), (9, .int .i64 (-1 : Int))] (by kernel_rfl) fun a ha => ?_
    rcases Bool.eq_false_or_eq_true (decide (((a0.getD (Int.toNat x11) 0).toNat : Int) ≥ (48 : Int))) with hb38 | hb38
    ·have ha := ha.lit hb38
     have H := ite_t hb38 H
     refine sgh ha 2 [2, 2] [(0, .string (bstr a0)), (1, .int .i64 a1), (7, .int .i64 x10), (8, .int .i64 x11), (9, .int .i64 (-1 : Int)), (29, .bool true), (30, .string (bstr a0)), (31, .int .i64 x11)] (by kernel_rfl) fun a ha => ?_
     obtain ⟨⟨hx39, hx39'⟩, H⟩ := ite_some H
     refine hop (v := .int .u8 ((a0.getD (Int.toNat x11) 0).toNat : Int)) (w' := w9) ha rfl rfl rfl (sidx_run (l := a0) (k := .i64) (i := x11) ha (by kernel_rfl) (by rfl) (by rfl) hx39 hx39' _) fun a ha => ?_
     refine sgh ha 2 [2, 3] [(0, .string (bstr a0)), (1, .int .i64 a1), (7, .int .i64 x10), (8, .int .i64 x11), (9, .int .i64 (-1 : Int)), (34, .bool (decide (((a0.getD (Int.toNat x11) 0).toNat : Int) ≤ (57 : Int))))] (by kernel_rfl) fun a ha => ?_
     obtain rfl := Option.some.inj H
     exact J34 _ _ (ha.sel (by kernel_rfl)) hC hM
    ·have ha := ha.lit hb38
     have H := ite_f hb38 H
     refine sgh ha 5 [1, 1, 1, 1, 4] [(0, .string (bstr a0)), (1, .int .i64 a1), (7, .int .i64 x10), (8, .int .i64 x11), (9, .int .i64 (-1 : Int)), (34, .bool false)] (by kernel_rfl) fun a ha => ?_
     obtain rfl := Option.some.inj H
     exact J34 _ _ (ha.sel (by kernel_rfl)) hC hM
   ·have H := ite_f hc15 H
    refine wp_exit ?_
    simp only [Exit.then, Exit.inBlock, ↓reduceIte, Nat.reduceEqDiff]
    obtain rfl := Option.some.inj H
    exact J9 _ _ _ rfl (ha.sel (by kernel_rfl)) hC hM
def vineryref02_rough.l0 (k : Nat) (t12 : List (List UInt8)) : Nat → Int → (List Int) → Option (List Int)
  | 0, _, _ => none
  | kk + 1, x23, x24 => (if (decide (x23 < (4 : Int))) = true then (if 0 ≤ x23 ∧ x23 < (t12.length : Int) then (vineryref02_Digits.f k (rd t12 x23) (10 : Int) (3 : Int)).bind fun t39 => (if 0 ≤ x23 ∧ x23 < (16 : Int) then vineryref02_rough.l0 k t12 kk (IntKind.i64.wrap (x23 + (1 : Int))) ((arL 16 x24).set (Int.toNat x23) (IntKind.u8.wrap (if t39 > (0 : Int) then t39 else (0 : Int)))) else none) else none) else some (x24 : List Int))
def vineryref02_rough.l2 (k : Nat) (t44 : List (List UInt8)) (s52 : Int) : Nat → Int → (List Int) → Option (List Int)
  | 0, _, _ => none
  | kk + 1, x58, x59 => (if (decide (x58 < (8 : Int))) = true then ((if (if (decide (s52 < (0 : Int))) = true then true else (decide (x58 < s52))) = true then (if (decide (x58 < (t44.length : Int))) = true then (if 0 ≤ x58 ∧ x58 < (t44.length : Int) then (vineryref02_Digits.f k (rd t44 x58) (16 : Int) (4 : Int)).bind fun t88 => some (if t88 > (0 : Int) then t88 else (0 : Int) : Int) else none) else some ((0 : Int) : Int)) else (if (if (decide ((IntKind.i64.wrap ((IntKind.i64.wrap ((t44.length : Int) - (8 : Int))) + x58)) > s52)) = true then (decide ((IntKind.i64.wrap ((IntKind.i64.wrap ((t44.length : Int) - (8 : Int))) + x58)) < (t44.length : Int))) else false) = true then (if 0 ≤ (IntKind.i64.wrap ((IntKind.i64.wrap ((t44.length : Int) - (8 : Int))) + x58)) ∧ (IntKind.i64.wrap ((IntKind.i64.wrap ((t44.length : Int) - (8 : Int))) + x58)) < (t44.length : Int) then (vineryref02_Digits.f k (rd t44 (IntKind.i64.wrap ((IntKind.i64.wrap ((t44.length : Int) - (8 : Int))) + x58))) (16 : Int) (4 : Int)).bind fun t99 => some (if t99 > (0 : Int) then t99 else (0 : Int) : Int) else none) else some ((0 : Int) : Int)))).bind fun s69 => (if 0 ≤ (IntKind.i64.wrap ((2 : Int) * x58)) ∧ (IntKind.i64.wrap ((2 : Int) * x58)) < (16 : Int) then (if 0 ≤ (IntKind.i64.wrap ((IntKind.i64.wrap ((2 : Int) * x58)) + (1 : Int))) ∧ (IntKind.i64.wrap ((IntKind.i64.wrap ((2 : Int) * x58)) + (1 : Int))) < (16 : Int) then vineryref02_rough.l2 k t44 s52 kk (IntKind.i64.wrap (x58 + (1 : Int))) ((arL 16 ((arL 16 x59).set (Int.toNat (IntKind.i64.wrap ((2 : Int) * x58))) (IntKind.u8.wrap (IntKind.i64.wrap (Int.tdiv s69 (256 : Int)))))).set (Int.toNat (IntKind.i64.wrap ((IntKind.i64.wrap ((2 : Int) * x58)) + (1 : Int)))) (IntKind.u8.wrap s69)) else none) else none) else some (x59 : List Int))
def vineryref02_rough.l1 (t44 : List (List UInt8)) : Nat → Int → Int → Option (Int)
  | 0, _, _ => none
  | kk + 1, x53, x54 => (if (if (decide (x54 < (IntKind.i64.wrap ((t44.length : Int) - (1 : Int))))) = true then (decide (x53 < (0 : Int))) else false) = true then (if 0 ≤ x54 ∧ x54 < (t44.length : Int) then (if ((bstr (rd t44 x54)).toList == (bstr ([] : List UInt8)).toList) = true then vineryref02_rough.l1 t44 kk x54 (IntKind.i64.wrap (x54 + (1 : Int))) else vineryref02_rough.l1 t44 kk x53 (IntKind.i64.wrap (x54 + (1 : Int)))) else none) else some (x53 : Int))
def vineryref02_rough.f (k : Nat) (a0 : List UInt8) : Option (S_api_Addr) := (vineryref02_split.f k a0 (46 : Int)).bind fun t12 => (if ((t12.length : Int) == (4 : Int)) = true then (vineryref02_rough.l0 k t12 k (0 : Int) (List.replicate 16 (0 : Int))).bind fun s22 => some (((⟨(4 : Int), s22⟩ : S_api_Addr) : S_api_Addr)) else (vineryref02_split.f k a0 (58 : Int)).bind fun t44 => (vineryref02_rough.l1 t44 k (-1 : Int) (1 : Int)).bind fun s52 => (vineryref02_rough.l2 k t44 s52 k (0 : Int) (List.replicate 16 (0 : Int))).bind fun s57 => some (((⟨(16 : Int), s57⟩ : S_api_Addr) : S_api_Addr)))
set_option maxRecDepth 100000 in
theorem vineryref02_rough.walk (w : World) (M : List Nat) (hM : MS M w) (a0 : List UInt8) (k : Nat) (r : S_api_Addr) (H : vineryref02_rough.f k a0 = some r) :
    To Tryd.prog 39 [.string (bstr a0)] w fun v w' => v = .agg (cS_api_Addr r).toArray ∧ Chg [] w w' ∧ MS (M) w' := by
 unfold vineryref02_rough.f at H
 refine ent Tryd.func39 rfl [(0, .string (bstr a0))] rfl (by rfl) fun a ha => ?_
 have hC : Chg [] w w := Chg.refl _ _
 refine wp_seq_k fun K1 hK1 => ?_
 refine wp_region_lit ?_
 refine al (cs := (cS_api_Addr (⟨(0 : Int), (List.replicate 16 (0 : Int))⟩ : S_api_Addr))) (z := .agg (cS_api_Addr (⟨(0 : Int), (List.replicate 16 (0 : Int))⟩ : S_api_Addr)).toArray) ha (fun w => by kernel_rfl) rfl rfl rfl rfl fun a w2 g3 hN4 ha => ?_
 have p_i5_M : ∀ x ∈ [g3], x ∉ M := fun x hx hy => absurd (hM x (hy)) (Nat.not_lt.2 ((hN4.ge1) x hx))
 have e_i5 : ∀ x ∈ [g3], w.heap.size ≤ x := fun x hx => Nat.le_trans hC.size ((hN4.ge1) x hx)
 have hM : MS ([g3] ++ (M)) w2 := (MS.app hN4.ms (hM.chg hN4.chg))
 have hC := hC.trans hN4.chg (Ok.nil _ _)
 have hBg3 : Box w2 g3 (cS_api_Addr (⟨(0 : Int), (List.replicate 16 (0 : Int))⟩ : S_api_Addr)) := hN4.box
 refine hK1 _ _ ?_; try clear hK1 K1
 refine wp_seq_k fun K6 hK6 => ?_
 refine wp_region_lit ?_
 refine al (cs := (cS_api_Addr (⟨(0 : Int), (List.replicate 16 (0 : Int))⟩ : S_api_Addr))) (z := .agg (cS_api_Addr (⟨(0 : Int), (List.replicate 16 (0 : Int))⟩ : S_api_Addr)).toArray) ha (fun w => by kernel_rfl) rfl rfl rfl rfl fun a w7 g8 hN9 ha => ?_
 have hBg3 := hBg3.chg hN9.chg (fun h => nomatch h)
 have p_i10_i5 : ∀ x ∈ [g8], x ∉ ([g3]) := fun x hx hy => absurd (hM x (ml hy)) (Nat.not_lt.2 ((hN9.ge1) x hx))
 have p_i10_M : ∀ x ∈ [g8], x ∉ M := fun x hx hy => absurd (hM x (mr (hy))) (Nat.not_lt.2 ((hN9.ge1) x hx))
 have e_i10 : ∀ x ∈ [g8], w.heap.size ≤ x := fun x hx => Nat.le_trans hC.size ((hN9.ge1) x hx)
 have hM : MS ([g8] ++ ([g3] ++ (M))) w7 := (MS.app hN9.ms (hM.chg hN9.chg))
 have hC := hC.trans hN9.chg (Ok.nil _ _)
 have hBg8 : Box w7 g8 (cS_api_Addr (⟨(0 : Int), (List.replicate 16 (0 : Int))⟩ : S_api_Addr)) := hN9.box
 refine hK6 _ _ ?_; try clear hK6 K6
 refine wp_seq_k fun K11 hK11 => ?_
 refine wp_region_lit ?_
 refine seg ha 1 [(0, .string (bstr a0)), (2, .pointer (some ⟨g3, 0, none⟩)), (3, .pointer (some ⟨g8, 0, none⟩)), (11, .string (bstr a0))] (by kernel_rfl) fun a ha => ?_
 obtain ⟨t12, H12, H⟩ := bind_some H
 refine cl ha (by rfl) (by kernel_rfl) (by rfl) (by rfl) (by rfl) (vineryref02_split.walk w7 _ hM a0 (46 : Int) k _ H12) ?_
 rintro _ w12 ⟨ao13, cap13, rfl, f13, ne_i13, hc12, hMn⟩ a ha
 have hBg3 := hBg3.chg hc12 (fun h => nomatch h)
 have hBg8 := hBg8.chg hc12 (fun h => nomatch h)
 have p_i13_i10 : ∀ x ∈ blkL ao13, x ∉ ([g8]) := fun x hx hy => absurd (hM x (ml hy)) (Nat.not_lt.2 (ne_i13 x hx))
 have p_i13_i5 : ∀ x ∈ blkL ao13, x ∉ ([g3]) := fun x hx hy => absurd (hM x (mr (ml hy))) (Nat.not_lt.2 (ne_i13 x hx))
 have p_i13_M : ∀ x ∈ blkL ao13, x ∉ M := fun x hx hy => absurd (hM x (mr (mr (hy)))) (Nat.not_lt.2 (ne_i13 x hx))
 have e_i13 : ∀ x ∈ blkL ao13, w.heap.size ≤ x := fun x hx => Nat.le_trans hC.size (ne_i13 x hx)
 have hM : MS (blkL ao13 ++ ([g8] ++ ([g3] ++ (M)))) w12 := (MS.app (fun x h => hMn x (ml h)) (hM.chg hc12))
 have hC := hC.trans hc12 (Ok.nil _ _)
 refine seg ha 1 [(0, .string (bstr a0)), (2, .pointer (some ⟨g3, 0, none⟩)), (3, .pointer (some ⟨g8, 0, none⟩)), (4, .slice ao13 t12.length cap13)] (by kernel_rfl) fun a ha => ?_
 refine hK11 _ _ ?_; try clear hK11 K11
 refine wp_seq_k fun K14 hK14 => ?_
 refine wp_seq_k fun K15 hK15 => ?_
 refine wp_region_lit ?_
 refine seg ha 3 [(0, .string (bstr a0)), (2, .pointer (some ⟨g3, 0, none⟩)), (3, .pointer (some ⟨g8, 0, none⟩)), (4, .slice ao13 t12.length cap13), (15, .bool ((t12.length : Int) == (4 : Int)))] (by kernel_rfl) fun a ha => ?_
 refine hK15 _ _ ?_; try clear hK15 K15
 refine cnd ha rfl (fun hc16 => ?_) (fun hc16 => ?_)
 ·have H := ite_t hc16 H
  refine wp_seq_k fun K17 hK17 => ?_
  refine wp_region_lit ?_
  refine seg ha 1 [(2, .pointer (some ⟨g3, 0, none⟩)), (3, .pointer (some ⟨g8, 0, none⟩)), (4, .slice ao13 t12.length cap13), (16, .pointer (some ⟨g8, 0, none⟩))] (by kernel_rfl) fun a ha => ?_
  refine st ha rfl rfl rfl (by kernel_rfl) rfl rfl hBg8 (Nat.le_of_ble_eq_true (by kernel_rfl)) fun a w18 ha hb2 hc19 _ => ?_
  have o1 : Ok [g8] (blkL ao13 ++ ([g8] ++ ([g3] ++ (M)))) w12.heap.size := (fun _ h => .inl (mr (ml h)))
  have o2 : Ok (blkL ao13 ++ ([g8] ++ ([g3] ++ (M)))) (blkL ao13 ++ ([g8] ++ ([g3] ++ (M)))) w12.heap.size := (Ok.refl _ _)
  have f13 := f13.chg hc19 o1 o2 p_i13_i10 (fun _ h => ml h)
  have hBg3 := hBg3.chg hc19 ((fun x (hx : x ∈ [g3]) (hy : x ∈ [g8]) => p_i10_i5 x hy hx) g3 (by simp))
  have hM : MS (blkL ao13 ++ ([g8] ++ ([g3] ++ (M)))) w18 := (hM.chg hc19)
  have hC := hC.trans hc19 (fun x h => .inr (e_i10 x h))
  have hBg8 : Box w18 g8 (cS_api_Addr (⟨(4 : Int), (List.replicate 16 (0 : Int))⟩ : S_api_Addr)) := hb2
  refine hK17 _ _ ?_; try clear hK17 K17
  refine wp_seq_k fun K20 hK20 => ?_
  refine wp_seq_k fun K21 hK21 => ?_
  refine wp_region_lit ?_
  refine seg ha 1 [(2, .pointer (some ⟨g3, 0, none⟩)), (3, .pointer (some ⟨g8, 0, none⟩)), (4, .slice ao13 t12.length cap13), (5, .int .i64 (0 : Int))] (by kernel_rfl) fun a ha => ?_
  refine hK21 _ _ ?_; try clear hK21 K21
  refine wp_block ?_
  obtain ⟨s22, H22, H⟩ := bind_some H
  have J22 : ∀ (a : Act) (wx22 : World), Has a Tryd.f39.ntmps [(2, .pointer (some ⟨g3, 0, none⟩)), (3, .pointer (some ⟨g8, 0, none⟩))] → (Box wx22 g3 (cS_api_Addr (⟨(0 : Int), (List.replicate 16 (0 : Int))⟩ : S_api_Addr))) → (Box wx22 g8 (cS_api_Addr (⟨(4 : Int), s22⟩ : S_api_Addr))) → (Chg [] w wx22) → (MS ([g8] ++ ([g3] ++ (M))) wx22) → K20 a wx22 := by
   intro a wx22 ha hBg3 hBg8 hC hM
   refine hK20 _ _ ?_; try clear hK20 K20
   refine wp_seq_k fun K25 hK25 => ?_
   refine wp_region_lit ?_
   refine ldA (cs := (cS_api_Addr (⟨(4 : Int), s22⟩ : S_api_Addr))) ha rfl (by kernel_rfl) rfl rfl rfl (cells_sub (Box.cells hBg8) (all := (cS_api_Addr (⟨(4 : Int), s22⟩ : S_api_Addr))) [] [] (by kernel_rfl)) fun a ha => ?_
   refine stA (l := (cS_api_Addr (⟨(4 : Int), s22⟩ : S_api_Addr))) ha rfl rfl rfl (by kernel_rfl) rfl rfl hBg3 rfl fun a w26 ha hb2 hc27 _ => ?_
   have hBg8 := hBg8.chg hc27 (p_i10_i5 g8 (by simp))
   have hM : MS ([g8] ++ ([g3] ++ (M))) w26 := (hM.chg hc27)
   have hC := hC.trans hc27 (fun x h => .inr (e_i5 x h))
   have hBg3 : Box w26 g3 (cS_api_Addr (⟨(4 : Int), s22⟩ : S_api_Addr)) := hb2
   refine hK25 _ _ ?_; try clear hK25 K25
   refine wp_ret ?_
   try simp only [Exit.then, Exit.inBlock]
   have hBg3 := hBg3.chg (Chg.refl [] _) (fun h => nomatch h)
   have hBg8 := hBg8.chg (Chg.refl [] _) (fun h => nomatch h)
   have hM : MS (M) w26 := (fun x h => hM.chg (Chg.refl [] _) x (mr (mr (h))))
   have hC := hC.trans (Chg.refl [] _) (Ok.nil _ _)
   obtain rfl := Option.some.inj H
   refine rtr ha (res1 rfl (roA ha rfl hBg3 (by kernel_rfl))) ?_
   exact ⟨rfl, hC, hM⟩
  have Hc22 := H
  have H := H22
  refine wp_loop_ghost (fun kk a w22 => ∃ (x23 : Int) (x24 : List Int), vineryref02_rough.l0 k t12 kk x23 x24 = some s22 ∧ Has a Tryd.f39.ntmps [(2, .pointer (some ⟨g3, 0, none⟩)), (3, .pointer (some ⟨g8, 0, none⟩)), (4, .slice ao13 t12.length cap13), (5, .int .i64 x23)] ∧ (Own rStr 9 w22 (blkL ao13 ++ ([g8] ++ ([g3] ++ (M)))) ao13 cap13 t12) ∧ (Box w22 g3 (cS_api_Addr (⟨(0 : Int), (List.replicate 16 (0 : Int))⟩ : S_api_Addr))) ∧ (Box w22 g8 (cS_api_Addr (⟨(4 : Int), x24⟩ : S_api_Addr))) ∧ (Chg [] w w22) ∧ (MS (blkL ao13 ++ ([g8] ++ ([g3] ++ (M)))) w22)) k ?_ ?_
  ·skip
   exact ⟨(0 : Int), (List.replicate 16 (0 : Int)), H, (ha.sel (by kernel_rfl)), f13, hBg3, hBg8, hC, hM⟩
  ·rintro kk a w22 ⟨x23, x24, H, ha, f13, hBg3, hBg8, hC, hM⟩
   obtain _ | kk := kk
   ·exact nomatch (show none = some _ from H)
   rw [vineryref02_rough.l0] at H
   refine wp_seq_k fun K28 hK28 => ?_
   refine wp_seq_k fun K29 hK29 => ?_
   refine wp_region_lit ?_
   refine seg ha 2 [(2, .pointer (some ⟨g3, 0, none⟩)), (3, .pointer (some ⟨g8, 0, none⟩)), (4, .slice ao13 t12.length cap13), (5, .int .i64 x23), (18, .bool (decide (x23 < (4 : Int))))] (by kernel_rfl) fun a ha => ?_
   refine hK29 _ _ ?_; try clear hK29 K29
   refine cnd ha rfl (fun hc30 => ?_) (fun hc30 => ?_)
   ·have H := ite_t hc30 H
    refine wp_skip ?_
    refine hK28 _ _ ?_; try clear hK28 K28
    refine wp_seq_k fun K31 hK31 => ?_
    refine wp_block ?_
    refine wp_region_lit ?_
    refine seg ha 3 [(2, .pointer (some ⟨g3, 0, none⟩)), (3, .pointer (some ⟨g8, 0, none⟩)), (4, .slice ao13 t12.length cap13), (5, .int .i64 x23), (21, .int .i64 x23), (22, .slice ao13 t12.length cap13), (23, .int .i64 x23)] (by kernel_rfl) fun a ha => ?_
    obtain ⟨⟨hx32, hx32'⟩, H⟩ := ite_some H
    refine ix (r := rStr) ha (by kernel_rfl) (by kernel_rfl) rfl rfl rfl rfl rfl (Own.toRSl (M' := []) f13 (Ok.nil _ _) (fun _ _ h => nomatch h)) hx32 hx32' fun a ge33 oe34 cs35 hn38 hR36 hE37 ha => ?_
    rw [rd_get] at hR36
    obtain rfl := hR36
    have hE37 : ∀ j v, ([.string (bstr (rd t12 x23))] : List Value)[j]? = some v → w22.cell? ⟨ge33, oe34 + j, none⟩ = some v := hE37
    refine ld ha rfl (by kernel_rfl) rfl rfl rfl (hE37 0 (.string (bstr (rd t12 x23))) (by kernel_rfl)) fun a ha => ?_
    obtain ⟨t39, H39, H⟩ := bind_some H
    refine cl ha (by rfl) (by kernel_rfl) (by rfl) (by rfl) (by rfl) (vineryref02_Digits.walk w22 _ hM (rd t12 x23) (10 : Int) (3 : Int) k _ H39) ?_
    rintro _ w39 ⟨rfl, hc39, hMn⟩ a ha
    have o1 : Ok [] (blkL ao13 ++ ([g8] ++ ([g3] ++ (M)))) w22.heap.size := Ok.nil _ _
    have o2 : Ok (blkL ao13 ++ ([g8] ++ ([g3] ++ (M)))) (blkL ao13 ++ ([g8] ++ ([g3] ++ (M)))) w22.heap.size := (Ok.refl _ _)
    have f13 := f13.chg hc39 o1 o2 (fun _ _ h => nomatch h) (fun _ h => ml h)
    have hBg3 := hBg3.chg hc39 (fun h => nomatch h)
    have hBg8 := hBg8.chg hc39 (fun h => nomatch h)
    have hM : MS (blkL ao13 ++ ([g8] ++ ([g3] ++ (M)))) w39 := (hM.chg hc39)
    have hC := hC.trans hc39 (Ok.nil _ _)
    refine opk (v := .int .i64 (if t39 > (0 : Int) then t39 else (0 : Int))) ha rfl rfl rfl rfl rfl (fun w => by kernel_rfl) fun a ha => ?_
    refine seg ha 2 [(2, .pointer (some ⟨g3, 0, none⟩)), (3, .pointer (some ⟨g8, 0, none⟩)), (4, .slice ao13 t12.length cap13), (5, .int .i64 x23), (21, .int .i64 x23), (28, .int .u8 (IntKind.u8.wrap (if t39 > (0 : Int) then t39 else (0 : Int)))), (29, .pointer (some ⟨g8, 1, none⟩))] (by kernel_rfl) fun a ha => ?_
    obtain ⟨⟨hx40, hx40'⟩, H⟩ := ite_some H
    have hi40 : (Int.toNat x23) < 16 := by omega
    refine hop (v := .pointer (some ⟨g8, 1 + (Int.toNat x23), none⟩)) (w' := w39) ha rfl rfl rfl (ixA_run (T := 5) (N := 16) (g := g8) (o' := 1) (k := .i64) (i := x23) ha (by kernel_rfl) (by kernel_rfl) (by rfl) (by rfl) hx40 hx40' _) fun a ha => ?_
    refine st (o' := 1 + (Int.toNat x23)) ha rfl rfl rfl (by kernel_rfl) rfl rfl hBg8 (arr_lt (k := .u8) (m := 16) (x := x24) ([.int .i64 (4 : Int)] : List Value) ([] : List Value) (by kernel_rfl) hi40) fun a w41 ha hb2 hc42 _ => ?_
    have o1 : Ok [g8] (blkL ao13 ++ ([g8] ++ ([g3] ++ (M)))) w39.heap.size := (fun _ h => .inl (mr (ml h)))
    have o2 : Ok (blkL ao13 ++ ([g8] ++ ([g3] ++ (M)))) (blkL ao13 ++ ([g8] ++ ([g3] ++ (M)))) w39.heap.size := (Ok.refl _ _)
    have f13 := f13.chg hc42 o1 o2 p_i13_i10 (fun _ h => ml h)
    have hBg3 := hBg3.chg hc42 ((fun x (hx : x ∈ [g3]) (hy : x ∈ [g8]) => p_i10_i5 x hy hx) g3 (by simp))
    have hM : MS (blkL ao13 ++ ([g8] ++ ([g3] ++ (M)))) w41 := (hM.chg hc42)
    have hC := hC.trans hc42 (fun x h => .inr (e_i10 x h))
    have hBg8 : Box w41 g8 (cS_api_Addr (⟨(4 : Int), ((arL 16 x24).set (Int.toNat x23) (IntKind.u8.wrap (if t39 > (0 : Int) then t39 else (0 : Int))))⟩ : S_api_Addr)) := Box.setA (k := .u8) (m := 16) (x := x24) ([.int .i64 (4 : Int)] : List Value) ([] : List Value) hb2 (by kernel_rfl) hi40 (by kernel_rfl)
    refine hK31 _ _ ?_; try clear hK31 K31
    refine wp_region_lit ?_
    refine seg ha 3 [(2, .pointer (some ⟨g3, 0, none⟩)), (3, .pointer (some ⟨g8, 0, none⟩)), (4, .slice ao13 t12.length cap13), (5, .int .i64 (IntKind.i64.wrap (x23 + (1 : Int))))] (by kernel_rfl) fun a ha => ?_
    exact ⟨kk, Nat.lt_succ_self _, ⟨IntKind.i64.wrap (x23 + (1 : Int)), ((arL 16 x24).set (Int.toNat x23) (IntKind.u8.wrap (if t39 > (0 : Int) then t39 else (0 : Int)))), H, (ha.sel (by kernel_rfl)), f13, hBg3, hBg8, hC, hM⟩⟩
   ·have H := ite_f hc30 H
    refine wp_exit ?_
    simp only [Exit.then, Exit.inBlock, ↓reduceIte, Nat.reduceEqDiff]
    obtain rfl := Option.some.inj H
    have hBg3 := hBg3.chg (Chg.refl [] _) (fun h => nomatch h)
    have hBg8 := hBg8.chg (Chg.refl [] _) (fun h => nomatch h)
    have hM : MS ([g8] ++ ([g3] ++ (M))) w22 := (fun x h => hM.chg (Chg.refl [] _) x (mr (h)))
    have hC := hC.trans (Chg.refl [] _) (Ok.nil _ _)
    exact J22 _ _ (ha.sel (by kernel_rfl)) hBg3 hBg8 hC hM
 ·have H := ite_f hc16 H
  refine wp_skip ?_
  refine hK14 _ _ ?_; try clear hK14 K14
  refine wp_seq_k fun K43 hK43 => ?_
  refine wp_region_lit ?_
  refine seg ha 1 [(2, .pointer (some ⟨g3, 0, none⟩)), (3, .pointer (some ⟨g8, 0, none⟩)), (32, .string (bstr a0))] (by kernel_rfl) fun a ha => ?_
  obtain ⟨t44, H44, H⟩ := bind_some H
  refine cl ha (by rfl) (by kernel_rfl) (by rfl) (by rfl) (by rfl) (vineryref02_split.walk w12 _ hM a0 (58 : Int) k _ H44) ?_
  rintro _ w44 ⟨ao45, cap45, rfl, f45, ne_i45, hc44, hMn⟩ a ha
  have hBg3 := hBg3.chg hc44 (fun h => nomatch h)
  have hBg8 := hBg8.chg hc44 (fun h => nomatch h)
  have p_i45_i13 : ∀ x ∈ blkL ao45, x ∉ (blkL ao13) := fun x hx hy => absurd (hM x (ml hy)) (Nat.not_lt.2 (ne_i45 x hx))
  have p_i45_i10 : ∀ x ∈ blkL ao45, x ∉ ([g8]) := fun x hx hy => absurd (hM x (mr (ml hy))) (Nat.not_lt.2 (ne_i45 x hx))
  have p_i45_i5 : ∀ x ∈ blkL ao45, x ∉ ([g3]) := fun x hx hy => absurd (hM x (mr (mr (ml hy)))) (Nat.not_lt.2 (ne_i45 x hx))
  have p_i45_M : ∀ x ∈ blkL ao45, x ∉ M := fun x hx hy => absurd (hM x (mr (mr (mr (hy))))) (Nat.not_lt.2 (ne_i45 x hx))
  have e_i45 : ∀ x ∈ blkL ao45, w.heap.size ≤ x := fun x hx => Nat.le_trans hC.size (ne_i45 x hx)
  have hM : MS (blkL ao45 ++ (blkL ao13 ++ ([g8] ++ ([g3] ++ (M))))) w44 := (MS.app (fun x h => hMn x (ml h)) (hM.chg hc44))
  have hC := hC.trans hc44 (Ok.nil _ _)
  refine seg ha 1 [(2, .pointer (some ⟨g3, 0, none⟩)), (3, .pointer (some ⟨g8, 0, none⟩)), (4, .slice ao45 t44.length cap45)] (by kernel_rfl) fun a ha => ?_
  refine hK43 _ _ ?_; try clear hK43 K43
  refine wp_seq_k fun K46 hK46 => ?_
  refine wp_region_lit ?_
  refine seg ha 1 [(2, .pointer (some ⟨g3, 0, none⟩)), (3, .pointer (some ⟨g8, 0, none⟩)), (4, .slice ao45 t44.length cap45), (34, .pointer (some ⟨g8, 0, none⟩))] (by kernel_rfl) fun a ha => ?_
  refine st ha rfl rfl rfl (by kernel_rfl) rfl rfl hBg8 (Nat.le_of_ble_eq_true (by kernel_rfl)) fun a w47 ha hb2 hc48 _ => ?_
  have o1 : Ok [g8] (blkL ao45 ++ (blkL ao13 ++ ([g8] ++ ([g3] ++ (M))))) w44.heap.size := (fun _ h => .inl (mr (mr (ml h))))
  have o2 : Ok (blkL ao45 ++ (blkL ao13 ++ ([g8] ++ ([g3] ++ (M))))) (blkL ao45 ++ (blkL ao13 ++ ([g8] ++ ([g3] ++ (M))))) w44.heap.size := (Ok.refl _ _)
  have f45 := f45.chg hc48 o1 o2 p_i45_i10 (fun _ h => ml h)
  have hBg3 := hBg3.chg hc48 ((fun x (hx : x ∈ [g3]) (hy : x ∈ [g8]) => p_i10_i5 x hy hx) g3 (by simp))
  have hM : MS (blkL ao45 ++ (blkL ao13 ++ ([g8] ++ ([g3] ++ (M))))) w47 := (hM.chg hc48)
  have hC := hC.trans hc48 (fun x h => .inr (e_i10 x h))
  have hBg8 : Box w47 g8 (cS_api_Addr (⟨(16 : Int), (List.replicate 16 (0 : Int))⟩ : S_api_Addr)) := hb2
  refine hK46 _ _ ?_; try clear hK46 K46
  refine wp_seq_k fun K49 hK49 => ?_
  refine wp_region_lit ?_
  refine seg ha 1 [(2, .pointer (some ⟨g3, 0, none⟩)), (3, .pointer (some ⟨g8, 0, none⟩)), (4, .slice ao45 t44.length cap45), (6, .int .i64 (-1 : Int))] (by kernel_rfl) fun a ha => ?_
  refine hK49 _ _ ?_; try clear hK49 K49
  refine wp_seq_k fun K50 hK50 => ?_
  refine wp_seq_k fun K51 hK51 => ?_
  refine wp_region_lit ?_
  refine seg ha 1 [(2, .pointer (some ⟨g3, 0, none⟩)), (3, .pointer (some ⟨g8, 0, none⟩)), (4, .slice ao45 t44.length cap45), (6, .int .i64 (-1 : Int)), (7, .int .i64 (1 : Int))] (by kernel_rfl) fun a ha => ?_
  refine hK51 _ _ ?_; try clear hK51 K51
  refine wp_block ?_
  obtain ⟨s52, H52, H⟩ := bind_some H
  have J52 : ∀ (a : Act) (wx52 : World), Has a Tryd.f39.ntmps [(2, .pointer (some ⟨g3, 0, none⟩)), (3, .pointer (some ⟨g8, 0, none⟩)), (4, .slice ao45 t44.length cap45), (6, .int .i64 s52)] → (Own rStr 9 wx52 (blkL ao45 ++ ([g8] ++ ([g3] ++ (M)))) ao45 cap45 t44) → (Box wx52 g3 (cS_api_Addr (⟨(0 : Int), (List.replicate 16 (0 : Int))⟩ : S_api_Addr))) → (Box wx52 g8 (cS_api_Addr (⟨(16 : Int), (List.replicate 16 (0 : Int))⟩ : S_api_Addr))) → (Chg [] w wx52) → (MS (blkL ao45 ++ ([g8] ++ ([g3] ++ (M)))) wx52) → K50 a wx52 := by
   intro a wx52 ha f45 hBg3 hBg8 hC hM
   refine hK50 _ _ ?_; try clear hK50 K50
   refine wp_seq_k fun K55 hK55 => ?_
   refine wp_seq_k fun K56 hK56 => ?_
   refine wp_region_lit ?_
   refine seg ha 1 [(2, .pointer (some ⟨g3, 0, none⟩)), (3, .pointer (some ⟨g8, 0, none⟩)), (4, .slice ao45 t44.length cap45), (6, .int .i64 s52), (8, .int .i64 (0 : Int))] (by kernel_rfl) fun a ha => ?_
   refine hK56 _ _ ?_; try clear hK56 K56
   refine wp_block ?_
   obtain ⟨s57, H57, H⟩ := bind_some H
   have J57 : ∀ (a : Act) (wx57 : World), Has a Tryd.f39.ntmps [(2, .pointer (some ⟨g3, 0, none⟩)), (3, .pointer (some ⟨g8, 0, none⟩))] → (Box wx57 g3 (cS_api_Addr (⟨(0 : Int), (List.replicate 16 (0 : Int))⟩ : S_api_Addr))) → (Box wx57 g8 (cS_api_Addr (⟨(16 : Int), s57⟩ : S_api_Addr))) → (Chg [] w wx57) → (MS ([g8] ++ ([g3] ++ (M))) wx57) → K55 a wx57 := by
    intro a wx57 ha hBg3 hBg8 hC hM
    refine hK55 _ _ ?_; try clear hK55 K55
    refine wp_seq_k fun K60 hK60 => ?_
    refine wp_region_lit ?_
    refine ldA (cs := (cS_api_Addr (⟨(16 : Int), s57⟩ : S_api_Addr))) ha rfl (by kernel_rfl) rfl rfl rfl (cells_sub (Box.cells hBg8) (all := (cS_api_Addr (⟨(16 : Int), s57⟩ : S_api_Addr))) [] [] (by kernel_rfl)) fun a ha => ?_
    refine stA (l := (cS_api_Addr (⟨(16 : Int), s57⟩ : S_api_Addr))) ha rfl rfl rfl (by kernel_rfl) rfl rfl hBg3 rfl fun a w61 ha hb2 hc62 _ => ?_
    have hBg8 := hBg8.chg hc62 (p_i10_i5 g8 (by simp))
    have hM : MS ([g8] ++ ([g3] ++ (M))) w61 := (hM.chg hc62)
    have hC := hC.trans hc62 (fun x h => .inr (e_i5 x h))
    have hBg3 : Box w61 g3 (cS_api_Addr (⟨(16 : Int), s57⟩ : S_api_Addr)) := hb2
    refine hK60 _ _ ?_; try clear hK60 K60
    refine wp_ret ?_
    try simp only [Exit.then, Exit.inBlock]
    have hBg3 := hBg3.chg (Chg.refl [] _) (fun h => nomatch h)
    have hBg8 := hBg8.chg (Chg.refl [] _) (fun h => nomatch h)
    have hM : MS (M) w61 := (fun x h => hM.chg (Chg.refl [] _) x (mr (mr (h))))
    have hC := hC.trans (Chg.refl [] _) (Ok.nil _ _)
    obtain rfl := Option.some.inj H
    refine rtr ha (res1 rfl (roA ha rfl hBg3 (by kernel_rfl))) ?_
    exact ⟨rfl, hC, hM⟩
   have Hc57 := H
   have H := H57
   refine wp_loop_ghost (fun kk a w57 => ∃ (x58 : Int) (x59 : List Int), vineryref02_rough.l2 k t44 s52 kk x58 x59 = some s57 ∧ Has a Tryd.f39.ntmps [(2, .pointer (some ⟨g3, 0, none⟩)), (3, .pointer (some ⟨g8, 0, none⟩)), (4, .slice ao45 t44.length cap45), (6, .int .i64 s52), (8, .int .i64 x58)] ∧ (Own rStr 9 w57 (blkL ao45 ++ ([g8] ++ ([g3] ++ (M)))) ao45 cap45 t44) ∧ (Box w57 g3 (cS_api_Addr (⟨(0 : Int), (List.replicate 16 (0 : Int))⟩ : S_api_Addr))) ∧ (Box w57 g8 (cS_api_Addr (⟨(16 : Int), x59⟩ : S_api_Addr))) ∧ (Chg [] w w57) ∧ (MS (blkL ao45 ++ ([g8] ++ ([g3] ++ (M)))) w57)) k ?_ ?_
   ·skip
    exact ⟨(0 : Int), (List.replicate 16 (0 : Int)), H, (ha.sel (by kernel_rfl)), f45, hBg3, hBg8, hC, hM⟩
   ·rintro kk a w57 ⟨x58, x59, H, ha, f45, hBg3, hBg8, hC, hM⟩
    obtain _ | kk := kk
    ·exact nomatch (show none = some _ from H)
    rw [vineryref02_rough.l2] at H
    refine wp_seq_k fun K63 hK63 => ?_
    refine wp_seq_k fun K64 hK64 => ?_
    refine wp_region_lit ?_
    refine seg ha 2 [(2, .pointer (some ⟨g3, 0, none⟩)), (3, .pointer (some ⟨g8, 0, none⟩)), (4, .slice ao45 t44.length cap45), (6, .int .i64 s52), (8, .int .i64 x58), (53, .bool (decide (x58 < (8 : Int))))] (by kernel_rfl) fun a ha => ?_
    refine hK64 _ _ ?_; try clear hK64 K64
    refine cnd ha rfl (fun hc65 => ?_) (fun hc65 => ?_)
    ·have H := ite_t hc65 H
     refine wp_skip ?_
     refine hK63 _ _ ?_; try clear hK63 K63
     refine wp_seq_k fun K66 hK66 => ?_
     refine wp_block ?_
     refine wp_seq_k fun K67 hK67 => ?_
     refine wp_region_lit ?_
     refine seg ha 1 [(2, .pointer (some ⟨g3, 0, none⟩)), (3, .pointer (some ⟨g8, 0, none⟩)), (4, .slice ao45 t44.length cap45), (6, .int .i64 s52), (8, .int .i64 x58), (9, .int .i64 (0 : Int))] (by kernel_rfl) fun a ha => ?_
     refine hK67 _ _ ?_; try clear hK67 K67
     refine wp_seq_k fun K68 hK68 => ?_
     obtain ⟨s69, H69, H⟩ := bind_some H
     have J69 : ∀ (a : Act) (w69 : World), Has a Tryd.f39.ntmps [(2, .pointer (some ⟨g3, 0, none⟩)), (3, .pointer (some ⟨g8, 0, none⟩)), (4, .slice ao45 t44.length cap45), (6, .int .i64 s52), (8, .int .i64 x58), (9, .int .i64 s69)] → (Own rStr 9 w69 (blkL ao45 ++ ([g8] ++ ([g3] ++ (M)))) ao45 cap45 t44) → (Box w69 g3 (cS_api_Addr (⟨(0 : Int), (List.replicate 16 (0 : Int))⟩ : S_api_Addr))) → (Box w69 g8 (cS_api_Addr (⟨(16 : Int), x59⟩ : S_api_Addr))) → (Chg [] w w69) → (MS (blkL ao45 ++ ([g8] ++ ([g3] ++ (M)))) w69) → K68 a w69 := by
      intro a w69 ha f45 hBg3 hBg8 hC hM
      refine hK68 _ _ ?_; try clear hK68 K68
      refine wp_seq_k fun K70 hK70 => ?_
      refine wp_region_lit ?_
      refine seg ha 6 [(2, .pointer (some ⟨g3, 0, none⟩)), (3, .pointer (some ⟨g8, 0, none⟩)), (4, .slice ao45 t44.length cap45), (6, .int .i64 s52), (8, .int .i64 x58), (9, .int .i64 s69), (94, .int .i64 (IntKind.i64.wrap ((2 : Int) * x58))), (97, .int .u8 (IntKind.u8.wrap (IntKind.i64.wrap (Int.tdiv s69 (256 : Int))))), (98, .pointer (some ⟨g8, 1, none⟩))] (by kernel_rfl) fun a ha => ?_
      obtain ⟨⟨hx71, hx71'⟩, H⟩ := ite_some H
      have hi71 : (Int.toNat (IntKind.i64.wrap ((2 : Int) * x58))) < 16 := by omega
      refine hop (v := .pointer (some ⟨g8, 1 + (Int.toNat (IntKind.i64.wrap ((2 : Int) * x58))), none⟩)) (w' := w69) ha rfl rfl rfl (ixA_run (T := 5) (N := 16) (g := g8) (o' := 1) (k := .i64) (i := IntKind.i64.wrap ((2 : Int) * x58)) ha (by kernel_rfl) (by kernel_rfl) (by rfl) (by rfl) hx71 hx71' _) fun a ha => ?_
      refine st (o' := 1 + (Int.toNat (IntKind.i64.wrap ((2 : Int) * x58)))) ha rfl rfl rfl (by kernel_rfl) rfl rfl hBg8 (arr_lt (k := .u8) (m := 16) (x := x59) ([.int .i64 (16 : Int)] : List Value) ([] : List Value) (by kernel_rfl) hi71) fun a w72 ha hb2 hc73 _ => ?_
      have o1 : Ok [g8] (blkL ao45 ++ ([g8] ++ ([g3] ++ (M)))) w69.heap.size := (fun _ h => .inl (mr (ml h)))
      have o2 : Ok (blkL ao45 ++ ([g8] ++ ([g3] ++ (M)))) (blkL ao45 ++ ([g8] ++ ([g3] ++ (M)))) w69.heap.size := (Ok.refl _ _)
      have f45 := f45.chg hc73 o1 o2 p_i45_i10 (fun _ h => ml h)
      have hBg3 := hBg3.chg hc73 ((fun x (hx : x ∈ [g3]) (hy : x ∈ [g8]) => p_i10_i5 x hy hx) g3 (by simp))
      have hM : MS (blkL ao45 ++ ([g8] ++ ([g3] ++ (M)))) w72 := (hM.chg hc73)
      have hC := hC.trans hc73 (fun x h => .inr (e_i10 x h))
      have hBg8 : Box w72 g8 (cS_api_Addr (⟨(16 : Int), ((arL 16 x59).set (Int.toNat (IntKind.i64.wrap ((2 : Int) * x58))) (IntKind.u8.wrap (IntKind.i64.wrap (Int.tdiv s69 (256 : Int)))))⟩ : S_api_Addr)) := Box.setA (k := .u8) (m := 16) (x := x59) ([.int .i64 (16 : Int)] : List Value) ([] : List Value) hb2 (by kernel_rfl) hi71 (by kernel_rfl)
      refine hK70 _ _ ?_; try clear hK70 K70
      refine wp_region_lit ?_
      refine seg ha 6 [(2, .pointer (some ⟨g3, 0, none⟩)), (3, .pointer (some ⟨g8, 0, none⟩)), (4, .slice ao45 t44.length cap45), (6, .int .i64 s52), (8, .int .i64 x58), (102, .int .i64 (IntKind.i64.wrap ((IntKind.i64.wrap ((2 : Int) * x58)) + (1 : Int)))), (104, .int .u8 (IntKind.u8.wrap s69)), (105, .pointer (some ⟨g8, 1, none⟩))] (by kernel_rfl) fun a ha => ?_
      obtain ⟨⟨hx74, hx74'⟩, H⟩ := ite_some H
      have hi74 : (Int.toNat (IntKind.i64.wrap ((IntKind.i64.wrap ((2 : Int) * x58)) + (1 : Int)))) < 16 := by omega
      refine hop (v := .pointer (some ⟨g8, 1 + (Int.toNat (IntKind.i64.wrap ((IntKind.i64.wrap ((2 : Int) * x58)) + (1 : Int)))), none⟩)) (w' := w72) ha rfl rfl rfl (ixA_run (T := 5) (N := 16) (g := g8) (o' := 1) (k := .i64) (i := IntKind.i64.wrap ((IntKind.i64.wrap ((2 : Int) * x58)) + (1 : Int))) ha (by kernel_rfl) (by kernel_rfl) (by rfl) (by rfl) hx74 hx74' _) fun a ha => ?_
      refine st (o' := 1 + (Int.toNat (IntKind.i64.wrap ((IntKind.i64.wrap ((2 : Int) * x58)) + (1 : Int))))) ha rfl rfl rfl (by kernel_rfl) rfl rfl hBg8 (arr_lt (k := .u8) (m := 16) (x := ((arL 16 x59).set (Int.toNat (IntKind.i64.wrap ((2 : Int) * x58))) (IntKind.u8.wrap (IntKind.i64.wrap (Int.tdiv s69 (256 : Int)))))) ([.int .i64 (16 : Int)] : List Value) ([] : List Value) (by kernel_rfl) hi74) fun a w75 ha hb2 hc76 _ => ?_
      have o1 : Ok [g8] (blkL ao45 ++ ([g8] ++ ([g3] ++ (M)))) w72.heap.size := (fun _ h => .inl (mr (ml h)))
      have o2 : Ok (blkL ao45 ++ ([g8] ++ ([g3] ++ (M)))) (blkL ao45 ++ ([g8] ++ ([g3] ++ (M)))) w72.heap.size := (Ok.refl _ _)
      have f45 := f45.chg hc76 o1 o2 p_i45_i10 (fun _ h => ml h)
      have hBg3 := hBg3.chg hc76 ((fun x (hx : x ∈ [g3]) (hy : x ∈ [g8]) => p_i10_i5 x hy hx) g3 (by simp))
      have hM : MS (blkL ao45 ++ ([g8] ++ ([g3] ++ (M)))) w75 := (hM.chg hc76)
      have hC := hC.trans hc76 (fun x h => .inr (e_i10 x h))
      have hBg8 : Box w75 g8 (cS_api_Addr (⟨(16 : Int), ((arL 16 ((arL 16 x59).set (Int.toNat (IntKind.i64.wrap ((2 : Int) * x58))) (IntKind.u8.wrap (IntKind.i64.wrap (Int.tdiv s69 (256 : Int)))))).set (Int.toNat (IntKind.i64.wrap ((IntKind.i64.wrap ((2 : Int) * x58)) + (1 : Int)))) (IntKind.u8.wrap s69))⟩ : S_api_Addr)) := Box.setA (k := .u8) (m := 16) (x := ((arL 16 x59).set (Int.toNat (IntKind.i64.wrap ((2 : Int) * x58))) (IntKind.u8.wrap (IntKind.i64.wrap (Int.tdiv s69 (256 : Int)))))) ([.int .i64 (16 : Int)] : List Value) ([] : List Value) hb2 (by kernel_rfl) hi74 (by kernel_rfl)
      refine hK66 _ _ ?_; try clear hK66 K66
      refine wp_region_lit ?_
      refine seg ha 3 [(2, .pointer (some ⟨g3, 0, none⟩)), (3, .pointer (some ⟨g8, 0, none⟩)), (4, .slice ao45 t44.length cap45), (6, .int .i64 s52), (8, .int .i64 (IntKind.i64.wrap (x58 + (1 : Int))))] (by kernel_rfl) fun a ha => ?_
      exact ⟨kk, Nat.lt_succ_self _, ⟨IntKind.i64.wrap (x58 + (1 : Int)), ((arL 16 ((arL 16 x59).set (Int.toNat (IntKind.i64.wrap ((2 : Int) * x58))) (IntKind.u8.wrap (IntKind.i64.wrap (Int.tdiv s69 (256 : Int)))))).set (Int.toNat (IntKind.i64.wrap ((IntKind.i64.wrap ((2 : Int) * x58)) + (1 : Int)))) (IntKind.u8.wrap s69)), H, (ha.sel (by kernel_rfl)), f45, hBg3, hBg8, hC, hM⟩⟩
     have H := H69
     refine wp_seq_k fun K77 hK77 => ?_
     refine wp_region_lit ?_
     refine seg ha 7 [(2, .pointer (some ⟨g3, 0, none⟩)), (3, .pointer (some ⟨g8, 0, none⟩)), (4, .slice ao45 t44.length cap45), (6, .int .i64 s52), (8, .int .i64 x58), (9, .int .i64 (0 : Int)), (62, .bool (if (decide (s52 < (0 : Int))) = true then true else (decide (x58 < s52))))] (by kernel_rfl) fun a ha => ?_
     refine hK77 _ _ ?_; try clear hK77 K77
     refine cnd ha rfl (fun hc78 => ?_) (fun hc78 => ?_)
     ·have H := ite_t hc78 H
      refine wp_seq_k fun K79 hK79 => ?_
      refine wp_region_lit ?_
      refine seg ha 4 [(2, .pointer (some ⟨g3, 0, none⟩)), (3, .pointer (some ⟨g8, 0, none⟩)), (4, .slice ao45 t44.length cap45), (6, .int .i64 s52), (8, .int .i64 x58), (9, .int .i64 (0 : Int)), (66, .bool (decide (x58 < (t44.length : Int))))] (by kernel_rfl) fun a ha => ?_
      refine hK79 _ _ ?_; try clear hK79 K79
      refine cnd ha rfl (fun hc80 => ?_) (fun hc80 => ?_)
      ·have H := ite_t hc80 H
       refine wp_region_lit ?_
       refine seg ha 2 [(2, .pointer (some ⟨g3, 0, none⟩)), (3, .pointer (some ⟨g8, 0, none⟩)), (4, .slice ao45 t44.length cap45), (6, .int .i64 s52), (8, .int .i64 x58), (67, .slice ao45 t44.length cap45), (68, .int .i64 x58)] (by kernel_rfl) fun a ha => ?_
       obtain ⟨⟨hx81, hx81'⟩, H⟩ := ite_some H
       refine ix (r := rStr) ha (by kernel_rfl) (by kernel_rfl) rfl rfl rfl rfl rfl (Own.toRSl (M' := []) f45 (Ok.nil _ _) (fun _ _ h => nomatch h)) hx81 hx81' fun a ge82 oe83 cs84 hn87 hR85 hE86 ha => ?_
       rw [rd_get] at hR85
       obtain rfl := hR85
       have hE86 : ∀ j v, ([.string (bstr (rd t44 x58))] : List Value)[j]? = some v → w57.cell? ⟨ge82, oe83 + j, none⟩ = some v := hE86
       refine ld ha rfl (by kernel_rfl) rfl rfl rfl (hE86 0 (.string (bstr (rd t44 x58))) (by kernel_rfl)) fun a ha => ?_
       obtain ⟨t88, H88, H⟩ := bind_some H
       refine cl ha (by rfl) (by kernel_rfl) (by rfl) (by rfl) (by rfl) (vineryref02_Digits.walk w57 _ hM (rd t44 x58) (16 : Int) (4 : Int) k _ H88) ?_
       rintro _ w88 ⟨rfl, hc88, hMn⟩ a ha
       have o1 : Ok [] (blkL ao45 ++ ([g8] ++ ([g3] ++ (M)))) w57.heap.size := Ok.nil _ _
       have o2 : Ok (blkL ao45 ++ ([g8] ++ ([g3] ++ (M)))) (blkL ao45 ++ ([g8] ++ ([g3] ++ (M)))) w57.heap.size := (Ok.refl _ _)
       have f45 := f45.chg hc88 o1 o2 (fun _ _ h => nomatch h) (fun _ h => ml h)
       have hBg3 := hBg3.chg hc88 (fun h => nomatch h)
       have hBg8 := hBg8.chg hc88 (fun h => nomatch h)
       have hM : MS (blkL ao45 ++ ([g8] ++ ([g3] ++ (M)))) w88 := (hM.chg hc88)
       have hC := hC.trans hc88 (Ok.nil _ _)
       refine opk (v := .int .i64 (if t88 > (0 : Int) then t88 else (0 : Int))) ha rfl rfl rfl rfl rfl (fun w => by kernel_rfl) fun a ha => ?_
       refine seg ha 1 [(2, .pointer (some ⟨g3, 0, none⟩)), (3, .pointer (some ⟨g8, 0, none⟩)), (4, .slice ao45 t44.length cap45), (6, .int .i64 s52), (8, .int .i64 x58), (9, .int .i64 (if t88 > (0 : Int) then t88 else (0 : Int)))] (by kernel_rfl) fun a ha => ?_
       obtain rfl := Option.some.inj H
       exact J69 _ _ (ha.sel (by kernel_rfl)) f45 hBg3 hBg8 hC hM
      ·have H := ite_f hc80 H
       refine wp_skip ?_
       obtain rfl := Option.some.inj H
       exact J69 _ _ (ha.sel (by kernel_rfl)) f45 hBg3 hBg8 hC hM
     ·have H := ite_f hc78 H
      refine wp_seq_k fun K89 hK89 => ?_
      refine wp_region_lit ?_
      refine seg ha 6 [(2, .pointer (some ⟨g3, 0, none⟩)), (3, .pointer (some ⟨g8, 0, none⟩)), (4, .slice ao45 t44.length cap45), (6, .int .i64 s52), (8, .int .i64 x58), (9, .int .i64 (0 : Int)), (10, .int .i64 (IntKind.i64.wrap ((IntKind.i64.wrap ((t44.length : Int) - (8 : Int))) + x58)))] (by kernel_rfl) fun a ha => ?_
      refine hK89 _ _ ?_; try clear hK89 K89
      refine wp_seq_k fun K90 hK90 => ?_
      refine wp_region_lit ?_
      refine seg ha 9 [(2, .pointer (some ⟨g3, 0, none⟩)), (3, .pointer (some ⟨g8, 0, none⟩)), (4, .slice ao45 t44.length cap45), (6, .int .i64 s52), (8, .int .i64 x58), (9, .int .i64 (0 : Int)), (10, .int .i64 (IntKind.i64.wrap ((IntKind.i64.wrap ((t44.length : Int) - (8 : Int))) + x58))), (86, .bool (if (decide ((IntKind.i64.wrap ((IntKind.i64.wrap ((t44.length : Int) - (8 : Int))) + x58)) > s52)) = true then (decide ((IntKind.i64.wrap ((IntKind.i64.wrap ((t44.length : Int) - (8 : Int))) + x58)) < (t44.length : Int))) else false))] (by kernel_rfl) fun a ha => ?_
      refine hK90 _ _ ?_; try clear hK90 K90
      refine cnd ha rfl (fun hc91 => ?_) (fun hc91 => ?_)
      ·have H := ite_t hc91 H
       refine wp_region_lit ?_
       refine seg ha 2 [(2, .pointer (some ⟨g3, 0, none⟩)), (3, .pointer (some ⟨g8, 0, none⟩)), (4, .slice ao45 t44.length cap45), (6, .int .i64 s52), (8, .int .i64 x58), (87, .slice ao45 t44.length cap45), (88, .int .i64 (IntKind.i64.wrap ((IntKind.i64.wrap ((t44.length : Int) - (8 : Int))) + x58)))] (by kernel_rfl) fun a ha => ?_
       obtain ⟨⟨hx92, hx92'⟩, H⟩ := ite_some H
       refine ix (r := rStr) ha (by kernel_rfl) (by kernel_rfl) rfl rfl rfl rfl rfl (Own.toRSl (M' := []) f45 (Ok.nil _ _) (fun _ _ h => nomatch h)) hx92 hx92' fun a ge93 oe94 cs95 hn98 hR96 hE97 ha => ?_
       rw [rd_get] at hR96
       obtain rfl := hR96
       have hE97 : ∀ j v, ([.string (bstr (rd t44 (IntKind.i64.wrap ((IntKind.i64.wrap ((t44.length : Int) - (8 : Int))) + x58))))] : List Value)[j]? = some v → w57.cell? ⟨ge93, oe94 + j, none⟩ = some v := hE97
       refine ld ha rfl (by kernel_rfl) rfl rfl rfl (hE97 0 (.string (bstr (rd t44 (IntKind.i64.wrap ((IntKind.i64.wrap ((t44.length : Int) - (8 : Int))) + x58))))) (by kernel_rfl)) fun a ha => ?_
       obtain ⟨t99, H99, H⟩ := bind_some H
       refine cl ha (by rfl) (by kernel_rfl) (by rfl) (by rfl) (by rfl) (vineryref02_Digits.walk w57 _ hM (rd t44 (IntKind.i64.wrap ((IntKind.i64.wrap ((t44.length : Int) - (8 : Int))) + x58))) (16 : Int) (4 : Int) k _ H99) ?_
       rintro _ w99 ⟨rfl, hc99, hMn⟩ a ha
       have o1 : Ok [] (blkL ao45 ++ ([g8] ++ ([g3] ++ (M)))) w57.heap.size := Ok.nil _ _
       have o2 : Ok (blkL ao45 ++ ([g8] ++ ([g3] ++ (M)))) (blkL ao45 ++ ([g8] ++ ([g3] ++ (M)))) w57.heap.size := (Ok.refl _ _)
       have f45 := f45.chg hc99 o1 o2 (fun _ _ h => nomatch h) (fun _ h => ml h)
       have hBg3 := hBg3.chg hc99 (fun h => nomatch h)
       have hBg8 := hBg8.chg hc99 (fun h => nomatch h)
       have hM : MS (blkL ao45 ++ ([g8] ++ ([g3] ++ (M)))) w99 := (hM.chg hc99)
       have hC := hC.trans hc99 (Ok.nil _ _)
       refine opk (v := .int .i64 (if t99 > (0 : Int) then t99 else (0 : Int))) ha rfl rfl rfl rfl rfl (fun w => by kernel_rfl) fun a ha => ?_
       refine seg ha 1 [(2, .pointer (some ⟨g3, 0, none⟩)), (3, .pointer (some ⟨g8, 0, none⟩)), (4, .slice ao45 t44.length cap45), (6, .int .i64 s52), (8, .int .i64 x58), (9, .int .i64 (if t99 > (0 : Int) then t99 else (0 : Int)))] (by kernel_rfl) fun a ha => ?_
       obtain rfl := Option.some.inj H
       exact J69 _ _ (ha.sel (by kernel_rfl)) f45 hBg3 hBg8 hC hM
      ·have H := ite_f hc91 H
       refine wp_skip ?_
       obtain rfl := Option.some.inj H
       exact J69 _ _ (ha.sel (by kernel_rfl)) f45 hBg3 hBg8 hC hM
    ·have H := ite_f hc65 H
     refine wp_exit ?_
     simp only [Exit.then, Exit.inBlock, ↓reduceIte, Nat.reduceEqDiff]
     obtain rfl := Option.some.inj H
     have hBg3 := hBg3.chg (Chg.refl [] _) (fun h => nomatch h)
     have hBg8 := hBg8.chg (Chg.refl [] _) (fun h => nomatch h)
     have hM : MS ([g8] ++ ([g3] ++ (M))) w57 := (fun x h => hM.chg (Chg.refl [] _) x (mr (h)))
     have hC := hC.trans (Chg.refl [] _) (Ok.nil _ _)
     exact J57 _ _ (ha.sel (by kernel_rfl)) hBg3 hBg8 hC hM
  have Hc52 := H
  have H := H52
  refine wp_loop_ghost (fun kk a w52 => ∃ (x53 : Int) (x54 : Int), vineryref02_rough.l1 t44 kk x53 x54 = some s52 ∧ Has a Tryd.f39.ntmps [(2, .pointer (some ⟨g3, 0, none⟩)), (3, .pointer (some ⟨g8, 0, none⟩)), (4, .slice ao45 t44.length cap45), (6, .int .i64 x53), (7, .int .i64 x54)] ∧ (Own rStr 9 w52 (blkL ao45 ++ ([g8] ++ ([g3] ++ (M)))) ao45 cap45 t44) ∧ (Box w52 g3 (cS_api_Addr (⟨(0 : Int), (List.replicate 16 (0 : Int))⟩ : S_api_Addr))) ∧ (Box w52 g8 (cS_api_Addr (⟨(16 : Int), (List.replicate 16 (0 : Int))⟩ : S_api_Addr))) ∧ (Chg [] w w52) ∧ (MS (blkL ao45 ++ ([g8] ++ ([g3] ++ (M)))) w52)) k ?_ ?_
  ·skip
   have o1 : Ok [] (blkL ao45 ++ (blkL ao13 ++ ([g8] ++ ([g3] ++ (M))))) w47.heap.size := Ok.nil _ _
   have o2 : Ok (blkL ao45 ++ ([g8] ++ ([g3] ++ (M)))) (blkL ao45 ++ (blkL ao13 ++ ([g8] ++ ([g3] ++ (M))))) w47.heap.size := (Ok.app (fun _ h => .inl (ml h)) (fun _ h => .inl (mr (mr (h)))))
   have f45 := f45.chg (Chg.refl [] _) o1 o2 (fun _ _ h => nomatch h) (fun _ h => ml h)
   have hBg3 := hBg3.chg (Chg.refl [] _) (fun h => nomatch h)
   have hBg8 := hBg8.chg (Chg.refl [] _) (fun h => nomatch h)
   have hM : MS (blkL ao45 ++ ([g8] ++ ([g3] ++ (M)))) w47 := (MS.app (fun x h => hM.chg (Chg.refl [] _) x (ml h)) (fun x h => hM.chg (Chg.refl [] _) x (mr (mr (h)))))
   have hC := hC.trans (Chg.refl [] _) (Ok.nil _ _)
   exact ⟨(-1 : Int), (1 : Int), H, (ha.sel (by kernel_rfl)), f45, hBg3, hBg8, hC, hM⟩
  ·rintro kk a w52 ⟨x53, x54, H, ha, f45, hBg3, hBg8, hC, hM⟩
   obtain _ | kk := kk
   ·exact nomatch (show none = some _ from H)
   rw [vineryref02_rough.l1] at H
   refine wp_seq_k fun K100 hK100 => ?_
   refine wp_seq_k fun K101 hK101 => ?_
   refine wp_region_lit ?_
   refine seg ha 9 [(2, .pointer (some ⟨g3, 0, none⟩)), (3, .pointer (some ⟨g8, 0, none⟩)), (4, .slice ao45 t44.length cap45), (6, .int .i64 x53), (7, .int .i64 x54), (43, .bool (if (decide (x54 < (IntKind.i64.wrap ((t44.length : Int) - (1 : Int))))) = true then (decide (x53 < (0 : Int))) else false))] (by kernel_rfl) fun a ha => ?_
   refine hK101 _ _ ?_; try clear hK101 K101
   refine cnd ha rfl (fun hc102 => ?_) (fun hc102 => ?_)
   ·have H := ite_t hc102 H
    refine wp_skip ?_
    refine hK100 _ _ ?_; try clear hK100 K100
    refine wp_seq_k fun K103 hK103 => ?_
    refine wp_block ?_
    refine wp_seq_k fun K104 hK104 => ?_
    refine wp_region_lit ?_
    refine seg ha 2 [(2, .pointer (some ⟨g3, 0, none⟩)), (3, .pointer (some ⟨g8, 0, none⟩)), (4, .slice ao45 t44.length cap45), (6, .int .i64 x53), (7, .int .i64 x54), (46, .slice ao45 t44.length cap45), (47, .int .i64 x54)] (by kernel_rfl) fun a ha => ?_
    obtain ⟨⟨hx105, hx105'⟩, H⟩ := ite_some H
    refine ix (r := rStr) ha (by kernel_rfl) (by kernel_rfl) rfl rfl rfl rfl rfl (Own.toRSl (M' := []) f45 (Ok.nil _ _) (fun _ _ h => nomatch h)) hx105 hx105' fun a ge106 oe107 cs108 hn111 hR109 hE110 ha => ?_
    rw [rd_get] at hR109
    obtain rfl := hR109
    have hE110 : ∀ j v, ([.string (bstr (rd t44 x54))] : List Value)[j]? = some v → w52.cell? ⟨ge106, oe107 + j, none⟩ = some v := hE110
    refine ld ha rfl (by kernel_rfl) rfl rfl rfl (hE110 0 (.string (bstr (rd t44 x54))) (by kernel_rfl)) fun a ha => ?_
    refine seg ha 1 [(2, .pointer (some ⟨g3, 0, none⟩)), (3, .pointer (some ⟨g8, 0, none⟩)), (4, .slice ao45 t44.length cap45), (6, .int .i64 x53), (7, .int .i64 x54), (50, .bool ((bstr (rd t44 x54)).toList == (bstr ([] : List UInt8)).toList))] (by kernel_rfl) fun a ha => ?_
    refine hK104 _ _ ?_; try clear hK104 K104
    refine cnd ha rfl (fun hc112 => ?_) (fun hc112 => ?_)
    ·have H := ite_t hc112 H
     refine wp_region_lit ?_
     refine seg ha 2 [(2, .pointer (some ⟨g3, 0, none⟩)), (3, .pointer (some ⟨g8, 0, none⟩)), (4, .slice ao45 t44.length cap45), (6, .int .i64 x54), (7, .int .i64 x54)] (by kernel_rfl) fun a ha => ?_
     refine hK103 _ _ ?_; try clear hK103 K103
     refine wp_region_lit ?_
     refine seg ha 3 [(2, .pointer (some ⟨g3, 0, none⟩)), (3, .pointer (some ⟨g8, 0, none⟩)), (4, .slice ao45 t44.length cap45), (6, .int .i64 x54), (7, .int .i64 (IntKind.i64.wrap (x54 + (1 : Int))))] (by kernel_rfl) fun a ha => ?_
     exact ⟨kk, Nat.lt_succ_self _, ⟨x54, IntKind.i64.wrap (x54 + (1 : Int)), H, (ha.sel (by kernel_rfl)), f45, hBg3, hBg8, hC, hM⟩⟩
    ·have H := ite_f hc112 H
     refine wp_skip ?_
     refine hK103 _ _ ?_; try clear hK103 K103
     refine wp_region_lit ?_
     refine seg ha 3 [(2, .pointer (some ⟨g3, 0, none⟩)), (3, .pointer (some ⟨g8, 0, none⟩)), (4, .slice ao45 t44.length cap45), (6, .int .i64 x53), (7, .int .i64 (IntKind.i64.wrap (x54 + (1 : Int))))] (by kernel_rfl) fun a ha => ?_
     exact ⟨kk, Nat.lt_succ_self _, ⟨x53, IntKind.i64.wrap (x54 + (1 : Int)), H, (ha.sel (by kernel_rfl)), f45, hBg3, hBg8, hC, hM⟩⟩
   ·have H := ite_f hc102 H
    refine wp_exit ?_
    simp only [Exit.then, Exit.inBlock, ↓reduceIte, Nat.reduceEqDiff]
    obtain rfl := Option.some.inj H
    exact J52 _ _ (ha.sel (by kernel_rfl)) f45 hBg3 hBg8 hC hM
def vineryref02_Right.l0 (a0 : S_api_Addr) : Nat → Int → Option ((Bool) ⊕ (Unit))
  | 0, _ => none
  | kk + 1, x15 => (if (decide (x15 < (16 : Int))) = true then (if 0 ≤ x15 ∧ x15 < (16 : Int) then (if ((ar a0.B (Int.toNat x15)) != (0 : Int)) = true then some (.inl ((false : Bool))) else vineryref02_Right.l0 a0 kk (IntKind.i64.wrap (x15 + (1 : Int)))) else none) else some (.inr (() : Unit)))
def vineryref02_Right.f (k : Nat) (a0 : S_api_Addr) : Option (Bool) := ((if (a0.Size != (0 : Int)) = true then (if (a0.Size != (4 : Int)) = true then some (a0.Size != (16 : Int) : Bool) else some (false : Bool)) else some (false : Bool))).bind fun s9 => (if s9 = true then some ((false : Bool)) else (vineryref02_Right.l0 a0 k a0.Size).bind fun s14 => match s14 with | .inl r => some r | .inr s14' => some ((true : Bool)))
set_option maxRecDepth 100000 in
theorem vineryref02_Right.walk (w : World) (M : List Nat) (hM : MS M w) (a0 : S_api_Addr) (k : Nat) (r : Bool) (H : vineryref02_Right.f k a0 = some r) :
    To Tryd.prog 31 [.agg (cS_api_Addr a0).toArray] w fun v w' => v = .bool r ∧ Chg [] w w' ∧ MS (M) w' := by
 unfold vineryref02_Right.f at H
 refine ent Tryd.func31 rfl [(0, .agg (cS_api_Addr a0).toArray)] rfl (by rfl) fun a ha => ?_
 have hC : Chg [] w w := Chg.refl _ _
 refine wp_seq_k fun K1 hK1 => ?_
 refine wp_region_lit ?_
 refine bx (cs := (cS_api_Addr a0)) ha rfl rfl rfl rfl rfl fun a w2 g3 hN4 ha => ?_
 have hn6 := hN4.notin hM
 have hM : MS (M) w2 := (hM.chg hN4.chg)
 have hC := hC.trans hN4.chg (Ok.nil _ _)
 have hE5 : ∀ j v, (cS_api_Addr a0)[j]? = some v → w2.cell? ⟨g3, 0 + j, none⟩ = some v := Box.cells (New.box hN4)
 refine seg ha 1 [(1, .pointer (some ⟨g3, 0, none⟩))] (by kernel_rfl) fun a ha => ?_
 refine hK1 _ _ ?_; try clear hK1 K1
 refine wp_seq_k fun K7 hK7 => ?_
 refine wp_seq_k fun K8 hK8 => ?_
 refine wp_region_lit ?_
 obtain ⟨s9, H9, H⟩ := bind_some H
 have J9 : ∀ (a : Act) (w9 : World), Has a Tryd.f31.ntmps [(1, .pointer (some ⟨g3, 0, none⟩)), (16, .bool s9)] → (∀ j v, (cS_api_Addr a0)[j]? = some v → w9.cell? ⟨g3, 0 + j, none⟩ = some v) → (g3 ∉ (M)) → (Chg [] w w9) → (MS (M) w9) → K8 a w9 := by
  intro a w9 ha hE5 hn6 hC hM
  refine hK8 _ _ ?_; try clear hK8 K8
  refine cnd ha rfl (fun hc10 => ?_) (fun hc10 => ?_)
  ·have H := ite_t hc10 H
   refine wp_seq_k fun K11 hK11 => ?_
   refine wp_region_lit ?_
   refine seg ha 1 [(2, .bool false)] (by kernel_rfl) fun a ha => ?_
   refine hK11 _ _ ?_; try clear hK11 K11
   refine wp_ret ?_
   try simp only [Exit.then, Exit.inBlock]
   obtain rfl := Option.some.inj H
   refine rt1 ha rfl rfl ?_
   exact ⟨rfl, hC, hM⟩
  ·have H := ite_f hc10 H
   refine wp_skip ?_
   refine hK7 _ _ ?_; try clear hK7 K7
   refine wp_seq_k fun K12 hK12 => ?_
   refine wp_seq_k fun K13 hK13 => ?_
   refine wp_region_lit ?_
   refine seg ha 1 [(1, .pointer (some ⟨g3, 0, none⟩)), (17, .pointer (some ⟨g3, 0, none⟩))] (by kernel_rfl) fun a ha => ?_
   refine ld ha rfl (by kernel_rfl) rfl rfl rfl (hE5 0 (.int .i64 a0.Size) (by kernel_rfl)) fun a ha => ?_
   refine seg ha 1 [(1, .pointer (some ⟨g3, 0, none⟩)), (3, .int .i64 a0.Size)] (by kernel_rfl) fun a ha => ?_
   refine hK13 _ _ ?_; try clear hK13 K13
   refine wp_block ?_
   obtain ⟨s14, H14, H⟩ := bind_some H
   have J14 : ∀ s14' (a : Act) (wx14 : World), s14 = .inr s14' → Has a Tryd.f31.ntmps [] → (Chg [] w wx14) → (MS (M) wx14) → K12 a wx14 := by
    intro s14' a wx14 hs ha hC hM
    subst hs
    refine hK12 _ _ ?_; try clear hK12 K12
    refine wp_seq_k fun K16 hK16 => ?_
    refine wp_region_lit ?_
    refine seg ha 1 [(2, .bool true)] (by kernel_rfl) fun a ha => ?_
    refine hK16 _ _ ?_; try clear hK16 K16
    refine wp_ret ?_
    try simp only [Exit.then, Exit.inBlock]
    obtain rfl := Option.some.inj H
    refine rt1 ha rfl rfl ?_
    exact ⟨rfl, hC, hM⟩
   have Hc14 := H
   have H := H14
   refine wp_loop_ghost (fun kk a w14 => ∃ (x15 : Int), vineryref02_Right.l0 a0 kk x15 = some s14 ∧ Has a Tryd.f31.ntmps [(1, .pointer (some ⟨g3, 0, none⟩)), (3, .int .i64 x15)] ∧ (∀ j v, (cS_api_Addr a0)[j]? = some v → w14.cell? ⟨g3, 0 + j, none⟩ = some v) ∧ (g3 ∉ (M)) ∧ (Chg [] w w14) ∧ (MS (M) w14)) k ?_ ?_
   ·skip
    exact ⟨a0.Size, H, (ha.sel (by kernel_rfl)), hE5, hn6, hC, hM⟩
   ·rintro kk a w14 ⟨x15, H, ha, hE5, hn6, hC, hM⟩
    obtain _ | kk := kk
    ·exact nomatch (show none = some _ from H)
    rw [vineryref02_Right.l0] at H
    refine wp_seq_k fun K17 hK17 => ?_
    refine wp_seq_k fun K18 hK18 => ?_
    refine wp_region_lit ?_
    refine seg ha 2 [(1, .pointer (some ⟨g3, 0, none⟩)), (3, .int .i64 x15), (20, .bool (decide (x15 < (16 : Int))))] (by kernel_rfl) fun a ha => ?_
    refine hK18 _ _ ?_; try clear hK18 K18
    refine cnd ha rfl (fun hc19 => ?_) (fun hc19 => ?_)
    ·have H := ite_t hc19 H
     refine wp_skip ?_
     refine hK17 _ _ ?_; try clear hK17 K17
     refine wp_seq_k fun K20 hK20 => ?_
     refine wp_block ?_
     refine wp_seq_k fun K21 hK21 => ?_
     refine wp_region_lit ?_
     refine seg ha 2 [(1, .pointer (some ⟨g3, 0, none⟩)), (3, .int .i64 x15), (23, .int .i64 x15), (24, .pointer (some ⟨g3, 0 + 1, none⟩))] (by kernel_rfl) fun a ha => ?_
     obtain ⟨⟨hx22, hx22'⟩, H⟩ := ite_some H
     have hE22 : ∀ j v, ([.int .u8 (ar a0.B (Int.toNat x15))] : List Value)[j]? = some v → w14.cell? ⟨g3, (0 + 1 + (Int.toNat x15)) + j, none⟩ = some v := cellA (m := 16) [.int .i64 a0.Size] [] hE5 (by kernel_rfl) (by omega)
     have hn22 := hn6
     refine hop (v := .pointer (some ⟨g3, (0 + 1 + (Int.toNat x15)), none⟩)) (w' := w14) ha rfl rfl rfl (ixA_run (T := 5) (N := 16) (g := g3) (o' := 0 + 1) (k := .i64) (i := x15) ha (by kernel_rfl) (by kernel_rfl) (by rfl) (by rfl) hx22 hx22' _) fun a ha => ?_
     refine ld ha rfl (by kernel_rfl) rfl rfl rfl (hE22 0 (.int .u8 (ar a0.B (Int.toNat x15))) (by kernel_rfl)) fun a ha => ?_
     refine seg ha 1 [(1, .pointer (some ⟨g3, 0, none⟩)), (3, .int .i64 x15), (27, .bool ((ar a0.B (Int.toNat x15)) != (0 : Int)))] (by kernel_rfl) fun a ha => ?_
     refine hK21 _ _ ?_; try clear hK21 K21
     refine cnd ha rfl (fun hc23 => ?_) (fun hc23 => ?_)
     ·have H := ite_t hc23 H
      refine wp_seq_k fun K24 hK24 => ?_
      refine wp_region_lit ?_
      refine seg ha 1 [(2, .bool false)] (by kernel_rfl) fun a ha => ?_
      refine hK24 _ _ ?_; try clear hK24 K24
      refine wp_ret ?_
      try simp only [Exit.then, Exit.inBlock]
      obtain rfl := Option.some.inj H
      have H := (show some _ = some _ from Hc14)
      obtain rfl := Option.some.inj H
      refine rt1 ha rfl rfl ?_
      exact ⟨rfl, hC, hM⟩
     ·have H := ite_f hc23 H
      refine wp_skip ?_
      refine hK20 _ _ ?_; try clear hK20 K20
      refine wp_region_lit ?_
      refine seg ha 3 [(1, .pointer (some ⟨g3, 0, none⟩)), (3, .int .i64 (IntKind.i64.wrap (x15 + (1 : Int))))] (by kernel_rfl) fun a ha => ?_
      exact ⟨kk, Nat.lt_succ_self _, ⟨IntKind.i64.wrap (x15 + (1 : Int)), H, (ha.sel (by kernel_rfl)), hE5, hn6, hC, hM⟩⟩
    ·have H := ite_f hc19 H
     refine wp_exit ?_
     simp only [Exit.then, Exit.inBlock, ↓reduceIte, Nat.reduceEqDiff]
     obtain rfl := Option.some.inj H
     exact J14 _ _ _ rfl (ha.sel (by kernel_rfl)) hC hM
 have H := H9
 refine seg ha 1 [(1, .pointer (some ⟨g3, 0, none⟩)), (4, .pointer (some ⟨g3, 0, none⟩))] (by kernel_rfl) fun a ha => ?_
 refine ld ha rfl (by kernel_rfl) rfl rfl rfl (hE5 0 (.int .i64 a0.Size) (by kernel_rfl)) fun a ha => ?_
 refine seg ha 2 [(7, .bool (a0.Size != (0 : Int))), (1, .pointer (some ⟨g3, 0, none⟩))] (by kernel_rfl) fun a ha => ?_
 rcases Bool.eq_false_or_eq_true (a0.Size != (0 : Int)) with hb25 | hb25
 ·have ha := ha.lit hb25
  have H := ite_t hb25 H
  refine sgh ha 1 [2] [(1, .pointer (some ⟨g3, 0, none⟩)), (7, .bool true), (8, .pointer (some ⟨g3, 0, none⟩))] (by kernel_rfl) fun a ha => ?_
  refine ld ha rfl (by kernel_rfl) rfl rfl rfl (hE5 0 (.int .i64 a0.Size) (by kernel_rfl)) fun a ha => ?_
  refine sgh ha 3 [2, 3, 0] [(12, .bool (a0.Size != (4 : Int))), (1, .pointer (some ⟨g3, 0, none⟩))] (by kernel_rfl) fun a ha => ?_
  rcases Bool.eq_false_or_eq_true (a0.Size != (4 : Int)) with hb26 | hb26
  ·have ha := ha.lit hb26
   have H := ite_t hb26 H
   refine sgh ha 1 [2] [(1, .pointer (some ⟨g3, 0, none⟩)), (12, .bool true), (13, .pointer (some ⟨g3, 0, none⟩))] (by kernel_rfl) fun a ha => ?_
   refine ld ha rfl (by kernel_rfl) rfl rfl rfl (hE5 0 (.int .i64 a0.Size) (by kernel_rfl)) fun a ha => ?_
   refine sgh ha 2 [2, 3] [(1, .pointer (some ⟨g3, 0, none⟩)), (16, .bool (a0.Size != (16 : Int)))] (by kernel_rfl) fun a ha => ?_
   obtain rfl := Option.some.inj H
   exact J9 _ _ (ha.sel (by kernel_rfl)) hE5 hn6 hC hM
  ·have ha := ha.lit hb26
   have H := ite_f hb26 H
   refine sgh ha 4 [1, 1, 1, 4] [(1, .pointer (some ⟨g3, 0, none⟩)), (16, .bool false)] (by kernel_rfl) fun a ha => ?_
   obtain rfl := Option.some.inj H
   exact J9 _ _ (ha.sel (by kernel_rfl)) hE5 hn6 hC hM
 ·have ha := ha.lit hb25
  have H := ite_f hb25 H
  refine sgh ha 9 [1, 1, 1, 4, 0, 1, 1, 1, 4] [(1, .pointer (some ⟨g3, 0, none⟩)), (16, .bool false)] (by kernel_rfl) fun a ha => ?_
  obtain rfl := Option.some.inj H
  exact J9 _ _ (ha.sel (by kernel_rfl)) hE5 hn6 hC hM
def vineryref02_Number.f : Nat → Int → Int → Option (List UInt8)
  | 0, _, _ => none
  | k + 1, a0, a1 => (if (decide (a0 < a1)) = true then (if 0 ≤ a0 ∧ a0 ≤ (IntKind.i64.wrap (a0 + (1 : Int))) ∧ (IntKind.i64.wrap (a0 + (1 : Int))) ≤ (([48, 49, 50, 51, 52, 53, 54, 55, 56, 57, 97, 98, 99, 100, 101, 102] : List UInt8).length : Int) then some ((((([48, 49, 50, 51, 52, 53, 54, 55, 56, 57, 97, 98, 99, 100, 101, 102] : List UInt8).take (Int.toNat (IntKind.i64.wrap (a0 + (1 : Int))))).drop (Int.toNat a0)) : List UInt8)) else none) else (if a1 ≠ 0 then (vineryref02_Number.f k (IntKind.i64.wrap (Int.tdiv a0 a1)) a1).bind fun t10 => (if a1 ≠ 0 then (if a1 ≠ 0 then (if 0 ≤ (Int.tmod a0 a1) ∧ (Int.tmod a0 a1) ≤ (IntKind.i64.wrap ((Int.tmod a0 a1) + (1 : Int))) ∧ (IntKind.i64.wrap ((Int.tmod a0 a1) + (1 : Int))) ≤ (([48, 49, 50, 51, 52, 53, 54, 55, 56, 57, 97, 98, 99, 100, 101, 102] : List UInt8).length : Int) then (if (t10 ++ ((([48, 49, 50, 51, 52, 53, 54, 55, 56, 57, 97, 98, 99, 100, 101, 102] : List UInt8).take (Int.toNat (IntKind.i64.wrap ((Int.tmod a0 a1) + (1 : Int))))).drop (Int.toNat (Int.tmod a0 a1)))).length ≤ 9223372036854775807 then some ((t10 ++ ((([48, 49, 50, 51, 52, 53, 54, 55, 56, 57, 97, 98, 99, 100, 101, 102] : List UInt8).take (Int.toNat (IntKind.i64.wrap ((Int.tmod a0 a1) + (1 : Int))))).drop (Int.toNat (Int.tmod a0 a1))) : List UInt8)) else none) else none) else none) else none) else none))
set_option maxRecDepth 100000 in
theorem vineryref02_Number.walkr : ∀ (k : Nat) (w : World) (M : List Nat) (hM : MS M w) (a0 : Int) (a1 : Int) (r : List UInt8) (H : vineryref02_Number.f k a0 a1 = some r),
    To Tryd.prog 44 [.int .i64 a0, .int .i64 a1] w fun v w' => v = .string (bstr r) ∧ Chg [] w w' ∧ MS (M) w'
  | 0, w, M, hM, a0, a1, r, H => nomatch (show none = some _ from H)
  | k + 1, w, M, hM, a0, a1, r, H => by
     rw [vineryref02_Number.f] at H
     refine ent Tryd.func44 rfl [(0, .int .i64 a0), (1, .int .i64 a1)] rfl (by rfl) fun a ha => ?_
     have hC : Chg [] w w := Chg.refl _ _
     refine wp_seq_k fun K1 hK1 => ?_
     refine wp_region_lit ?_
     refine seg ha 1 [(0, .int .i64 a0), (1, .int .i64 a1)] (by kernel_rfl) fun a ha => ?_
     refine hK1 _ _ ?_; try clear hK1 K1
     refine wp_seq_k fun K2 hK2 => ?_
     refine wp_region_lit ?_
     refine seg ha 1 [(0, .int .i64 a0), (1, .int .i64 a1), (5, .string (bstr ([48, 49, 50, 51, 52, 53, 54, 55, 56, 57, 97, 98, 99, 100, 101, 102] : List UInt8)))] (by kernel_rfl) fun a ha => ?_
     refine hK2 _ _ ?_; try clear hK2 K2
     refine wp_seq_k fun K3 hK3 => ?_
     refine wp_seq_k fun K4 hK4 => ?_
     refine wp_region_lit ?_
     refine seg ha 3 [(0, .int .i64 a0), (1, .int .i64 a1), (5, .string (bstr ([48, 49, 50, 51, 52, 53, 54, 55, 56, 57, 97, 98, 99, 100, 101, 102] : List UInt8))), (8, .bool (decide (a0 < a1)))] (by kernel_rfl) fun a ha => ?_
     refine hK4 _ _ ?_; try clear hK4 K4
     refine cnd ha rfl (fun hc5 => ?_) (fun hc5 => ?_)
     ·have H := ite_t hc5 H
      refine wp_seq_k fun K6 hK6 => ?_
      refine wp_region_lit ?_
      refine seg ha 4 [(9, .string (bstr ([48, 49, 50, 51, 52, 53, 54, 55, 56, 57, 97, 98, 99, 100, 101, 102] : List UInt8))), (10, .int .i64 a0), (12, .int .i64 (IntKind.i64.wrap (a0 + (1 : Int))))] (by kernel_rfl) fun a ha => ?_
      obtain ⟨⟨hx7, hx7', hx7''⟩, H⟩ := ite_some H
      refine hop (v := .string (bstr ((([48, 49, 50, 51, 52, 53, 54, 55, 56, 57, 97, 98, 99, 100, 101, 102] : List UInt8).take (Int.toNat (IntKind.i64.wrap (a0 + (1 : Int))))).drop (Int.toNat a0)))) (w' := w) ha rfl rfl rfl (ssl_run (s := ([48, 49, 50, 51, 52, 53, 54, 55, 56, 57, 97, 98, 99, 100, 101, 102] : List UInt8)) (l := a0) (h := (IntKind.i64.wrap (a0 + (1 : Int)))) ha (by kernel_rfl) (by rfl) (by rfl) (by rfl) hx7 hx7' hx7'' _) fun a ha => ?_
      refine seg ha 1 [(4, .string (bstr ((([48, 49, 50, 51, 52, 53, 54, 55, 56, 57, 97, 98, 99, 100, 101, 102] : List UInt8).take (Int.toNat (IntKind.i64.wrap (a0 + (1 : Int))))).drop (Int.toNat a0))))] (by kernel_rfl) fun a ha => ?_
      refine hK6 _ _ ?_; try clear hK6 K6
      refine wp_ret ?_
      try simp only [Exit.then, Exit.inBlock]
      obtain rfl := Option.some.inj H
      refine rt1 ha rfl rfl ?_
      exact ⟨rfl, hC, hM⟩
     ·have H := ite_f hc5 H
      refine wp_skip ?_
      refine hK3 _ _ ?_; try clear hK3 K3
      refine wp_seq_k fun K8 hK8 => ?_
      refine drq0 (fun w' => Chg [] w w') (by kernel_rfl) (by kernel_rfl) (fun _ h => h) ?_
      refine qp 0 (.int .i64 a0) ha rfl rfl rfl (by kernel_rfl) fun a ha => ?_
      refine qp 0 (.int .i64 a1) ha rfl rfl rfl (by kernel_rfl) fun a ha => ?_
      obtain ⟨hx9, H⟩ := ite_some H
      refine qv (v := .int .i64 (IntKind.i64.wrap (Int.tdiv a0 a1))) ha rfl rfl rfl (fun w' hs => quo_run ha (by rfl) (by rfl) hx9 w') fun a ha => ?_
      refine qp 0 (.int .i64 a1) ha rfl rfl rfl (by kernel_rfl) fun a ha => ?_
      obtain ⟨t10, H10, H⟩ := bind_some H
      refine qc (.string (bstr t10)) ha (by rfl) (by kernel_rfl) (by rfl) (by rfl) (by rfl) (fun w' hs => (vineryref02_Number.walkr k w' [] (MS.nil _) (IntKind.i64.wrap (Int.tdiv a0 a1)) a1 _ H10).mono fun v w'' ⟨hv, hc, _⟩ => ⟨hv, hs.trans hc (Ok.nil _ _)⟩) fun a ha => ?_
      refine qp 0 (.string (bstr ([48, 49, 50, 51, 52, 53, 54, 55, 56, 57, 97, 98, 99, 100, 101, 102] : List UInt8))) ha rfl rfl rfl (by kernel_rfl) fun a ha => ?_
      refine qp 0 (.int .i64 a0) ha rfl rfl rfl (by kernel_rfl) fun a ha => ?_
      refine qp 0 (.int .i64 a1) ha rfl rfl rfl (by kernel_rfl) fun a ha => ?_
      obtain ⟨hx11, H⟩ := ite_some H
      refine qv (v := .int .i64 (Int.tmod a0 a1)) ha rfl rfl rfl (fun w' hs => rem_run ha (by rfl) (by rfl) hx11 w') fun a ha => ?_
      refine qp 0 (.int .i64 a0) ha rfl rfl rfl (by kernel_rfl) fun a ha => ?_
      refine qp 0 (.int .i64 a1) ha rfl rfl rfl (by kernel_rfl) fun a ha => ?_
      obtain ⟨hx12, H⟩ := ite_some H
      refine qv (v := .int .i64 (Int.tmod a0 a1)) ha rfl rfl rfl (fun w' hs => rem_run ha (by rfl) (by rfl) hx12 w') fun a ha => ?_
      refine qp 0 (.int .i64 (IntKind.i64.wrap ((Int.tmod a0 a1) + (1 : Int)))) ha rfl rfl rfl (by kernel_rfl) fun a ha => ?_
      obtain ⟨⟨hx13, hx13', hx13''⟩, H⟩ := ite_some H
      refine qv (v := .string (bstr ((([48, 49, 50, 51, 52, 53, 54, 55, 56, 57, 97, 98, 99, 100, 101, 102] : List UInt8).take (Int.toNat (IntKind.i64.wrap ((Int.tmod a0 a1) + (1 : Int))))).drop (Int.toNat (Int.tmod a0 a1))))) ha rfl rfl rfl (fun w' hs => ssl_run (s := ([48, 49, 50, 51, 52, 53, 54, 55, 56, 57, 97, 98, 99, 100, 101, 102] : List UInt8)) (l := (Int.tmod a0 a1)) (h := (IntKind.i64.wrap ((Int.tmod a0 a1) + (1 : Int)))) ha (by kernel_rfl) (by rfl) (by rfl) (by rfl) hx13 hx13' hx13'' w') fun a ha => ?_
      obtain ⟨hx14, H⟩ := ite_some H
      refine qv (v := .string (bstr (t10 ++ ((([48, 49, 50, 51, 52, 53, 54, 55, 56, 57, 97, 98, 99, 100, 101, 102] : List UInt8).take (Int.toNat (IntKind.i64.wrap ((Int.tmod a0 a1) + (1 : Int))))).drop (Int.toNat (Int.tmod a0 a1)))))) ha rfl rfl rfl (fun w' hs => sadd_run ha rfl rfl hx14 w') fun a ha => ?_
      refine qp 0 (.string (bstr (t10 ++ ((([48, 49, 50, 51, 52, 53, 54, 55, 56, 57, 97, 98, 99, 100, 101, 102] : List UInt8).take (Int.toNat (IntKind.i64.wrap ((Int.tmod a0 a1) + (1 : Int))))).drop (Int.toNat (Int.tmod a0 a1)))))) ha rfl rfl rfl (by kernel_rfl) fun a ha => ?_
      refine wpQuiet_nil ?_
      intro w15 hc16
      have hM : MS (M) w15 := (hM.chg hc16)
      have hC := hC.trans hc16 (Ok.nil _ _)
      refine wpl_end ?_
      refine hK8 _ _ ?_; try clear hK8 K8
      refine wp_ret ?_
      try simp only [Exit.then, Exit.inBlock]
      obtain rfl := Option.some.inj H
      refine rt1 ha rfl rfl ?_
      exact ⟨rfl, hC, hM⟩
theorem vineryref02_Number.walk (w : World) (M : List Nat) (hM : MS M w) (a0 : Int) (a1 : Int) (k : Nat) (r : List UInt8) (H : vineryref02_Number.f k a0 a1 = some r) :
    To Tryd.prog 44 [.int .i64 a0, .int .i64 a1] w fun v w' => v = .string (bstr r) ∧ Chg [] w w' ∧ MS (M) w' := vineryref02_Number.walkr k w M hM a0 a1 r H
end Go.E
