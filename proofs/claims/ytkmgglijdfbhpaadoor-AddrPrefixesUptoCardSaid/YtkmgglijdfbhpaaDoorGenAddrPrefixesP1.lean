/- What the functions that the law reaches compute, and the walks that show it. -/
import Derived.Test.YtkmgglijdfbhpaaDoorEngU
import Derived.Test.YtkmgglijdfbhpaaDoorShelf
import Derived.Test.YtkmgglijdfbhpaaDoorProg
import Derived.Test.YtkmgglijdfbhpaaDoorGenAddrPrefixesP0
set_option linter.unusedVariables false
set_option linter.unusedSimpArgs false
namespace Go.E
open Go.RowKit Go.Proofs
def addr_written.l0 (k : Nat) (a0 : List Int) : Nat → (List (List UInt8)) → Int → Option (List (List UInt8))
  | 0, _, _ => none
  | kk + 1, x8, x9 => (if (decide (x9 < (a0.length : Int))) = true then (if 0 ≤ x9 ∧ x9 < (a0.length : Int) then (strconv_FormatInt_83.f k (rd a0 x9) (16 : Int)).bind fun t26 => (if (x8.length + ([t26] : List (List UInt8)).length) * 16 ≤ 140737488355328 then addr_written.l0 k a0 kk (x8 ++ ([t26] : List (List UInt8))) (IntKind.i64.wrap (x9 + (1 : Int))) else none) else none) else some (x8 : List (List UInt8)))
def addr_written.f (k : Nat) (a0 : List Int) : Option (List UInt8) := (addr_written.l0 k a0 k ([] : List (List UInt8)) (0 : Int)).bind fun s6 => (strings_Join.f s6 ([58] : List UInt8)).bind fun t12 => some ((t12 : List UInt8))
set_option maxRecDepth 100000 in
theorem addr_written.walk (w : World) (M : List Nat) (hM : MS M w) (hG : GF w M) (a0 : List Int) (ao1 : Option Addr) (cap1 : Nat) (f1 : RSl (rInt .i64) 3 w M ao1 cap1 a0) (k : Nat) (r : List UInt8) (H : addr_written.f k a0 = some r) :
    To Tryd.prog 67 [.slice ao1 a0.length cap1] w fun v w' => v = .string (bstr r) ∧ Chg [] w w' ∧ MS (M) w' := by
 unfold addr_written.f at H
 refine ent Tryd.func67 rfl [(0, .slice ao1 a0.length cap1)] rfl (by rfl) fun a ha => ?_
 have hC : Chg [] w w := Chg.refl _ _
 refine wp_seq_k fun K2 hK2 => ?_
 refine wp_region_lit ?_
 refine seg ha 1 [(0, .slice ao1 a0.length cap1)] (by kernel_rfl) fun a ha => ?_
 refine hK2 _ _ ?_; try clear hK2 K2
 refine wp_seq_k fun K3 hK3 => ?_
 refine wp_region_lit ?_
 refine seg ha 1 [(0, .slice ao1 a0.length cap1), (3, .slice none 0 0)] (by kernel_rfl) fun a ha => ?_
 refine hK3 _ _ ?_; try clear hK3 K3
 refine wp_seq_k fun K4 hK4 => ?_
 refine wp_seq_k fun K5 hK5 => ?_
 refine wp_region_lit ?_
 refine seg ha 3 [(3, .slice none 0 0), (6, .slice ao1 a0.length cap1), (7, .int .i64 (a0.length : Int)), (8, .int .i64 (0 : Int))] (by kernel_rfl) fun a ha => ?_
 refine hK5 _ _ ?_; try clear hK5 K5
 refine wp_block ?_
 obtain ⟨s6, H6, H⟩ := bind_some H
 have J6 : ∀ (a : Act) (wx6 : World) (ao10 : Option Addr) (cap10 : Nat), Has a Tryd.f67.ntmps [(3, .slice ao10 s6.length cap10)] → (Own rStr 9 wx6 (blkL ao10 ++ (M)) ao10 cap10 s6) → (∀ x ∈ blkL ao10, w.heap.size ≤ x) → (∀ x ∈ blkL ao10, x ∉ M) → (GF wx6 (blkL ao10 ++ (M))) → (Chg [] w wx6) → (MS (blkL ao10 ++ (M)) wx6) → K4 a wx6 := by
  intro a wx6 ao10 cap10 ha f10 e_i10 p_i10_M hG hC hM
  refine hK4 _ _ ?_; try clear hK4 K4
  refine wp_seq_k fun K11 hK11 => ?_
  refine wp_region_lit ?_
  refine seg ha 1 [(18, .slice ao10 s6.length cap10)] (by kernel_rfl) fun a ha => ?_
  have hML : MS (M) wx6 := MS.rest hM (fun _ h => mr (h))
  have oL : Ok (M) (blkL ao10 ++ (M)) wx6.heap.size := (fun _ h => .inl (mr (h)))
  obtain ⟨t12, H12, H⟩ := bind_some H
  refine cl ha (by rfl) (by kernel_rfl) (by rfl) (by rfl) (by rfl) (strings_Join.walk wx6 _ hML s6 ao10 cap10 (Own.toRSl (M' := M) f10 oL (fun x hx hm => p_i10_M x hx hm)) ([58] : List UInt8) _ H12) ?_
  rintro _ w12 ⟨rfl, hc12, hMn⟩ a ha
  have o1 : Ok [] (blkL ao10 ++ (M)) wx6.heap.size := Ok.nil _ _
  have o2 : Ok (blkL ao10 ++ (M)) (blkL ao10 ++ (M)) wx6.heap.size := (Ok.refl _ _)
  have hG := hG.chg hc12 o1 o2
  have f10 := f10.chg hc12 o1 o2 (fun _ _ h => nomatch h) (fun _ h => ml h)
  have hM : MS (blkL ao10 ++ (M)) w12 := (hM.chg hc12)
  have hC := hC.trans hc12 (Ok.nil _ _)
  refine seg ha 1 [(2, .string (bstr t12))] (by kernel_rfl) fun a ha => ?_
  refine hK11 _ _ ?_; try clear hK11 K11
  refine wp_ret ?_
  try simp only [Exit.then, Exit.inBlock]
  have o1 : Ok [] (blkL ao10 ++ (M)) w12.heap.size := Ok.nil _ _
  have o2 : Ok (M) (blkL ao10 ++ (M)) w12.heap.size := (fun _ h => .inl (mr (h)))
  have hG := hG.chg (Chg.refl [] _) o1 o2
  have hM : MS (M) w12 := (fun x h => hM.chg (Chg.refl [] _) x (mr (h)))
  have hC := hC.trans (Chg.refl [] _) (Ok.nil _ _)
  obtain rfl := Option.some.inj H
  refine rt1 ha rfl rfl ?_
  exact ⟨rfl, hC, hM⟩
 have Hc6 := H
 have H := H6
 refine wp_loop_ghost (fun kk a w6 => ∃ (x8 : List (List UInt8)) (x9 : Int) (ao7 : Option Addr) (cap7 : Nat), addr_written.l0 k a0 kk x8 x9 = some s6 ∧ Has a Tryd.f67.ntmps [(3, .slice ao7 x8.length cap7), (6, .slice ao1 a0.length cap1), (7, .int .i64 (a0.length : Int)), (8, .int .i64 x9)] ∧ (Own rStr 9 w6 (blkL ao7 ++ (M)) ao7 cap7 x8) ∧ (RSl (rInt .i64) 3 w6 (blkL ao7 ++ (M)) ao1 cap1 a0) ∧ (∀ x ∈ blkL ao7, w.heap.size ≤ x) ∧ (∀ x ∈ blkL ao7, x ∉ M) ∧ (GF w6 (blkL ao7 ++ (M))) ∧ (Chg [] w w6) ∧ (MS (blkL ao7 ++ (M)) w6)) k ?_ ?_
 ·skip
  have o1 : Ok [] (M) w.heap.size := Ok.nil _ _
  have o2 : Ok (blkL none ++ (M)) (M) w.heap.size := (Ok.app (fun _ h => nomatch h) (Ok.refl _ _))
  have hG := hG.chg (Chg.refl [] _) o1 o2
  have f1 := f1.chg (Chg.refl [] _) o1 o2
  have p_z13_M : ∀ x ∈ blkL none, x ∉ M := fun x hx hy => absurd (hM x (hy)) (Nat.not_lt.2 ((fun _ h => nomatch h) x hx))
  have e_z13 : ∀ x ∈ blkL none, w.heap.size ≤ x := fun x hx => Nat.le_trans hC.size ((fun _ h => nomatch h) x hx)
  have hM : MS (blkL none ++ (M)) w := (MS.app (fun _ h => nomatch h) (hM.chg (Chg.refl [] _)))
  have hC := hC.trans (Chg.refl [] _) (Ok.nil _ _)
  exact ⟨([] : List (List UInt8)), (0 : Int), none, 0, H, (ha.sel (by kernel_rfl)), Own.nil, f1, e_z13, p_z13_M, hG, hC, hM⟩
 ·rintro kk a w6 ⟨x8, x9, ao7, cap7, H, ha, f7, f1, e_i7, p_i7_M, hG, hC, hM⟩
  obtain _ | kk := kk
  ·exact nomatch (show none = some _ from H)
  rw [addr_written.l0] at H
  refine wp_seq_k fun K14 hK14 => ?_
  refine wp_region_lit ?_
  refine seg ha 1 [(3, .slice ao7 x8.length cap7), (6, .slice ao1 a0.length cap1), (7, .int .i64 (a0.length : Int)), (8, .int .i64 x9), (9, .bool (decide (x9 < (a0.length : Int))))] (by kernel_rfl) fun a ha => ?_
  refine hK14 _ _ ?_; try clear hK14 K14
  refine wp_seq_k fun K15 hK15 => ?_
  refine cnd ha rfl (fun hc16 => ?_) (fun hc16 => ?_)
  ·have H := ite_t hc16 H
   refine wp_skip ?_
   refine hK15 _ _ ?_; try clear hK15 K15
   refine wp_seq_k fun K17 hK17 => ?_
   refine wp_block ?_
   refine wp_seq_k fun K18 hK18 => ?_
   refine wp_region_lit ?_
   obtain ⟨⟨hx19, hx19'⟩, H⟩ := ite_some H
   refine ix (r := (rInt .i64)) ha (by kernel_rfl) (by kernel_rfl) rfl rfl rfl rfl rfl f1 hx19 hx19' fun a ge20 oe21 cs22 hn25 hR23 hE24 ha => ?_
   rw [rd_get] at hR23
   obtain rfl := hR23
   have hE24 : ∀ j v, ([.int .i64 (rd a0 x9)] : List Value)[j]? = some v → w6.cell? ⟨ge20, oe21 + j, none⟩ = some v := hE24
   refine ld ha rfl (by kernel_rfl) rfl rfl rfl (hE24 0 (.int .i64 (rd a0 x9)) (by kernel_rfl)) fun a ha => ?_
   refine seg ha 1 [(3, .slice ao7 x8.length cap7), (5, .int .i64 (rd a0 x9)), (6, .slice ao1 a0.length cap1), (7, .int .i64 (a0.length : Int)), (8, .int .i64 x9)] (by kernel_rfl) fun a ha => ?_
   refine hK18 _ _ ?_; try clear hK18 K18
   refine wp_region_lit ?_
   refine seg ha 2 [(6, .slice ao1 a0.length cap1), (7, .int .i64 (a0.length : Int)), (8, .int .i64 x9), (12, .slice ao7 x8.length cap7), (13, .int .i64 (rd a0 x9))] (by kernel_rfl) fun a ha => ?_
   obtain ⟨t26, H26, H⟩ := bind_some H
   refine cl ha (by rfl) (by kernel_rfl) (by rfl) (by rfl) (by rfl) (strconv_FormatInt_83.walk w6 _ hM hG (rd a0 x9) (16 : Int) k _ H26) ?_
   rintro _ w26 ⟨rfl, hc26, hMn⟩ a ha
   have o1 : Ok [] (blkL ao7 ++ (M)) w6.heap.size := Ok.nil _ _
   have o2 : Ok (blkL ao7 ++ (M)) (blkL ao7 ++ (M)) w6.heap.size := (Ok.refl _ _)
   have hG := hG.chg hc26 o1 o2
   have f1 := f1.chg hc26 o1 o2
   have f7 := f7.chg hc26 o1 o2 (fun _ _ h => nomatch h) (fun _ h => ml h)
   have hM : MS (blkL ao7 ++ (M)) w26 := (hM.chg hc26)
   have hC := hC.trans hc26 (Ok.nil _ _)
   refine bsl (vals := ([.string (bstr t26)] : List Value)) (T := 9) ha rfl (([.string (bstr t26)] : List Value) ++ ([] : List Value)) (fun w => by kernel_rfl) rfl rfl rfl fun a w27 g28 hN29 ha => ?_
   have o1 : Ok [] (blkL ao7 ++ (M)) w26.heap.size := Ok.nil _ _
   have o2 : Ok ([g28] ++ (blkL ao7 ++ (M))) (blkL ao7 ++ (M)) w26.heap.size := (Ok.app (hN29.ok _) (Ok.refl _ _))
   have hG := hG.chg hN29.chg o1 o2
   have f1 := f1.chg hN29.chg o1 o2
   have f7 := f7.chg hN29.chg o1 o2 (fun _ _ h => nomatch h) (fun _ h => mr (ml h))
   have p_i30_i7 : ∀ x ∈ [g28], x ∉ (blkL ao7) := fun x hx hy => absurd (hM x (ml hy)) (Nat.not_lt.2 ((hN29.ge1) x hx))
   have p_i30_M : ∀ x ∈ [g28], x ∉ M := fun x hx hy => absurd (hM x (mr (hy))) (Nat.not_lt.2 ((hN29.ge1) x hx))
   have e_i30 : ∀ x ∈ [g28], w.heap.size ≤ x := fun x hx => Nat.le_trans hC.size ((hN29.ge1) x hx)
   have hM : MS ([g28] ++ (blkL ao7 ++ (M))) w27 := (MS.app hN29.ms (hM.chg hN29.chg))
   have hC := hC.trans hN29.chg (Ok.nil _ _)
   have f31 : Own rStr 9 w27 ([g28] ++ (blkL ao7 ++ (M))) (some ⟨g28, 0, none⟩) 1 ([t26] : List (List UInt8)) := hN29.own ⟨([.string (bstr t26)] : List Value), _, rfl, rfl, rfl⟩ (Nat.le_of_ble_eq_true rfl)
   obtain ⟨hx32, H⟩ := ite_some H
   refine app (r := rStr) (xs := x8) (ys := ([t26] : List (List UInt8))) ha (ElemT.mk' (bytes := 16) (by kernel_rfl)) rfl rfl rfl rfl rfl f7 f31.src hx32 (by decide) fun a w33 ao34 cap34 hO34 hc34 hk34 hl34 ha => ?_
   have o1 : Ok (blkL ao7) ([g28] ++ (blkL ao7 ++ (M))) w27.heap.size := (fun _ h => .inl (mr (ml h)))
   have o2 : Ok (blkL ao34 ++ ([g28] ++ (M))) ([g28] ++ (blkL ao7 ++ (M))) w27.heap.size := (Ok.app (Ok.to hk34 (fun _ h => mr (ml h))) (Ok.app (fun _ h => .inl (ml h)) (fun _ h => .inl (mr (mr (h))))))
   have hG := hG.chg hc34 o1 o2
   have f1 := f1.chg hc34 o1 o2
   have f31 := f31.chg hc34 o1 o2 p_i30_i7 (fun _ h => mr (ml h))
   have p_i34_i30 : ∀ x ∈ blkL ao34, x ∉ ([g28]) := fun x hx hy => (hk34 x hx).elim (fun h => (fun x hx hy => p_i30_i7 x hy hx) x h hy) (fun h => absurd (hM x (ml hy)) (Nat.not_lt.2 h))
   have p_i34_M : ∀ x ∈ blkL ao34, x ∉ M := fun x hx hy => (hk34 x hx).elim (fun h => p_i7_M x h hy) (fun h => absurd (hM x (mr (mr (hy)))) (Nat.not_lt.2 h))
   have e_i34 : ∀ x ∈ blkL ao34, w.heap.size ≤ x := fun x hx => (hk34 x hx).elim (e_i7 x) (Nat.le_trans hC.size)
   have hM : MS (blkL ao34 ++ ([g28] ++ (M))) w33 := (MS.app hl34 (MS.app (fun x h => hM.chg hc34 x (ml h)) (fun x h => hM.chg hc34 x (mr (mr (h))))))
   have hC := hC.trans hc34 (fun x h => .inr (e_i7 x h))
   have f34 := hO34.chg (M' := blkL ao34 ++ ([g28] ++ (M))) (Chg.refl [] _) (Ok.nil _ _) (Ok.app (fun _ h => .inl (ml h)) (Ok.to (Ok.app (fun _ h => .inl (ml h)) (fun _ h => .inl (mr (mr (h))))) (fun _ h => mr h))) (fun _ _ h => nomatch h) (fun _ h => ml h)
   refine seg ha 1 [(3, .slice ao34 (x8 ++ ([t26] : List (List UInt8))).length cap34), (6, .slice ao1 a0.length cap1), (7, .int .i64 (a0.length : Int)), (8, .int .i64 x9)] (by kernel_rfl) fun a ha => ?_
   refine hK17 _ _ ?_; try clear hK17 K17
   refine wp_region_lit ?_
   refine seg ha 2 [(3, .slice ao34 (x8 ++ ([t26] : List (List UInt8))).length cap34), (6, .slice ao1 a0.length cap1), (7, .int .i64 (a0.length : Int)), (8, .int .i64 (IntKind.i64.wrap (x9 + (1 : Int))))] (by kernel_rfl) fun a ha => ?_
   have o1 : Ok [] (blkL ao34 ++ ([g28] ++ (M))) w33.heap.size := Ok.nil _ _
   have o2 : Ok (blkL ao34 ++ (M)) (blkL ao34 ++ ([g28] ++ (M))) w33.heap.size := (Ok.app (fun _ h => .inl (ml h)) (fun _ h => .inl (mr (mr (h)))))
   have hG := hG.chg (Chg.refl [] _) o1 o2
   have f1 := f1.chg (Chg.refl [] _) o1 o2
   have f34 := f34.chg (Chg.refl [] _) o1 o2 (fun _ _ h => nomatch h) (fun _ h => ml h)
   have hM : MS (blkL ao34 ++ (M)) w33 := (MS.app (fun x h => hM.chg (Chg.refl [] _) x (ml h)) (fun x h => hM.chg (Chg.refl [] _) x (mr (mr (h)))))
   have hC := hC.trans (Chg.refl [] _) (Ok.nil _ _)
   exact ⟨kk, Nat.lt_succ_self _, ⟨(x8 ++ ([t26] : List (List UInt8))), IntKind.i64.wrap (x9 + (1 : Int)), ao34, cap34, H, (ha.sel (by kernel_rfl)), f34, f1, e_i34, p_i34_M, hG, hC, hM⟩⟩
  ·have H := ite_f hc16 H
   refine wp_exit ?_
   simp only [Exit.then, Exit.inBlock, ↓reduceIte, Nat.reduceEqDiff]
   obtain rfl := Option.some.inj H
   exact J6 _ _ ao7 cap7 (ha.sel (by kernel_rfl)) f7 e_i7 p_i7_M hG hC hM
def addr_text6.f (k : Nat) (a0 : S_api_Addr) : Option (List UInt8) := (addr_numbers.f k a0).bind fun t8 => (addr_gap.f k t8).bind fun t16 => (if (decide (t16.2 < (2 : Int))) = true then (addr_written.f k (arL 8 t8)).bind fun t22 => some ((t22 : List UInt8)) else (if 0 ≤ (0 : Int) ∧ (0 : Int) ≤ t16.1 ∧ t16.1 ≤ (8 : Int) then (addr_written.f k (((arL 8 t8).take (Int.toNat t16.1)).drop (Int.toNat (0 : Int)))).bind fun t26 => (if (t26 ++ ([58, 58] : List UInt8)).length ≤ 9223372036854775807 then (if 0 ≤ (IntKind.i64.wrap (t16.1 + t16.2)) ∧ (IntKind.i64.wrap (t16.1 + t16.2)) ≤ (8 : Int) ∧ (8 : Int) ≤ (8 : Int) then (addr_written.f k (((arL 8 t8).take (Int.toNat (8 : Int))).drop (Int.toNat (IntKind.i64.wrap (t16.1 + t16.2))))).bind fun t30 => (if ((t26 ++ ([58, 58] : List UInt8)) ++ t30).length ≤ 9223372036854775807 then some (((t26 ++ ([58, 58] : List UInt8)) ++ t30 : List UInt8)) else none) else none) else none) else none))
set_option maxRecDepth 100000 in
theorem addr_text6.walk (w : World) (M : List Nat) (hM : MS M w) (hG : GF w M) (a0 : S_api_Addr) (k : Nat) (r : List UInt8) (H : addr_text6.f k a0 = some r) :
    To Tryd.prog 42 [.agg (cS_api_Addr a0).toArray] w fun v w' => v = .string (bstr r) ∧ Chg [] w w' ∧ MS (M) w' := by
 unfold addr_text6.f at H
 refine ent Tryd.func42 rfl [(0, .agg (cS_api_Addr a0).toArray)] rfl (by rfl) fun a ha => ?_
 have hC : Chg [] w w := Chg.refl _ _
 refine wp_seq_k fun K1 hK1 => ?_
 refine wp_region_lit ?_
 refine bx (cs := (cS_api_Addr a0)) ha rfl rfl rfl rfl rfl fun a w2 g3 hN4 ha => ?_
 have hn6 := hN4.notin hM
 have o1 : Ok [] (M) w.heap.size := Ok.nil _ _
 have o2 : Ok (M) (M) w.heap.size := (Ok.refl _ _)
 have hG := hG.chg hN4.chg o1 o2
 have hM : MS (M) w2 := (hM.chg hN4.chg)
 have hC := hC.trans hN4.chg (Ok.nil _ _)
 have hE5 : ∀ j v, (cS_api_Addr a0)[j]? = some v → w2.cell? ⟨g3, 0 + j, none⟩ = some v := Box.cells (New.box hN4)
 refine seg ha 1 [(1, .pointer (some ⟨g3, 0, none⟩))] (by kernel_rfl) fun a ha => ?_
 refine hK1 _ _ ?_; try clear hK1 K1
 refine wp_seq_k fun K7 hK7 => ?_
 refine wp_region_lit ?_
 refine ldA (cs := (cS_api_Addr a0)) ha rfl (by kernel_rfl) rfl rfl rfl (cells_sub hE5 (all := (cS_api_Addr a0)) [] [] (by kernel_rfl)) fun a ha => ?_
 obtain ⟨t8, H8, H⟩ := bind_some H
 refine cl ha (by rfl) (by kernel_rfl) (by rfl) (by rfl) (by rfl) (addr_numbers.walk w2 _ hM a0 k _ H8) ?_
 rintro _ w8 ⟨rfl, hc8, hMn⟩ a ha
 have o1 : Ok [] (M) w2.heap.size := Ok.nil _ _
 have o2 : Ok (M) (M) w2.heap.size := (Ok.refl _ _)
 have hG := hG.chg hc8 o1 o2
 have hM : MS (M) w8 := (hM.chg hc8)
 have hC := hC.trans hc8 (Ok.nil _ _)
 refine al (cs := (cA .i64 8 (List.replicate 8 (0 : Int)))) (z := .agg (cA .i64 8 (List.replicate 8 (0 : Int))).toArray) ha (fun w => by kernel_rfl) rfl rfl rfl rfl fun a w9 g10 hN11 ha => ?_
 have o1 : Ok [] (M) w8.heap.size := Ok.nil _ _
 have o2 : Ok ([g10] ++ (M)) (M) w8.heap.size := (Ok.app (hN11.ok _) (Ok.refl _ _))
 have hG := hG.chg hN11.chg o1 o2
 have p_i12_M : ∀ x ∈ [g10], x ∉ M := fun x hx hy => absurd (hM x (hy)) (Nat.not_lt.2 ((hN11.ge1) x hx))
 have e_i12 : ∀ x ∈ [g10], w.heap.size ≤ x := fun x hx => Nat.le_trans hC.size ((hN11.ge1) x hx)
 have hM : MS ([g10] ++ (M)) w9 := (MS.app hN11.ms (hM.chg hN11.chg))
 have hC := hC.trans hN11.chg (Ok.nil _ _)
 have hBg10 : Box w9 g10 (cA .i64 8 (List.replicate 8 (0 : Int))) := hN11.box
 refine stA (l := (cA .i64 8 t8)) ha rfl rfl rfl (by kernel_rfl) rfl rfl hBg10 rfl fun a w13 ha hb2 hc14 _ => ?_
 have o1 : Ok [g10] ([g10] ++ (M)) w9.heap.size := (fun _ h => .inl (ml h))
 have o2 : Ok ([g10] ++ (M)) ([g10] ++ (M)) w9.heap.size := (Ok.refl _ _)
 have hG := hG.chg hc14 o1 o2
 have hM : MS ([g10] ++ (M)) w13 := (hM.chg hc14)
 have hC := hC.trans hc14 (fun x h => .inr (e_i12 x h))
 have hBg10 : Box w13 g10 (cA .i64 8 t8) := hb2
 refine hK7 _ _ ?_; try clear hK7 K7
 refine wp_seq_k fun K15 hK15 => ?_
 refine wp_region_lit ?_
 refine ldA (cs := (cA .i64 8 t8)) ha rfl (by kernel_rfl) rfl rfl rfl (cells_sub (Box.cells hBg10) (all := (cA .i64 8 t8)) [] [] (by kernel_rfl)) fun a ha => ?_
 obtain ⟨t16, H16, H⟩ := bind_some H
 refine cl ha (by rfl) (by kernel_rfl) (by rfl) (by rfl) (by rfl) (addr_gap.walk w13 _ hM t8 k _ H16) ?_
 rintro _ w16 ⟨rfl, hc16, hMn⟩ a ha
 have o1 : Ok [] ([g10] ++ (M)) w13.heap.size := Ok.nil _ _
 have o2 : Ok ([g10] ++ (M)) ([g10] ++ (M)) w13.heap.size := (Ok.refl _ _)
 have hG := hG.chg hc16 o1 o2
 have hBg10 := hBg10.chg hc16 (fun h => nomatch h)
 have hM : MS ([g10] ++ (M)) w16 := (hM.chg hc16)
 have hC := hC.trans hc16 (Ok.nil _ _)
 refine seg ha 5 [(3, .pointer (some ⟨g10, 0, none⟩)), (4, .int .i64 t16.1), (5, .int .i64 t16.2)] (by kernel_rfl) fun a ha => ?_
 refine hK15 _ _ ?_; try clear hK15 K15
 refine wp_seq_k fun K17 hK17 => ?_
 refine wp_seq_k fun K18 hK18 => ?_
 refine wp_region_lit ?_
 refine seg ha 2 [(3, .pointer (some ⟨g10, 0, none⟩)), (4, .int .i64 t16.1), (5, .int .i64 t16.2), (14, .bool (decide (t16.2 < (2 : Int))))] (by kernel_rfl) fun a ha => ?_
 refine hK18 _ _ ?_; try clear hK18 K18
 refine cnd ha rfl (fun hc19 => ?_) (fun hc19 => ?_)
 ·have H := ite_t hc19 H
  refine wp_seq_k fun K20 hK20 => ?_
  refine wp_region_lit ?_
  refine opk (v := .slice (some ⟨g10, 0, none⟩) 8 8) ha rfl rfl rfl rfl rfl (fun w => by kernel_rfl) fun a ha => ?_
  have fw21 : RSl (rInt .i64) 3 w16 (butL g10 w16) (some ⟨g10, 0, none⟩) 8 (arL 8 t8) := RSl.ofA ([] : List Value) ([] : List Value) (Box.cells hBg10) butL_self (by kernel_rfl) rfl
  have hML : MS (M) w16 := MS.rest hM (fun _ h => mr (h))
  have oL : Ok (M) ([g10] ++ (M)) w16.heap.size := (fun _ h => .inl (mr (h)))
  obtain ⟨t22, H22, H⟩ := bind_some H
  refine cl ha (by rfl) (by kernel_rfl) (by rfl) (by rfl) (by rfl) (addr_written.walk w16 _ hML (hG.chg (Chg.refl [] _) (Ok.nil _ _) oL) (arL 8 t8) (some ⟨g10, 0, none⟩) 8 (RSl.chg (M' := M) fw21 (Chg.refl [] _) (Ok.nil _ _) (butL_ok (fun x hm e0 => (fun (hx : x ∈ [g10]) => p_i12_M x hx hm) (by rw [e0]; exact List.mem_singleton.2 rfl)))) k _ H22) ?_
  rintro _ w22 ⟨rfl, hc22, hMn⟩ a ha
  have o1 : Ok [] ([g10] ++ (M)) w16.heap.size := Ok.nil _ _
  have o2 : Ok ([g10] ++ (M)) ([g10] ++ (M)) w16.heap.size := (Ok.refl _ _)
  have hG := hG.chg hc22 o1 o2
  have fw21 := fw21.chg (M' := butL g10 w22) hc22 (Ok.nil _ _) butL_chg
  have hBg10 := hBg10.chg hc22 (fun h => nomatch h)
  have hM : MS ([g10] ++ (M)) w22 := (hM.chg hc22)
  have hC := hC.trans hc22 (Ok.nil _ _)
  refine seg ha 1 [(2, .string (bstr t22))] (by kernel_rfl) fun a ha => ?_
  refine hK20 _ _ ?_; try clear hK20 K20
  refine wp_ret ?_
  try simp only [Exit.then, Exit.inBlock]
  have o1 : Ok [] ([g10] ++ (M)) w22.heap.size := Ok.nil _ _
  have o2 : Ok (M) ([g10] ++ (M)) w22.heap.size := (fun _ h => .inl (mr (h)))
  have hG := hG.chg (Chg.refl [] _) o1 o2
  have hBg10 := hBg10.chg (Chg.refl [] _) (fun h => nomatch h)
  have hM : MS (M) w22 := (fun x h => hM.chg (Chg.refl [] _) x (mr (h)))
  have hC := hC.trans (Chg.refl [] _) (Ok.nil _ _)
  obtain rfl := Option.some.inj H
  refine rt1 ha rfl rfl ?_
  exact ⟨rfl, hC, hM⟩
 ·have H := ite_f hc19 H
  refine wp_skip ?_
  refine hK17 _ _ ?_; try clear hK17 K17
  refine wp_seq_k fun K23 hK23 => ?_
  refine drq0 (fun w' => Chg [] w16 w') (by kernel_rfl) (by kernel_rfl) (fun _ h => h) ?_
  refine qp 0 (.int .i64 t16.1) ha rfl rfl rfl (by kernel_rfl) fun a ha => ?_
  have fw24 : RSl (rInt .i64) 3 w16 (butL g10 w16) (some ⟨g10, 0, none⟩) 8 (arL 8 t8) := RSl.ofA ([] : List Value) ([] : List Value) (Box.cells hBg10) butL_self (by kernel_rfl) rfl
  obtain ⟨⟨hx25, hx25', hx25''⟩, H⟩ := ite_some H
  obtain ⟨ao25, cap25, f25, hr25⟩ := slA_run (kk := .i64) (T := 3) (N := 8) (g := g10) (o' := 0) (xs := (arL 8 t8)) (t := 88) (lo := Option.none) (hi := (Option.some (Operand.tmp 17))) (l := (0 : Int)) (h := t16.1) (dd := some 18) (ty := 66) (pos := "addr.go:86") (af := #[{ on := 0, ground := Ground.data }]) (gd := Option.none) ha (by kernel_rfl) (by kernel_rfl) (x := (Operand.tmp 3)) rfl (arL_length _ _) rfl rfl fw24 hx25 hx25' (by rw [arL_length]; exact hx25'')
  refine qv (v := .slice ao25 (((arL 8 t8).take (Int.toNat t16.1)).drop (Int.toNat (0 : Int))).length cap25) ha rfl rfl rfl (fun w' hs => hr25 w') fun a ha => ?_
  obtain ⟨t26, H26, H⟩ := bind_some H
  refine qc (.string (bstr t26)) ha (by rfl) (by kernel_rfl) (by rfl) (by rfl) (by rfl) (fun w' hs => (addr_written.walk w' [] (MS.nil _) (hG.chg (M' := []) hs (Ok.nil _ _) (Ok.nil _ _)) (((arL 8 t8).take (Int.toNat t16.1)).drop (Int.toNat (0 : Int))) ao25 cap25 (RSl.chg (M' := []) f25 hs (Ok.nil _ _) (Ok.nil _ _)) k _ H26).mono fun v w'' ⟨hv, hc, _⟩ => ⟨hv, hs.trans hc (Ok.nil _ _)⟩) fun a ha => ?_
  obtain ⟨hx27, H⟩ := ite_some H
  refine qv (v := .string (bstr (t26 ++ ([58, 58] : List UInt8)))) ha rfl rfl rfl (fun w' hs => sadd_run ha rfl rfl hx27 w') fun a ha => ?_
  refine qp 0 (.int .i64 t16.1) ha rfl rfl rfl (by kernel_rfl) fun a ha => ?_
  refine qp 0 (.int .i64 t16.2) ha rfl rfl rfl (by kernel_rfl) fun a ha => ?_
  refine qp 0 (.int .i64 (IntKind.i64.wrap (t16.1 + t16.2))) ha rfl rfl rfl (by kernel_rfl) fun a ha => ?_
  have fw28 : RSl (rInt .i64) 3 w16 (butL g10 w16) (some ⟨g10, 0, none⟩) 8 (arL 8 t8) := RSl.ofA ([] : List Value) ([] : List Value) (Box.cells hBg10) butL_self (by kernel_rfl) rfl
  obtain ⟨⟨hx29, hx29', hx29''⟩, H⟩ := ite_some H
  obtain ⟨ao29, cap29, f29, hr29⟩ := slA_run (kk := .i64) (T := 3) (N := 8) (g := g10) (o' := 0) (xs := (arL 8 t8)) (t := 88) (lo := (Option.some (Operand.tmp 23))) (hi := Option.none) (l := (IntKind.i64.wrap (t16.1 + t16.2))) (h := (8 : Int)) (dd := some 24) (ty := 66) (pos := "addr.go:86") (af := #[{ on := 6, ground := Ground.data }]) (gd := Option.none) ha (by kernel_rfl) (by kernel_rfl) (x := (Operand.tmp 3)) rfl (arL_length _ _) rfl rfl fw28 hx29 hx29' (by rw [arL_length]; exact hx29'')
  refine qv (v := .slice ao29 (((arL 8 t8).take (Int.toNat (8 : Int))).drop (Int.toNat (IntKind.i64.wrap (t16.1 + t16.2)))).length cap29) ha rfl rfl rfl (fun w' hs => hr29 w') fun a ha => ?_
  obtain ⟨t30, H30, H⟩ := bind_some H
  refine qc (.string (bstr t30)) ha (by rfl) (by kernel_rfl) (by rfl) (by rfl) (by rfl) (fun w' hs => (addr_written.walk w' [] (MS.nil _) (hG.chg (M' := []) hs (Ok.nil _ _) (Ok.nil _ _)) (((arL 8 t8).take (Int.toNat (8 : Int))).drop (Int.toNat (IntKind.i64.wrap (t16.1 + t16.2)))) ao29 cap29 (RSl.chg (M' := []) f29 hs (Ok.nil _ _) (Ok.nil _ _)) k _ H30).mono fun v w'' ⟨hv, hc, _⟩ => ⟨hv, hs.trans hc (Ok.nil _ _)⟩) fun a ha => ?_
  obtain ⟨hx31, H⟩ := ite_some H
  refine qv (v := .string (bstr ((t26 ++ ([58, 58] : List UInt8)) ++ t30))) ha rfl rfl rfl (fun w' hs => sadd_run ha rfl rfl hx31 w') fun a ha => ?_
  refine qp 0 (.string (bstr ((t26 ++ ([58, 58] : List UInt8)) ++ t30))) ha rfl rfl rfl (by kernel_rfl) fun a ha => ?_
  refine wpQuiet_nil ?_
  intro w32 hc33
  have o1 : Ok [] ([g10] ++ (M)) w16.heap.size := Ok.nil _ _
  have o2 : Ok ([g10] ++ (M)) ([g10] ++ (M)) w16.heap.size := (Ok.refl _ _)
  have hG := hG.chg hc33 o1 o2
  have f25 := f25.chg (M' := butL g10 w32) hc33 (Ok.nil _ _) butL_chg
  have f29 := f29.chg (M' := butL g10 w32) hc33 (Ok.nil _ _) butL_chg
  have hBg10 := hBg10.chg hc33 (fun h => nomatch h)
  have hM : MS ([g10] ++ (M)) w32 := (hM.chg hc33)
  have hC := hC.trans hc33 (Ok.nil _ _)
  refine wpl_end ?_
  refine hK23 _ _ ?_; try clear hK23 K23
  refine wp_ret ?_
  try simp only [Exit.then, Exit.inBlock]
  have o1 : Ok [] ([g10] ++ (M)) w32.heap.size := Ok.nil _ _
  have o2 : Ok (M) ([g10] ++ (M)) w32.heap.size := (fun _ h => .inl (mr (h)))
  have hG := hG.chg (Chg.refl [] _) o1 o2
  have hBg10 := hBg10.chg (Chg.refl [] _) (fun h => nomatch h)
  have hM : MS (M) w32 := (fun x h => hM.chg (Chg.refl [] _) x (mr (h)))
  have hC := hC.trans (Chg.refl [] _) (Ok.nil _ _)
  obtain rfl := Option.some.inj H
  refine rt1 ha rfl rfl ?_
  exact ⟨rfl, hC, hM⟩
def addr_Text.l0 (a0 : S_api_Addr) : Nat → (List (List UInt8)) → Int → Option (List (List UInt8))
  | 0, _, _ => none
  | kk + 1, x23, x24 => (if (decide (x24 < ((((arL 16 a0.B).take (Int.toNat (4 : Int))).drop (Int.toNat (0 : Int))).length : Int))) = true then (if 0 ≤ x24 ∧ x24 < ((((arL 16 a0.B).take (Int.toNat (4 : Int))).drop (Int.toNat (0 : Int))).length : Int) then (strconv_Itoa.f (IntKind.i64.wrap (rd (((arL 16 a0.B).take (Int.toNat (4 : Int))).drop (Int.toNat (0 : Int))) x24))).bind fun t41 => (if (x23.length + ([t41] : List (List UInt8)).length) * 16 ≤ 140737488355328 then addr_Text.l0 a0 kk (x23 ++ ([t41] : List (List UInt8))) (IntKind.i64.wrap (x24 + (1 : Int))) else none) else none) else some (x23 : List (List UInt8)))
def addr_Text.f (k : Nat) (a0 : S_api_Addr) : Option (List UInt8) := (addr_Right.f k a0).bind fun t9 => (if (!t9) = true then some ((([] : List UInt8) : List UInt8)) else (if (a0.Size == (4 : Int)) = true then (if 0 ≤ (0 : Int) ∧ (0 : Int) ≤ (4 : Int) ∧ (4 : Int) ≤ (16 : Int) then (addr_Text.l0 a0 k ([] : List (List UInt8)) (0 : Int)).bind fun s21 => (strings_Join.f s21 ([46] : List UInt8)).bind fun t27 => some ((t27 : List UInt8)) else none) else (if (a0.Size == (16 : Int)) = true then (addr_text6.f k a0).bind fun t53 => some ((t53 : List UInt8)) else some ((([] : List UInt8) : List UInt8)))))
set_option maxRecDepth 100000 in
theorem addr_Text.walk (w : World) (M : List Nat) (hM : MS M w) (hG : GF w M) (a0 : S_api_Addr) (k : Nat) (r : List UInt8) (H : addr_Text.f k a0 = some r) :
    To Tryd.prog 14 [.agg (cS_api_Addr a0).toArray] w fun v w' => v = .string (bstr r) ∧ Chg [] w w' ∧ MS (M) w' := by
 unfold addr_Text.f at H
 refine ent Tryd.func14 rfl [(0, .agg (cS_api_Addr a0).toArray)] rfl (by rfl) fun a ha => ?_
 have hC : Chg [] w w := Chg.refl _ _
 refine wp_seq_k fun K1 hK1 => ?_
 refine wp_region_lit ?_
 refine bx (cs := (cS_api_Addr a0)) ha rfl rfl rfl rfl rfl fun a w2 g3 hN4 ha => ?_
 have hn6 := hN4.notin hM
 have o1 : Ok [] (M) w.heap.size := Ok.nil _ _
 have o2 : Ok (M) (M) w.heap.size := (Ok.refl _ _)
 have hG := hG.chg hN4.chg o1 o2
 have hM : MS (M) w2 := (hM.chg hN4.chg)
 have hC := hC.trans hN4.chg (Ok.nil _ _)
 have hE5 : ∀ j v, (cS_api_Addr a0)[j]? = some v → w2.cell? ⟨g3, 0 + j, none⟩ = some v := Box.cells (New.box hN4)
 refine seg ha 1 [(1, .pointer (some ⟨g3, 0, none⟩))] (by kernel_rfl) fun a ha => ?_
 refine hK1 _ _ ?_; try clear hK1 K1
 refine wp_seq_k fun K7 hK7 => ?_
 refine wp_seq_k fun K8 hK8 => ?_
 refine wp_region_lit ?_
 refine ldA (cs := (cS_api_Addr a0)) ha rfl (by kernel_rfl) rfl rfl rfl (cells_sub hE5 (all := (cS_api_Addr a0)) [] [] (by kernel_rfl)) fun a ha => ?_
 obtain ⟨t9, H9, H⟩ := bind_some H
 refine cl ha (by rfl) (by kernel_rfl) (by rfl) (by rfl) (by rfl) (addr_Right.walk w2 _ hM a0 k _ H9) ?_
 rintro _ w9 ⟨rfl, hc9, hMn⟩ a ha
 have o1 : Ok [] (M) w2.heap.size := Ok.nil _ _
 have o2 : Ok (M) (M) w2.heap.size := (Ok.refl _ _)
 have hG := hG.chg hc9 o1 o2
 have q_hn6 : g3 ∉ M := fun h => (o2 g3 h).elim hn6 (fun h => absurd (lt_cell (hE5 0 _ rfl)) (Nat.not_lt.2 h))
 have hE5 : ∀ j v, (cS_api_Addr a0)[j]? = some v → w9.cell? ⟨g3, 0 + j, none⟩ = some v := fun j v hv => (cell_keep hc9 o1 hn6 (hE5 j v hv))
 have hn6 := q_hn6
 have hM : MS (M) w9 := (hM.chg hc9)
 have hC := hC.trans hc9 (Ok.nil _ _)
 refine seg ha 1 [(1, .pointer (some ⟨g3, 0, none⟩)), (8, .bool (!t9))] (by kernel_rfl) fun a ha => ?_
 refine hK8 _ _ ?_; try clear hK8 K8
 refine cnd ha rfl (fun hc10 => ?_) (fun hc10 => ?_)
 ·have H := ite_t hc10 H
  refine wp_seq_k fun K11 hK11 => ?_
  refine wp_region_lit ?_
  refine seg ha 1 [(2, .string (bstr ([] : List UInt8)))] (by kernel_rfl) fun a ha => ?_
  refine hK11 _ _ ?_; try clear hK11 K11
  refine wp_ret ?_
  try simp only [Exit.then, Exit.inBlock]
  obtain rfl := Option.some.inj H
  refine rt1 ha rfl rfl ?_
  exact ⟨rfl, hC, hM⟩
 ·have H := ite_f hc10 H
  refine wp_skip ?_
  refine hK7 _ _ ?_; try clear hK7 K7
  refine wp_seq_k fun K12 hK12 => ?_
  refine wp_seq_k fun K13 hK13 => ?_
  refine wp_region_lit ?_
  refine seg ha 1 [(1, .pointer (some ⟨g3, 0, none⟩)), (9, .pointer (some ⟨g3, 0, none⟩))] (by kernel_rfl) fun a ha => ?_
  refine ld ha rfl (by kernel_rfl) rfl rfl rfl (hE5 0 (.int .i64 a0.Size) (by kernel_rfl)) fun a ha => ?_
  refine hK13 _ _ ?_; try clear hK13 K13
  refine wp_block ?_
  refine wp_seq_k fun K14 hK14 => ?_
  refine wp_region_lit ?_
  refine seg ha 2 [(1, .pointer (some ⟨g3, 0, none⟩)), (10, .int .i64 a0.Size), (11, .bool (a0.Size == (4 : Int)))] (by kernel_rfl) fun a ha => ?_
  refine hK14 _ _ ?_; try clear hK14 K14
  refine cnd ha rfl (fun hc15 => ?_) (fun hc15 => ?_)
  ·have H := ite_t hc15 H
   refine wp_seq_k fun K16 hK16 => ?_
   refine wp_region_lit ?_
   refine seg ha 1 [(1, .pointer (some ⟨g3, 0, none⟩)), (3, .slice none 0 0)] (by kernel_rfl) fun a ha => ?_
   refine hK16 _ _ ?_; try clear hK16 K16
   refine wp_seq_k fun K17 hK17 => ?_
   refine wp_seq_k fun K18 hK18 => ?_
   refine wp_region_lit ?_
   refine seg ha 1 [(3, .slice none 0 0), (13, .pointer (some ⟨g3, 0 + 1, none⟩))] (by kernel_rfl) fun a ha => ?_
   have f19 : RSl (rInt .u8) 5 w9 (M) (some ⟨g3, 0 + 1, none⟩) 16 (arL 16 a0.B) := RSl.ofA [.int .i64 a0.Size] [] hE5 hn6 (by kernel_rfl) rfl
   obtain ⟨⟨hx20, hx20', hx20''⟩, H⟩ := ite_some H
   obtain ⟨ao20, cap20, f20, hr20⟩ := slA_run (kk := .u8) (T := 5) (N := 16) (g := g3) (o' := 0 + 1) (xs := (arL 16 a0.B)) (t := 22) (lo := Option.none) (hi := (Option.some (Operand.const (Value.int IntKind.i64 4)))) (l := (0 : Int)) (h := (4 : Int)) (dd := some 14) (ty := 43) (pos := "addr.go:97") (af := #[{ on := 0, ground := Ground.data }]) (gd := Option.none) ha (by kernel_rfl) (by kernel_rfl) (x := (Operand.tmp 13)) rfl (arL_length _ _) rfl rfl f19 hx20 hx20' (by rw [arL_length]; exact hx20'')
   refine hop (v := .slice ao20 (((arL 16 a0.B).take (Int.toNat (4 : Int))).drop (Int.toNat (0 : Int))).length cap20) (w' := w9) ha rfl rfl rfl (hr20 _) fun a ha => ?_
   refine seg ha 2 [(3, .slice none 0 0), (14, .slice ao20 (((arL 16 a0.B).take (Int.toNat (4 : Int))).drop (Int.toNat (0 : Int))).length cap20), (15, .int .i64 ((((arL 16 a0.B).take (Int.toNat (4 : Int))).drop (Int.toNat (0 : Int))).length : Int)), (16, .int .i64 (0 : Int))] (by kernel_rfl) fun a ha => ?_
   refine hK18 _ _ ?_; try clear hK18 K18
   refine wp_block ?_
   obtain ⟨s21, H21, H⟩ := bind_some H
   have J21 : ∀ (a : Act) (wx21 : World) (ao25 : Option Addr) (cap25 : Nat), Has a Tryd.f14.ntmps [(3, .slice ao25 s21.length cap25)] → (Own rStr 9 wx21 (blkL ao25 ++ (M)) ao25 cap25 s21) → (∀ x ∈ blkL ao25, w.heap.size ≤ x) → (∀ x ∈ blkL ao25, x ∉ M) → (GF wx21 (blkL ao25 ++ (M))) → (Chg [] w wx21) → (MS (blkL ao25 ++ (M)) wx21) → K17 a wx21 := by
    intro a wx21 ao25 cap25 ha f25 e_i25 p_i25_M hG hC hM
    refine hK17 _ _ ?_; try clear hK17 K17
    refine wp_seq_k fun K26 hK26 => ?_
    refine wp_region_lit ?_
    refine seg ha 1 [(27, .slice ao25 s21.length cap25)] (by kernel_rfl) fun a ha => ?_
    have hML : MS (M) wx21 := MS.rest hM (fun _ h => mr (h))
    have oL : Ok (M) (blkL ao25 ++ (M)) wx21.heap.size := (fun _ h => .inl (mr (h)))
    obtain ⟨t27, H27, H⟩ := bind_some H
    refine cl ha (by rfl) (by kernel_rfl) (by rfl) (by rfl) (by rfl) (strings_Join.walk wx21 _ hML s21 ao25 cap25 (Own.toRSl (M' := M) f25 oL (fun x hx hm => p_i25_M x hx hm)) ([46] : List UInt8) _ H27) ?_
    rintro _ w27 ⟨rfl, hc27, hMn⟩ a ha
    have o1 : Ok [] (blkL ao25 ++ (M)) wx21.heap.size := Ok.nil _ _
    have o2 : Ok (blkL ao25 ++ (M)) (blkL ao25 ++ (M)) wx21.heap.size := (Ok.refl _ _)
    have hG := hG.chg hc27 o1 o2
    have f25 := f25.chg hc27 o1 o2 (fun _ _ h => nomatch h) (fun _ h => ml h)
    have hM : MS (blkL ao25 ++ (M)) w27 := (hM.chg hc27)
    have hC := hC.trans hc27 (Ok.nil _ _)
    refine seg ha 1 [(2, .string (bstr t27))] (by kernel_rfl) fun a ha => ?_
    refine hK26 _ _ ?_; try clear hK26 K26
    refine wp_ret ?_
    try simp only [Exit.then, Exit.inBlock]
    have o1 : Ok [] (blkL ao25 ++ (M)) w27.heap.size := Ok.nil _ _
    have o2 : Ok (M) (blkL ao25 ++ (M)) w27.heap.size := (fun _ h => .inl (mr (h)))
    have hG := hG.chg (Chg.refl [] _) o1 o2
    have hM : MS (M) w27 := (fun x h => hM.chg (Chg.refl [] _) x (mr (h)))
    have hC := hC.trans (Chg.refl [] _) (Ok.nil _ _)
    obtain rfl := Option.some.inj H
    refine rt1 ha rfl rfl ?_
    exact ⟨rfl, hC, hM⟩
   have Hc21 := H
   have H := H21
   refine wp_loop_ghost (fun kk a w21 => ∃ (x23 : List (List UInt8)) (x24 : Int) (ao22 : Option Addr) (cap22 : Nat), addr_Text.l0 a0 kk x23 x24 = some s21 ∧ Has a Tryd.f14.ntmps [(3, .slice ao22 x23.length cap22), (14, .slice ao20 (((arL 16 a0.B).take (Int.toNat (4 : Int))).drop (Int.toNat (0 : Int))).length cap20), (15, .int .i64 ((((arL 16 a0.B).take (Int.toNat (4 : Int))).drop (Int.toNat (0 : Int))).length : Int)), (16, .int .i64 x24)] ∧ (Own rStr 9 w21 (blkL ao22 ++ (M)) ao22 cap22 x23) ∧ (RSl (rInt .u8) 5 w21 (blkL ao22 ++ (M)) ao20 cap20 (((arL 16 a0.B).take (Int.toNat (4 : Int))).drop (Int.toNat (0 : Int)))) ∧ (∀ x ∈ blkL ao22, w.heap.size ≤ x) ∧ (∀ x ∈ blkL ao22, x ∉ M) ∧ (GF w21 (blkL ao22 ++ (M))) ∧ (Chg [] w w21) ∧ (MS (blkL ao22 ++ (M)) w21)) k ?_ ?_
   ·skip
    have o1 : Ok [] (M) w9.heap.size := Ok.nil _ _
    have o2 : Ok (blkL none ++ (M)) (M) w9.heap.size := (Ok.app (fun _ h => nomatch h) (Ok.refl _ _))
    have hG := hG.chg (Chg.refl [] _) o1 o2
    have f20 := f20.chg (Chg.refl [] _) o1 o2
    have p_z28_M : ∀ x ∈ blkL none, x ∉ M := fun x hx hy => absurd (hM x (hy)) (Nat.not_lt.2 ((fun _ h => nomatch h) x hx))
    have e_z28 : ∀ x ∈ blkL none, w.heap.size ≤ x := fun x hx => Nat.le_trans hC.size ((fun _ h => nomatch h) x hx)
    have hM : MS (blkL none ++ (M)) w9 := (MS.app (fun _ h => nomatch h) (hM.chg (Chg.refl [] _)))
    have hC := hC.trans (Chg.refl [] _) (Ok.nil _ _)
    exact ⟨([] : List (List UInt8)), (0 : Int), none, 0, H, (ha.sel (by kernel_rfl)), Own.nil, f20, e_z28, p_z28_M, hG, hC, hM⟩
   ·rintro kk a w21 ⟨x23, x24, ao22, cap22, H, ha, f22, f20, e_i22, p_i22_M, hG, hC, hM⟩
    obtain _ | kk := kk
    ·exact nomatch (show none = some _ from H)
    rw [addr_Text.l0] at H
    refine wp_seq_k fun K29 hK29 => ?_
    refine wp_region_lit ?_
    refine seg ha 1 [(3, .slice ao22 x23.length cap22), (14, .slice ao20 (((arL 16 a0.B).take (Int.toNat (4 : Int))).drop (Int.toNat (0 : Int))).length cap20), (15, .int .i64 ((((arL 16 a0.B).take (Int.toNat (4 : Int))).drop (Int.toNat (0 : Int))).length : Int)), (16, .int .i64 x24), (17, .bool (decide (x24 < ((((arL 16 a0.B).take (Int.toNat (4 : Int))).drop (Int.toNat (0 : Int))).length : Int))))] (by kernel_rfl) fun a ha => ?_
    refine hK29 _ _ ?_; try clear hK29 K29
    refine wp_seq_k fun K30 hK30 => ?_
    refine cnd ha rfl (fun hc31 => ?_) (fun hc31 => ?_)
    ·have H := ite_t hc31 H
     refine wp_skip ?_
     refine hK30 _ _ ?_; try clear hK30 K30
     refine wp_seq_k fun K32 hK32 => ?_
     refine wp_block ?_
     refine wp_seq_k fun K33 hK33 => ?_
     refine wp_region_lit ?_
     obtain ⟨⟨hx34, hx34'⟩, H⟩ := ite_some H
     refine ix (r := (rInt .u8)) ha (by kernel_rfl) (by kernel_rfl) rfl rfl rfl rfl rfl f20 hx34 hx34' fun a ge35 oe36 cs37 hn40 hR38 hE39 ha => ?_
     rw [rd_get] at hR38
     obtain rfl := hR38
     have hE39 : ∀ j v, ([.int .u8 (rd (((arL 16 a0.B).take (Int.toNat (4 : Int))).drop (Int.toNat (0 : Int))) x24)] : List Value)[j]? = some v → w21.cell? ⟨ge35, oe36 + j, none⟩ = some v := hE39
     refine ld ha rfl (by kernel_rfl) rfl rfl rfl (hE39 0 (.int .u8 (rd (((arL 16 a0.B).take (Int.toNat (4 : Int))).drop (Int.toNat (0 : Int))) x24)) (by kernel_rfl)) fun a ha => ?_
     refine seg ha 1 [(3, .slice ao22 x23.length cap22), (5, .int .u8 (rd (((arL 16 a0.B).take (Int.toNat (4 : Int))).drop (Int.toNat (0 : Int))) x24)), (14, .slice ao20 (((arL 16 a0.B).take (Int.toNat (4 : Int))).drop (Int.toNat (0 : Int))).length cap20), (15, .int .i64 ((((arL 16 a0.B).take (Int.toNat (4 : Int))).drop (Int.toNat (0 : Int))).length : Int)), (16, .int .i64 x24)] (by kernel_rfl) fun a ha => ?_
     refine hK33 _ _ ?_; try clear hK33 K33
     refine wp_region_lit ?_
     refine seg ha 3 [(14, .slice ao20 (((arL 16 a0.B).take (Int.toNat (4 : Int))).drop (Int.toNat (0 : Int))).length cap20), (15, .int .i64 ((((arL 16 a0.B).take (Int.toNat (4 : Int))).drop (Int.toNat (0 : Int))).length : Int)), (16, .int .i64 x24), (20, .slice ao22 x23.length cap22), (22, .int .i64 (IntKind.i64.wrap (rd (((arL 16 a0.B).take (Int.toNat (4 : Int))).drop (Int.toNat (0 : Int))) x24)))] (by kernel_rfl) fun a ha => ?_
     obtain ⟨t41, H41, H⟩ := bind_some H
     refine cl ha (by rfl) (by kernel_rfl) (by rfl) (by rfl) (by rfl) (strconv_Itoa.walk w21 _ hM hG (IntKind.i64.wrap (rd (((arL 16 a0.B).take (Int.toNat (4 : Int))).drop (Int.toNat (0 : Int))) x24)) _ H41) ?_
     rintro _ w41 ⟨rfl, hc41, hMn⟩ a ha
     have o1 : Ok [] (blkL ao22 ++ (M)) w21.heap.size := Ok.nil _ _
     have o2 : Ok (blkL ao22 ++ (M)) (blkL ao22 ++ (M)) w21.heap.size := (Ok.refl _ _)
     have hG := hG.chg hc41 o1 o2
     have f20 := f20.chg hc41 o1 o2
     have f22 := f22.chg hc41 o1 o2 (fun _ _ h => nomatch h) (fun _ h => ml h)
     have hM : MS (blkL ao22 ++ (M)) w41 := (hM.chg hc41)
     have hC := hC.trans hc41 (Ok.nil _ _)
     refine bsl (vals := ([.string (bstr t41)] : List Value)) (T := 9) ha rfl (([.string (bstr t41)] : List Value) ++ ([] : List Value)) (fun w => by kernel_rfl) rfl rfl rfl fun a w42 g43 hN44 ha => ?_
     have o1 : Ok [] (blkL ao22 ++ (M)) w41.heap.size := Ok.nil _ _
     have o2 : Ok ([g43] ++ (blkL ao22 ++ (M))) (blkL ao22 ++ (M)) w41.heap.size := (Ok.app (hN44.ok _) (Ok.refl _ _))
     have hG := hG.chg hN44.chg o1 o2
     have f20 := f20.chg hN44.chg o1 o2
     have f22 := f22.chg hN44.chg o1 o2 (fun _ _ h => nomatch h) (fun _ h => mr (ml h))
     have p_i45_i22 : ∀ x ∈ [g43], x ∉ (blkL ao22) := fun x hx hy => absurd (hM x (ml hy)) (Nat.not_lt.2 ((hN44.ge1) x hx))
     have p_i45_M : ∀ x ∈ [g43], x ∉ M := fun x hx hy => absurd (hM x (mr (hy))) (Nat.not_lt.2 ((hN44.ge1) x hx))
     have e_i45 : ∀ x ∈ [g43], w.heap.size ≤ x := fun x hx => Nat.le_trans hC.size ((hN44.ge1) x hx)
     have hM : MS ([g43] ++ (blkL ao22 ++ (M))) w42 := (MS.app hN44.ms (hM.chg hN44.chg))
     have hC := hC.trans hN44.chg (Ok.nil _ _)
     have f46 : Own rStr 9 w42 ([g43] ++ (blkL ao22 ++ (M))) (some ⟨g43, 0, none⟩) 1 ([t41] : List (List UInt8)) := hN44.own ⟨([.string (bstr t41)] : List Value), _, rfl, rfl, rfl⟩ (Nat.le_of_ble_eq_true rfl)
     obtain ⟨hx47, H⟩ := ite_some H
     refine app (r := rStr) (xs := x23) (ys := ([t41] : List (List UInt8))) ha (ElemT.mk' (bytes := 16) (by kernel_rfl)) rfl rfl rfl rfl rfl f22 f46.src hx47 (by decide) fun a w48 ao49 cap49 hO49 hc49 hk49 hl49 ha => ?_
     have o1 : Ok (blkL ao22) ([g43] ++ (blkL ao22 ++ (M))) w42.heap.size := (fun _ h => .inl (mr (ml h)))
     have o2 : Ok (blkL ao49 ++ ([g43] ++ (M))) ([g43] ++ (blkL ao22 ++ (M))) w42.heap.size := (Ok.app (Ok.to hk49 (fun _ h => mr (ml h))) (Ok.app (fun _ h => .inl (ml h)) (fun _ h => .inl (mr (mr (h))))))
     have hG := hG.chg hc49 o1 o2
     have f20 := f20.chg hc49 o1 o2
     have f46 := f46.chg hc49 o1 o2 p_i45_i22 (fun _ h => mr (ml h))
     have p_i49_i45 : ∀ x ∈ blkL ao49, x ∉ ([g43]) := fun x hx hy => (hk49 x hx).elim (fun h => (fun x hx hy => p_i45_i22 x hy hx) x h hy) (fun h => absurd (hM x (ml hy)) (Nat.not_lt.2 h))
     have p_i49_M : ∀ x ∈ blkL ao49, x ∉ M := fun x hx hy => (hk49 x hx).elim (fun h => p_i22_M x h hy) (fun h => absurd (hM x (mr (mr (hy)))) (Nat.not_lt.2 h))
     have e_i49 : ∀ x ∈ blkL ao49, w.heap.size ≤ x := fun x hx => (hk49 x hx).elim (e_i22 x) (Nat.le_trans hC.size)
     have hM : MS (blkL ao49 ++ ([g43] ++ (M))) w48 := (MS.app hl49 (MS.app (fun x h => hM.chg hc49 x (ml h)) (fun x h => hM.chg hc49 x (mr (mr (h))))))
     have hC := hC.trans hc49 (fun x h => .inr (e_i22 x h))
     have f49 := hO49.chg (M' := blkL ao49 ++ ([g43] ++ (M))) (Chg.refl [] _) (Ok.nil _ _) (Ok.app (fun _ h => .inl (ml h)) (Ok.to (Ok.app (fun _ h => .inl (ml h)) (fun _ h => .inl (mr (mr (h))))) (fun _ h => mr h))) (fun _ _ h => nomatch h) (fun _ h => ml h)
     refine seg ha 1 [(3, .slice ao49 (x23 ++ ([t41] : List (List UInt8))).length cap49), (14, .slice ao20 (((arL 16 a0.B).take (Int.toNat (4 : Int))).drop (Int.toNat (0 : Int))).length cap20), (15, .int .i64 ((((arL 16 a0.B).take (Int.toNat (4 : Int))).drop (Int.toNat (0 : Int))).length : Int)), (16, .int .i64 x24)] (by kernel_rfl) fun a ha => ?_
     refine hK32 _ _ ?_; try clear hK32 K32
     refine wp_region_lit ?_
     refine seg ha 2 [(3, .slice ao49 (x23 ++ ([t41] : List (List UInt8))).length cap49), (14, .slice ao20 (((arL 16 a0.B).take (Int.toNat (4 : Int))).drop (Int.toNat (0 : Int))).length cap20), (15, .int .i64 ((((arL 16 a0.B).take (Int.toNat (4 : Int))).drop (Int.toNat (0 : Int))).length : Int)), (16, .int .i64 (IntKind.i64.wrap (x24 + (1 : Int))))] (by kernel_rfl) fun a ha => ?_
     have o1 : Ok [] (blkL ao49 ++ ([g43] ++ (M))) w48.heap.size := Ok.nil _ _
     have o2 : Ok (blkL ao49 ++ (M)) (blkL ao49 ++ ([g43] ++ (M))) w48.heap.size := (Ok.app (fun _ h => .inl (ml h)) (fun _ h => .inl (mr (mr (h)))))
     have hG := hG.chg (Chg.refl [] _) o1 o2
     have f20 := f20.chg (Chg.refl [] _) o1 o2
     have f49 := f49.chg (Chg.refl [] _) o1 o2 (fun _ _ h => nomatch h) (fun _ h => ml h)
     have hM : MS (blkL ao49 ++ (M)) w48 := (MS.app (fun x h => hM.chg (Chg.refl [] _) x (ml h)) (fun x h => hM.chg (Chg.refl [] _) x (mr (mr (h)))))
     have hC := hC.trans (Chg.refl [] _) (Ok.nil _ _)
     exact ⟨kk, Nat.lt_succ_self _, ⟨(x23 ++ ([t41] : List (List UInt8))), IntKind.i64.wrap (x24 + (1 : Int)), ao49, cap49, H, (ha.sel (by kernel_rfl)), f49, f20, e_i49, p_i49_M, hG, hC, hM⟩⟩
    ·have H := ite_f hc31 H
     refine wp_exit ?_
     simp only [Exit.then, Exit.inBlock, ↓reduceIte, Nat.reduceEqDiff]
     obtain rfl := Option.some.inj H
     exact J21 _ _ ao22 cap22 (ha.sel (by kernel_rfl)) f22 e_i22 p_i22_M hG hC hM
  ·have H := ite_f hc15 H
   refine wp_seq_k fun K50 hK50 => ?_
   refine wp_region_lit ?_
   refine seg ha 2 [(1, .pointer (some ⟨g3, 0, none⟩)), (29, .bool (a0.Size == (16 : Int)))] (by kernel_rfl) fun a ha => ?_
   refine hK50 _ _ ?_; try clear hK50 K50
   refine cnd ha rfl (fun hc51 => ?_) (fun hc51 => ?_)
   ·have H := ite_t hc51 H
    refine wp_seq_k fun K52 hK52 => ?_
    refine wp_region_lit ?_
    refine ldA (cs := (cS_api_Addr a0)) ha rfl (by kernel_rfl) rfl rfl rfl (cells_sub hE5 (all := (cS_api_Addr a0)) [] [] (by kernel_rfl)) fun a ha => ?_
    obtain ⟨t53, H53, H⟩ := bind_some H
    refine cl ha (by rfl) (by kernel_rfl) (by rfl) (by rfl) (by rfl) (addr_text6.walk w9 _ hM hG a0 k _ H53) ?_
    rintro _ w53 ⟨rfl, hc53, hMn⟩ a ha
    have o1 : Ok [] (M) w9.heap.size := Ok.nil _ _
    have o2 : Ok (M) (M) w9.heap.size := (Ok.refl _ _)
    have hG := hG.chg hc53 o1 o2
    have hM : MS (M) w53 := (hM.chg hc53)
    have hC := hC.trans hc53 (Ok.nil _ _)
    refine seg ha 1 [(2, .string (bstr t53))] (by kernel_rfl) fun a ha => ?_
    refine hK52 _ _ ?_; try clear hK52 K52
    refine wp_ret ?_
    try simp only [Exit.then, Exit.inBlock]
    obtain rfl := Option.some.inj H
    refine rt1 ha rfl rfl ?_
    exact ⟨rfl, hC, hM⟩
   ·have H := ite_f hc51 H
    refine wp_skip ?_
    refine hK12 _ _ ?_; try clear hK12 K12
    refine wp_seq_k fun K54 hK54 => ?_
    refine wp_region_lit ?_
    refine seg ha 1 [(2, .string (bstr ([] : List UInt8)))] (by kernel_rfl) fun a ha => ?_
    refine hK54 _ _ ?_; try clear hK54 K54
    refine wp_ret ?_
    try simp only [Exit.then, Exit.inBlock]
    obtain rfl := Option.some.inj H
    refine rt1 ha rfl rfl ?_
    exact ⟨rfl, hC, hM⟩
def addr_Parse.f (k : Nat) (a0 : List UInt8) : Option (S_api_Addr × Int) := (if ((bstr a0).toList == (bstr ([] : List UInt8)).toList) = true then some (((⟨(0 : Int), (List.replicate 16 (0 : Int))⟩ : S_api_Addr) : S_api_Addr), ((0 : Int) : Int)) else (addr_read4.f k a0).bind fun t13 => ((if (!t13.2) = true then (addr_read6.f k a0).bind fun t36 => some ((t36.2 : Bool), (t36.1.Size : Int), (t36.1.B : List Int)) else some ((t13.2 : Bool), (t13.1.Size : Int), (t13.1.B : List Int)))).bind fun s21 => ((if (!s21.1) = true then some (true : Bool) else (addr_Text.f k (⟨s21.2.1, s21.2.2⟩ : S_api_Addr)).bind fun t33 => some (!((bstr t33).toList == (bstr a0).toList) : Bool))).bind fun s24 => (if s24 = true then some (((⟨(0 : Int), (List.replicate 16 (0 : Int))⟩ : S_api_Addr) : S_api_Addr), ((4 : Int) : Int)) else some (((⟨s21.2.1, s21.2.2⟩ : S_api_Addr) : S_api_Addr), ((0 : Int) : Int))))
set_option maxRecDepth 100000 in
theorem addr_Parse.walk (w : World) (M : List Nat) (hM : MS M w) (hG : GF w M) (a0 : List UInt8) (k : Nat) (r : S_api_Addr × Int) (H : addr_Parse.f k a0 = some r) :
    To Tryd.prog 12 [.string (bstr a0)] w fun v w' => v = .tuple #[.agg (cS_api_Addr r.1).toArray, .int .i64 r.2] ∧ Chg [] w w' ∧ MS (M) w' := by
 unfold addr_Parse.f at H
 refine ent Tryd.func12 rfl [(0, .string (bstr a0))] rfl (by rfl) fun a ha => ?_
 have hC : Chg [] w w := Chg.refl _ _
 refine wp_seq_k fun K1 hK1 => ?_
 refine wp_region_lit ?_
 refine al (cs := (cS_api_Addr (⟨(0 : Int), (List.replicate 16 (0 : Int))⟩ : S_api_Addr))) (z := .agg (cS_api_Addr (⟨(0 : Int), (List.replicate 16 (0 : Int))⟩ : S_api_Addr)).toArray) ha (fun w => by kernel_rfl) rfl rfl rfl rfl fun a w2 g3 hN4 ha => ?_
 have o1 : Ok [] (M) w.heap.size := Ok.nil _ _
 have o2 : Ok ([g3] ++ (M)) (M) w.heap.size := (Ok.app (hN4.ok _) (Ok.refl _ _))
 have hG := hG.chg hN4.chg o1 o2
 have p_i5_M : ∀ x ∈ [g3], x ∉ M := fun x hx hy => absurd (hM x (hy)) (Nat.not_lt.2 ((hN4.ge1) x hx))
 have e_i5 : ∀ x ∈ [g3], w.heap.size ≤ x := fun x hx => Nat.le_trans hC.size ((hN4.ge1) x hx)
 have hM : MS ([g3] ++ (M)) w2 := (MS.app hN4.ms (hM.chg hN4.chg))
 have hC := hC.trans hN4.chg (Ok.nil _ _)
 have hBg3 : Box w2 g3 (cS_api_Addr (⟨(0 : Int), (List.replicate 16 (0 : Int))⟩ : S_api_Addr)) := hN4.box
 refine seg ha 1 [(0, .string (bstr a0)), (2, .pointer (some ⟨g3, 0, none⟩))] (by kernel_rfl) fun a ha => ?_
 refine hK1 _ _ ?_; try clear hK1 K1
 refine wp_seq_k fun K6 hK6 => ?_
 refine wp_seq_k fun K7 hK7 => ?_
 refine wp_region_lit ?_
 refine seg ha 2 [(0, .string (bstr a0)), (2, .pointer (some ⟨g3, 0, none⟩)), (7, .bool ((bstr a0).toList == (bstr ([] : List UInt8)).toList))] (by kernel_rfl) fun a ha => ?_
 refine hK7 _ _ ?_; try clear hK7 K7
 refine cnd ha rfl (fun hc8 => ?_) (fun hc8 => ?_)
 ·have H := ite_t hc8 H
  refine wp_seq_k fun K9 hK9 => ?_
  refine wp_region_lit ?_
  refine opk (v := .agg (cS_api_Addr (⟨(0 : Int), (List.replicate 16 (0 : Int))⟩ : S_api_Addr)).toArray) ha rfl rfl rfl rfl rfl (fun w => by kernel_rfl) fun a ha => ?_
  refine stA (l := (cS_api_Addr (⟨(0 : Int), (List.replicate 16 (0 : Int))⟩ : S_api_Addr))) ha rfl rfl rfl (by kernel_rfl) rfl rfl hBg3 rfl fun a w10 ha hb2 hc11 _ => ?_
  have o1 : Ok [g3] ([g3] ++ (M)) w2.heap.size := (fun _ h => .inl (ml h))
  have o2 : Ok ([g3] ++ (M)) ([g3] ++ (M)) w2.heap.size := (Ok.refl _ _)
  have hG := hG.chg hc11 o1 o2
  have hM : MS ([g3] ++ (M)) w10 := (hM.chg hc11)
  have hC := hC.trans hc11 (fun x h => .inr (e_i5 x h))
  have hBg3 : Box w10 g3 (cS_api_Addr (⟨(0 : Int), (List.replicate 16 (0 : Int))⟩ : S_api_Addr)) := hb2
  refine seg ha 1 [(2, .pointer (some ⟨g3, 0, none⟩)), (3, .int .i64 (0 : Int))] (by kernel_rfl) fun a ha => ?_
  refine hK9 _ _ ?_; try clear hK9 K9
  refine wp_ret ?_
  try simp only [Exit.then, Exit.inBlock]
  have o1 : Ok [] ([g3] ++ (M)) w10.heap.size := Ok.nil _ _
  have o2 : Ok (M) ([g3] ++ (M)) w10.heap.size := (fun _ h => .inl (mr (h)))
  have hG := hG.chg (Chg.refl [] _) o1 o2
  have hBg3 := hBg3.chg (Chg.refl [] _) (fun h => nomatch h)
  have hM : MS (M) w10 := (fun x h => hM.chg (Chg.refl [] _) x (mr (h)))
  have hC := hC.trans (Chg.refl [] _) (Ok.nil _ _)
  obtain rfl := Option.some.inj H
  refine rtr ha (res2 rfl (roA ha rfl hBg3 (by kernel_rfl)) (roT ha rfl)) ?_
  exact ⟨rfl, hC, hM⟩
 ·have H := ite_f hc8 H
  refine wp_skip ?_
  refine hK6 _ _ ?_; try clear hK6 K6
  refine wp_seq_k fun K12 hK12 => ?_
  refine wp_region_lit ?_
  refine seg ha 1 [(0, .string (bstr a0)), (2, .pointer (some ⟨g3, 0, none⟩)), (10, .string (bstr a0))] (by kernel_rfl) fun a ha => ?_
  obtain ⟨t13, H13, H⟩ := bind_some H
  refine cl ha (by rfl) (by kernel_rfl) (by rfl) (by rfl) (by rfl) (addr_read4.walk w2 _ hM a0 k _ H13) ?_
  rintro _ w13 ⟨rfl, hc13, hMn⟩ a ha
  have o1 : Ok [] ([g3] ++ (M)) w2.heap.size := Ok.nil _ _
  have o2 : Ok ([g3] ++ (M)) ([g3] ++ (M)) w2.heap.size := (Ok.refl _ _)
  have hG := hG.chg hc13 o1 o2
  have hBg3 := hBg3.chg hc13 (fun h => nomatch h)
  have hM : MS ([g3] ++ (M)) w13 := (hM.chg hc13)
  have hC := hC.trans hc13 (Ok.nil _ _)
  refine seg ha 3 [(0, .string (bstr a0)), (2, .pointer (some ⟨g3, 0, none⟩)), (12, .agg (cS_api_Addr t13.1).toArray), (13, .bool t13.2)] (by kernel_rfl) fun a ha => ?_
  refine al (cs := (cS_api_Addr (⟨(0 : Int), (List.replicate 16 (0 : Int))⟩ : S_api_Addr))) (z := .agg (cS_api_Addr (⟨(0 : Int), (List.replicate 16 (0 : Int))⟩ : S_api_Addr)).toArray) ha (fun w => by kernel_rfl) rfl rfl rfl rfl fun a w14 g15 hN16 ha => ?_
  have o1 : Ok [] ([g3] ++ (M)) w13.heap.size := Ok.nil _ _
  have o2 : Ok ([g15] ++ ([g3] ++ (M))) ([g3] ++ (M)) w13.heap.size := (Ok.app (hN16.ok _) (Ok.refl _ _))
  have hG := hG.chg hN16.chg o1 o2
  have hBg3 := hBg3.chg hN16.chg (fun h => nomatch h)
  have p_i17_i5 : ∀ x ∈ [g15], x ∉ ([g3]) := fun x hx hy => absurd (hM x (ml hy)) (Nat.not_lt.2 ((hN16.ge1) x hx))
  have p_i17_M : ∀ x ∈ [g15], x ∉ M := fun x hx hy => absurd (hM x (mr (hy))) (Nat.not_lt.2 ((hN16.ge1) x hx))
  have e_i17 : ∀ x ∈ [g15], w.heap.size ≤ x := fun x hx => Nat.le_trans hC.size ((hN16.ge1) x hx)
  have hM : MS ([g15] ++ ([g3] ++ (M))) w14 := (MS.app hN16.ms (hM.chg hN16.chg))
  have hC := hC.trans hN16.chg (Ok.nil _ _)
  have hBg15 : Box w14 g15 (cS_api_Addr (⟨(0 : Int), (List.replicate 16 (0 : Int))⟩ : S_api_Addr)) := hN16.box
  refine stA (l := (cS_api_Addr t13.1)) ha rfl rfl rfl (by kernel_rfl) rfl rfl hBg15 rfl fun a w18 ha hb2 hc19 _ => ?_
  have o1 : Ok [g15] ([g15] ++ ([g3] ++ (M))) w14.heap.size := (fun _ h => .inl (ml h))
  have o2 : Ok ([g15] ++ ([g3] ++ (M))) ([g15] ++ ([g3] ++ (M))) w14.heap.size := (Ok.refl _ _)
  have hG := hG.chg hc19 o1 o2
  have hBg3 := hBg3.chg hc19 ((fun x (hx : x ∈ [g3]) (hy : x ∈ [g15]) => p_i17_i5 x hy hx) g3 (by simp))
  have hM : MS ([g15] ++ ([g3] ++ (M))) w18 := (hM.chg hc19)
  have hC := hC.trans hc19 (fun x h => .inr (e_i17 x h))
  have hBg15 : Box w18 g15 (cS_api_Addr t13.1) := hb2
  refine seg ha 1 [(0, .string (bstr a0)), (2, .pointer (some ⟨g3, 0, none⟩)), (4, .pointer (some ⟨g15, 0, none⟩)), (5, .bool t13.2)] (by kernel_rfl) fun a ha => ?_
  refine hK12 _ _ ?_; try clear hK12 K12
  refine wp_seq_k fun K20 hK20 => ?_
  obtain ⟨s21, H21, H⟩ := bind_some H
  have J21 : ∀ (a : Act) (w21 : World), Has a Tryd.f12.ntmps [(0, .string (bstr a0)), (2, .pointer (some ⟨g3, 0, none⟩)), (4, .pointer (some ⟨g15, 0, none⟩)), (5, .bool s21.1)] → (Box w21 g3 (cS_api_Addr (⟨(0 : Int), (List.replicate 16 (0 : Int))⟩ : S_api_Addr))) → (Box w21 g15 (cS_api_Addr (⟨s21.2.1, s21.2.2⟩ : S_api_Addr))) → (GF w21 ([g15] ++ ([g3] ++ (M)))) → (Chg [] w w21) → (MS ([g15] ++ ([g3] ++ (M))) w21) → K20 a w21 := by
   intro a w21 ha hBg3 hBg15 hG hC hM
   refine hK20 _ _ ?_; try clear hK20 K20
   refine wp_seq_k fun K22 hK22 => ?_
   refine wp_seq_k fun K23 hK23 => ?_
   refine wp_region_lit ?_
   obtain ⟨s24, H24, H⟩ := bind_some H
   have J24 : ∀ (a : Act) (w24 : World), Has a Tryd.f12.ntmps [(2, .pointer (some ⟨g3, 0, none⟩)), (4, .pointer (some ⟨g15, 0, none⟩)), (28, .bool s24)] → (Box w24 g3 (cS_api_Addr (⟨(0 : Int), (List.replicate 16 (0 : Int))⟩ : S_api_Addr))) → (Box w24 g15 (cS_api_Addr (⟨s21.2.1, s21.2.2⟩ : S_api_Addr))) → (GF w24 ([g15] ++ ([g3] ++ (M)))) → (Chg [] w w24) → (MS ([g15] ++ ([g3] ++ (M))) w24) → K23 a w24 := by
    intro a w24 ha hBg3 hBg15 hG hC hM
    refine hK23 _ _ ?_; try clear hK23 K23
    refine cnd ha rfl (fun hc25 => ?_) (fun hc25 => ?_)
    ·have H := ite_t hc25 H
     refine wp_seq_k fun K26 hK26 => ?_
     refine wp_region_lit ?_
     refine opk (v := .agg (cS_api_Addr (⟨(0 : Int), (List.replicate 16 (0 : Int))⟩ : S_api_Addr)).toArray) ha rfl rfl rfl rfl rfl (fun w => by kernel_rfl) fun a ha => ?_
     refine stA (l := (cS_api_Addr (⟨(0 : Int), (List.replicate 16 (0 : Int))⟩ : S_api_Addr))) ha rfl rfl rfl (by kernel_rfl) rfl rfl hBg3 rfl fun a w27 ha hb2 hc28 _ => ?_
     have o1 : Ok [g3] ([g15] ++ ([g3] ++ (M))) w24.heap.size := (fun _ h => .inl (mr (ml h)))
     have o2 : Ok ([g15] ++ ([g3] ++ (M))) ([g15] ++ ([g3] ++ (M))) w24.heap.size := (Ok.refl _ _)
     have hG := hG.chg hc28 o1 o2
     have hBg15 := hBg15.chg hc28 (p_i17_i5 g15 (by simp))
     have hM : MS ([g15] ++ ([g3] ++ (M))) w27 := (hM.chg hc28)
     have hC := hC.trans hc28 (fun x h => .inr (e_i5 x h))
     have hBg3 : Box w27 g3 (cS_api_Addr (⟨(0 : Int), (List.replicate 16 (0 : Int))⟩ : S_api_Addr)) := hb2
     refine seg ha 1 [(2, .pointer (some ⟨g3, 0, none⟩)), (3, .int .i64 (4 : Int))] (by kernel_rfl) fun a ha => ?_
     refine hK26 _ _ ?_; try clear hK26 K26
     refine wp_ret ?_
     try simp only [Exit.then, Exit.inBlock]
     have o1 : Ok [] ([g15] ++ ([g3] ++ (M))) w27.heap.size := Ok.nil _ _
     have o2 : Ok (M) ([g15] ++ ([g3] ++ (M))) w27.heap.size := (fun _ h => .inl (mr (mr (h))))
     have hG := hG.chg (Chg.refl [] _) o1 o2
     have hBg3 := hBg3.chg (Chg.refl [] _) (fun h => nomatch h)
     have hBg15 := hBg15.chg (Chg.refl [] _) (fun h => nomatch h)
     have hM : MS (M) w27 := (fun x h => hM.chg (Chg.refl [] _) x (mr (mr (h))))
     have hC := hC.trans (Chg.refl [] _) (Ok.nil _ _)
     obtain rfl := Option.some.inj H
     refine rtr ha (res2 rfl (roA ha rfl hBg3 (by kernel_rfl)) (roT ha rfl)) ?_
     exact ⟨rfl, hC, hM⟩
    ·have H := ite_f hc25 H
     refine wp_skip ?_
     refine hK22 _ _ ?_; try clear hK22 K22
     refine wp_seq_k fun K29 hK29 => ?_
     refine wp_region_lit ?_
     refine ldA (cs := (cS_api_Addr (⟨s21.2.1, s21.2.2⟩ : S_api_Addr))) ha rfl (by kernel_rfl) rfl rfl rfl (cells_sub (Box.cells hBg15) (all := (cS_api_Addr (⟨s21.2.1, s21.2.2⟩ : S_api_Addr))) [] [] (by kernel_rfl)) fun a ha => ?_
     refine stA (l := (cS_api_Addr (⟨s21.2.1, s21.2.2⟩ : S_api_Addr))) ha rfl rfl rfl (by kernel_rfl) rfl rfl hBg3 rfl fun a w30 ha hb2 hc31 _ => ?_
     have o1 : Ok [g3] ([g15] ++ ([g3] ++ (M))) w24.heap.size := (fun _ h => .inl (mr (ml h)))
     have o2 : Ok ([g15] ++ ([g3] ++ (M))) ([g15] ++ ([g3] ++ (M))) w24.heap.size := (Ok.refl _ _)
     have hG := hG.chg hc31 o1 o2
     have hBg15 := hBg15.chg hc31 (p_i17_i5 g15 (by simp))
     have hM : MS ([g15] ++ ([g3] ++ (M))) w30 := (hM.chg hc31)
     have hC := hC.trans hc31 (fun x h => .inr (e_i5 x h))
     have hBg3 : Box w30 g3 (cS_api_Addr (⟨s21.2.1, s21.2.2⟩ : S_api_Addr)) := hb2
     refine seg ha 1 [(2, .pointer (some ⟨g3, 0, none⟩)), (3, .int .i64 (0 : Int))] (by kernel_rfl) fun a ha => ?_
     refine hK29 _ _ ?_; try clear hK29 K29
     refine wp_ret ?_
     try simp only [Exit.then, Exit.inBlock]
     have o1 : Ok [] ([g15] ++ ([g3] ++ (M))) w30.heap.size := Ok.nil _ _
     have o2 : Ok (M) ([g15] ++ ([g3] ++ (M))) w30.heap.size := (fun _ h => .inl (mr (mr (h))))
     have hG := hG.chg (Chg.refl [] _) o1 o2
     have hBg3 := hBg3.chg (Chg.refl [] _) (fun h => nomatch h)
     have hBg15 := hBg15.chg (Chg.refl [] _) (fun h => nomatch h)
     have hM : MS (M) w30 := (fun x h => hM.chg (Chg.refl [] _) x (mr (mr (h))))
     have hC := hC.trans (Chg.refl [] _) (Ok.nil _ _)
     obtain rfl := Option.some.inj H
     refine rtr ha (res2 rfl (roA ha rfl hBg3 (by kernel_rfl)) (roT ha rfl)) ?_
     exact ⟨rfl, hC, hM⟩
   have H := H24
   refine seg ha 3 [(23, .bool (!s21.1)), (0, .string (bstr a0)), (2, .pointer (some ⟨g3, 0, none⟩)), (4, .pointer (some ⟨g15, 0, none⟩))] (by kernel_rfl) fun a ha => ?_
   rcases Bool.eq_false_or_eq_true (!s21.1) with hb32 | hb32
   ·have ha := ha.lit hb32
    have H := ite_t hb32 H
    refine sgh ha 5 [1, 1, 1, 1, 3] [(2, .pointer (some ⟨g3, 0, none⟩)), (4, .pointer (some ⟨g15, 0, none⟩)), (28, .bool true)] (by kernel_rfl) fun a ha => ?_
    obtain rfl := Option.some.inj H
    exact J24 _ _ (ha.sel (by kernel_rfl)) hBg3 hBg15 hG hC hM
   ·have ha := ha.lit hb32
    have H := ite_f hb32 H
    refine ldA (cs := (cS_api_Addr (⟨s21.2.1, s21.2.2⟩ : S_api_Addr))) ha rfl (by kernel_rfl) rfl rfl rfl (cells_sub (Box.cells hBg15) (all := (cS_api_Addr (⟨s21.2.1, s21.2.2⟩ : S_api_Addr))) [] [] (by kernel_rfl)) fun a ha => ?_
    obtain ⟨t33, H33, H⟩ := bind_some H
    refine cl ha (by rfl) (by kernel_rfl) (by rfl) (by rfl) (by rfl) (addr_Text.walk w21 _ hM hG (⟨s21.2.1, s21.2.2⟩ : S_api_Addr) k _ H33) ?_
    rintro _ w33 ⟨rfl, hc33, hMn⟩ a ha
    have o1 : Ok [] ([g15] ++ ([g3] ++ (M))) w21.heap.size := Ok.nil _ _
    have o2 : Ok ([g15] ++ ([g3] ++ (M))) ([g15] ++ ([g3] ++ (M))) w21.heap.size := (Ok.refl _ _)
    have hG := hG.chg hc33 o1 o2
    have hBg3 := hBg3.chg hc33 (fun h => nomatch h)
    have hBg15 := hBg15.chg hc33 (fun h => nomatch h)
    have hM : MS ([g15] ++ ([g3] ++ (M))) w33 := (hM.chg hc33)
    have hC := hC.trans hc33 (Ok.nil _ _)
    refine sgh ha 3 [2, 2, 4] [(2, .pointer (some ⟨g3, 0, none⟩)), (4, .pointer (some ⟨g15, 0, none⟩)), (28, .bool (!((bstr t33).toList == (bstr a0).toList)))] (by kernel_rfl) fun a ha => ?_
    obtain rfl := Option.some.inj H
    exact J24 _ _ (ha.sel (by kernel_rfl)) hBg3 hBg15 hG hC hM
  have H := H21
  refine wp_seq_k fun K34 hK34 => ?_
  refine wp_region_lit ?_
  refine seg ha 2 [(0, .string (bstr a0)), (2, .pointer (some ⟨g3, 0, none⟩)), (4, .pointer (some ⟨g15, 0, none⟩)), (5, .bool t13.2), (15, .bool (!t13.2))] (by kernel_rfl) fun a ha => ?_
  refine hK34 _ _ ?_; try clear hK34 K34
  refine cnd ha rfl (fun hc35 => ?_) (fun hc35 => ?_)
  ·have H := ite_t hc35 H
   refine wp_region_lit ?_
   refine seg ha 1 [(0, .string (bstr a0)), (2, .pointer (some ⟨g3, 0, none⟩)), (4, .pointer (some ⟨g15, 0, none⟩)), (17, .string (bstr a0))] (by kernel_rfl) fun a ha => ?_
   obtain ⟨t36, H36, H⟩ := bind_some H
   refine cl ha (by rfl) (by kernel_rfl) (by rfl) (by rfl) (by rfl) (addr_read6.walk w18 _ hM hG a0 k _ H36) ?_
   rintro _ w36 ⟨rfl, hc36, hMn⟩ a ha
   have o1 : Ok [] ([g15] ++ ([g3] ++ (M))) w18.heap.size := Ok.nil _ _
   have o2 : Ok ([g15] ++ ([g3] ++ (M))) ([g15] ++ ([g3] ++ (M))) w18.heap.size := (Ok.refl _ _)
   have hG := hG.chg hc36 o1 o2
   have hBg3 := hBg3.chg hc36 (fun h => nomatch h)
   have hBg15 := hBg15.chg hc36 (fun h => nomatch h)
   have hM : MS ([g15] ++ ([g3] ++ (M))) w36 := (hM.chg hc36)
   have hC := hC.trans hc36 (Ok.nil _ _)
   refine seg ha 3 [(0, .string (bstr a0)), (2, .pointer (some ⟨g3, 0, none⟩)), (4, .pointer (some ⟨g15, 0, none⟩)), (19, .agg (cS_api_Addr t36.1).toArray), (20, .bool t36.2)] (by kernel_rfl) fun a ha => ?_
   refine stA (l := (cS_api_Addr t36.1)) ha rfl rfl rfl (by kernel_rfl) rfl rfl hBg15 rfl fun a w37 ha hb2 hc38 _ => ?_
   have o1 : Ok [g15] ([g15] ++ ([g3] ++ (M))) w36.heap.size := (fun _ h => .inl (ml h))
   have o2 : Ok ([g15] ++ ([g3] ++ (M))) ([g15] ++ ([g3] ++ (M))) w36.heap.size := (Ok.refl _ _)
   have hG := hG.chg hc38 o1 o2
   have hBg3 := hBg3.chg hc38 ((fun x (hx : x ∈ [g3]) (hy : x ∈ [g15]) => p_i17_i5 x hy hx) g3 (by simp))
   have hM : MS ([g15] ++ ([g3] ++ (M))) w37 := (hM.chg hc38)
   have hC := hC.trans hc38 (fun x h => .inr (e_i17 x h))
   have hBg15 : Box w37 g15 (cS_api_Addr t36.1) := hb2
   refine seg ha 1 [(0, .string (bstr a0)), (2, .pointer (some ⟨g3, 0, none⟩)), (4, .pointer (some ⟨g15, 0, none⟩)), (5, .bool t36.2)] (by kernel_rfl) fun a ha => ?_
   obtain rfl := Option.some.inj H
   exact J21 _ _ (ha.sel (by kernel_rfl)) hBg3 hBg15 hG hC hM
  ·have H := ite_f hc35 H
   refine wp_skip ?_
   obtain rfl := Option.some.inj H
   exact J21 _ _ (ha.sel (by kernel_rfl)) hBg3 hBg15 hG hC hM
def addr_mask.f (a0 : Int) : Option (Int) := (if (decide (a0 ≤ (0 : Int))) = true then some (((0 : Int) : Int)) else (if (decide (a0 ≥ (8 : Int))) = true then some (((255 : Int) : Int)) else (if 0 ≤ (IntKind.i64.wrap ((8 : Int) - a0)) then some ((IntKind.u8.wrap ((255 : Int) * 2 ^ (min (Int.toNat (IntKind.i64.wrap ((8 : Int) - a0))) IntKind.u8.bits)) : Int)) else none)))
set_option maxRecDepth 100000 in
theorem addr_mask.walk (w : World) (M : List Nat) (hM : MS M w) (a0 : Int) (r : Int) (H : addr_mask.f a0 = some r) :
    To Tryd.prog 68 [.int .i64 a0] w fun v w' => v = .int .u8 r ∧ Chg [] w w' ∧ MS (M) w' := by
 unfold addr_mask.f at H
 refine ent Tryd.func68 rfl [(0, .int .i64 a0)] rfl (by rfl) fun a ha => ?_
 have hC : Chg [] w w := Chg.refl _ _
 refine wp_seq_k fun K1 hK1 => ?_
 refine wp_region_lit ?_
 refine seg ha 1 [(0, .int .i64 a0)] (by kernel_rfl) fun a ha => ?_
 refine hK1 _ _ ?_; try clear hK1 K1
 refine wp_seq_k fun K2 hK2 => ?_
 refine wp_block ?_
 refine wp_seq_k fun K3 hK3 => ?_
 refine wp_region_lit ?_
 refine seg ha 3 [(0, .int .i64 a0), (3, .bool (decide (a0 ≤ (0 : Int))))] (by kernel_rfl) fun a ha => ?_
 refine hK3 _ _ ?_; try clear hK3 K3
 refine cnd ha rfl (fun hc4 => ?_) (fun hc4 => ?_)
 ·have H := ite_t hc4 H
  refine wp_seq_k fun K5 hK5 => ?_
  refine wp_region_lit ?_
  refine seg ha 1 [(2, .int .u8 (0 : Int))] (by kernel_rfl) fun a ha => ?_
  refine hK5 _ _ ?_; try clear hK5 K5
  refine wp_ret ?_
  try simp only [Exit.then, Exit.inBlock]
  obtain rfl := Option.some.inj H
  refine rt1 ha rfl rfl ?_
  exact ⟨rfl, hC, hM⟩
 ·have H := ite_f hc4 H
  refine wp_seq_k fun K6 hK6 => ?_
  refine wp_region_lit ?_
  refine seg ha 3 [(0, .int .i64 a0), (6, .bool (decide (a0 ≥ (8 : Int))))] (by kernel_rfl) fun a ha => ?_
  refine hK6 _ _ ?_; try clear hK6 K6
  refine cnd ha rfl (fun hc7 => ?_) (fun hc7 => ?_)
  ·have H := ite_t hc7 H
   refine wp_seq_k fun K8 hK8 => ?_
   refine wp_region_lit ?_
   refine seg ha 1 [(2, .int .u8 (255 : Int))] (by kernel_rfl) fun a ha => ?_
   refine hK8 _ _ ?_; try clear hK8 K8
   refine wp_ret ?_
   try simp only [Exit.then, Exit.inBlock]
   obtain rfl := Option.some.inj H
   refine rt1 ha rfl rfl ?_
   exact ⟨rfl, hC, hM⟩
  ·have H := ite_f hc7 H
   refine wp_skip ?_
   refine hK2 _ _ ?_; try clear hK2 K2
   refine wp_seq_k fun K9 hK9 => ?_
   refine wp_region_lit ?_
   refine seg ha 2 [(10, .int .i64 (IntKind.i64.wrap ((8 : Int) - a0)))] (by kernel_rfl) fun a ha => ?_
   obtain ⟨hx10, H⟩ := ite_some H
   refine hop (v := .int .u8 (IntKind.u8.wrap ((255 : Int) * 2 ^ (min (Int.toNat (IntKind.i64.wrap ((8 : Int) - a0))) IntKind.u8.bits)))) (w' := w) ha rfl rfl rfl (shl_run ha (by rfl) (by rfl) hx10 _) fun a ha => ?_
   refine seg ha 1 [(2, .int .u8 (IntKind.u8.wrap ((255 : Int) * 2 ^ (min (Int.toNat (IntKind.i64.wrap ((8 : Int) - a0))) IntKind.u8.bits))))] (by kernel_rfl) fun a ha => ?_
   refine hK9 _ _ ?_; try clear hK9 K9
   refine wp_ret ?_
   try simp only [Exit.then, Exit.inBlock]
   obtain rfl := Option.some.inj H
   refine rt1 ha rfl rfl ?_
   exact ⟨rfl, hC, hM⟩
def addr_cut.l0 (a1 : Int) : Nat → Int → (List Int) → Option (List Int)
  | 0, _, _ => none
  | kk + 1, x13, x14 => (if (decide (x13 < (16 : Int))) = true then (if 0 ≤ x13 ∧ x13 < (16 : Int) then (addr_mask.f (IntKind.i64.wrap (a1 - (IntKind.i64.wrap ((8 : Int) * x13))))).bind fun t24 => (if 0 ≤ x13 ∧ x13 < (16 : Int) then addr_cut.l0 a1 kk (IntKind.i64.wrap (x13 + (1 : Int))) ((arL 16 x14).set (Int.toNat x13) (IntKind.u8.wrap (BitVec.ofInt IntKind.u8.bits (ar x14 (Int.toNat x13)) &&& BitVec.ofInt IntKind.u8.bits t24).toNat)) else none) else none) else some (x14 : List Int))
def addr_cut.f (k : Nat) (a0 : S_api_Addr) (a1 : Int) : Option (S_api_Addr) := (addr_cut.l0 a1 k (0 : Int) a0.B).bind fun s12 => some (((⟨a0.Size, s12⟩ : S_api_Addr) : S_api_Addr))
set_option maxRecDepth 100000 in
theorem addr_cut.walk (w : World) (M : List Nat) (hM : MS M w) (a0 : S_api_Addr) (a1 : Int) (k : Nat) (r : S_api_Addr) (H : addr_cut.f k a0 a1 = some r) :
    To Tryd.prog 45 [.agg (cS_api_Addr a0).toArray, .int .i64 a1] w fun v w' => v = .agg (cS_api_Addr r).toArray ∧ Chg [] w w' ∧ MS (M) w' := by
 unfold addr_cut.f at H
 refine ent Tryd.func45 rfl [(0, .agg (cS_api_Addr a0).toArray), (1, .int .i64 a1)] rfl (by rfl) fun a ha => ?_
 have hC : Chg [] w w := Chg.refl _ _
 refine wp_seq_k fun K1 hK1 => ?_
 refine wp_region_lit ?_
 refine bx (cs := (cS_api_Addr a0)) ha rfl rfl rfl rfl rfl fun a w2 g3 hN4 ha => ?_
 have p_i5_M : ∀ x ∈ [g3], x ∉ M := fun x hx hy => absurd (hM x (hy)) (Nat.not_lt.2 ((hN4.ge1) x hx))
 have e_i5 : ∀ x ∈ [g3], w.heap.size ≤ x := fun x hx => Nat.le_trans hC.size ((hN4.ge1) x hx)
 have hM : MS ([g3] ++ (M)) w2 := (MS.app hN4.ms (hM.chg hN4.chg))
 have hC := hC.trans hN4.chg (Ok.nil _ _)
 have hBg3 : Box w2 g3 (cS_api_Addr a0) := hN4.box
 refine al (cs := (cS_api_Addr (⟨(0 : Int), (List.replicate 16 (0 : Int))⟩ : S_api_Addr))) (z := .agg (cS_api_Addr (⟨(0 : Int), (List.replicate 16 (0 : Int))⟩ : S_api_Addr)).toArray) ha (fun w => by kernel_rfl) rfl rfl rfl rfl fun a w6 g7 hN8 ha => ?_
 have hBg3 := hBg3.chg hN8.chg (fun h => nomatch h)
 have p_i9_i5 : ∀ x ∈ [g7], x ∉ ([g3]) := fun x hx hy => absurd (hM x (ml hy)) (Nat.not_lt.2 ((hN8.ge1) x hx))
 have p_i9_M : ∀ x ∈ [g7], x ∉ M := fun x hx hy => absurd (hM x (mr (hy))) (Nat.not_lt.2 ((hN8.ge1) x hx))
 have e_i9 : ∀ x ∈ [g7], w.heap.size ≤ x := fun x hx => Nat.le_trans hC.size ((hN8.ge1) x hx)
 have hM : MS ([g7] ++ ([g3] ++ (M))) w6 := (MS.app hN8.ms (hM.chg hN8.chg))
 have hC := hC.trans hN8.chg (Ok.nil _ _)
 have hBg7 : Box w6 g7 (cS_api_Addr (⟨(0 : Int), (List.replicate 16 (0 : Int))⟩ : S_api_Addr)) := hN8.box
 refine hK1 _ _ ?_; try clear hK1 K1
 refine wp_seq_k fun K10 hK10 => ?_
 refine wp_seq_k fun K11 hK11 => ?_
 refine wp_region_lit ?_
 refine seg ha 1 [(1, .int .i64 a1), (2, .pointer (some ⟨g3, 0, none⟩)), (4, .pointer (some ⟨g7, 0, none⟩)), (6, .int .i64 (0 : Int))] (by kernel_rfl) fun a ha => ?_
 refine hK11 _ _ ?_; try clear hK11 K11
 refine wp_block ?_
 obtain ⟨s12, H12, H⟩ := bind_some H
 have J12 : ∀ (a : Act) (wx12 : World), Has a Tryd.f45.ntmps [(2, .pointer (some ⟨g3, 0, none⟩)), (4, .pointer (some ⟨g7, 0, none⟩))] → (Box wx12 g3 (cS_api_Addr (⟨a0.Size, s12⟩ : S_api_Addr))) → (Box wx12 g7 (cS_api_Addr (⟨(0 : Int), (List.replicate 16 (0 : Int))⟩ : S_api_Addr))) → (Chg [] w wx12) → (MS ([g7] ++ ([g3] ++ (M))) wx12) → K10 a wx12 := by
  intro a wx12 ha hBg3 hBg7 hC hM
  refine hK10 _ _ ?_; try clear hK10 K10
  refine wp_seq_k fun K15 hK15 => ?_
  refine wp_region_lit ?_
  refine ldA (cs := (cS_api_Addr (⟨a0.Size, s12⟩ : S_api_Addr))) ha rfl (by kernel_rfl) rfl rfl rfl (cells_sub (Box.cells hBg3) (all := (cS_api_Addr (⟨a0.Size, s12⟩ : S_api_Addr))) [] [] (by kernel_rfl)) fun a ha => ?_
  refine stA (l := (cS_api_Addr (⟨a0.Size, s12⟩ : S_api_Addr))) ha rfl rfl rfl (by kernel_rfl) rfl rfl hBg7 rfl fun a w16 ha hb2 hc17 _ => ?_
  have hBg3 := hBg3.chg hc17 ((fun x (hx : x ∈ [g3]) (hy : x ∈ [g7]) => p_i9_i5 x hy hx) g3 (by simp))
  have hM : MS ([g7] ++ ([g3] ++ (M))) w16 := (hM.chg hc17)
  have hC := hC.trans hc17 (fun x h => .inr (e_i9 x h))
  have hBg7 : Box w16 g7 (cS_api_Addr (⟨a0.Size, s12⟩ : S_api_Addr)) := hb2
  refine hK15 _ _ ?_; try clear hK15 K15
  refine wp_ret ?_
  try simp only [Exit.then, Exit.inBlock]
  have hBg3 := hBg3.chg (Chg.refl [] _) (fun h => nomatch h)
  have hBg7 := hBg7.chg (Chg.refl [] _) (fun h => nomatch h)
  have hM : MS (M) w16 := (fun x h => hM.chg (Chg.refl [] _) x (mr (mr (h))))
  have hC := hC.trans (Chg.refl [] _) (Ok.nil _ _)
  obtain rfl := Option.some.inj H
  refine rtr ha (res1 rfl (roA ha rfl hBg7 (by kernel_rfl))) ?_
  exact ⟨rfl, hC, hM⟩
 have Hc12 := H
 have H := H12
 refine wp_loop_ghost (fun kk a w12 => ∃ (x13 : Int) (x14 : List Int), addr_cut.l0 a1 kk x13 x14 = some s12 ∧ Has a Tryd.f45.ntmps [(1, .int .i64 a1), (2, .pointer (some ⟨g3, 0, none⟩)), (4, .pointer (some ⟨g7, 0, none⟩)), (6, .int .i64 x13)] ∧ (Box w12 g3 (cS_api_Addr (⟨a0.Size, x14⟩ : S_api_Addr))) ∧ (Box w12 g7 (cS_api_Addr (⟨(0 : Int), (List.replicate 16 (0 : Int))⟩ : S_api_Addr))) ∧ (Chg [] w w12) ∧ (MS ([g7] ++ ([g3] ++ (M))) w12)) k ?_ ?_
 ·skip
  exact ⟨(0 : Int), a0.B, H, (ha.sel (by kernel_rfl)), hBg3, hBg7, hC, hM⟩
 ·rintro kk a w12 ⟨x13, x14, H, ha, hBg3, hBg7, hC, hM⟩
  obtain _ | kk := kk
  ·exact nomatch (show none = some _ from H)
  rw [addr_cut.l0] at H
  refine wp_seq_k fun K18 hK18 => ?_
  refine wp_region_lit ?_
  refine seg ha 1 [(1, .int .i64 a1), (2, .pointer (some ⟨g3, 0, none⟩)), (4, .pointer (some ⟨g7, 0, none⟩)), (6, .int .i64 x13), (7, .bool (decide (x13 < (16 : Int))))] (by kernel_rfl) fun a ha => ?_
  refine hK18 _ _ ?_; try clear hK18 K18
  refine wp_seq_k fun K19 hK19 => ?_
  refine cnd ha rfl (fun hc20 => ?_) (fun hc20 => ?_)
  ·have H := ite_t hc20 H
   refine wp_skip ?_
   refine hK19 _ _ ?_; try clear hK19 K19
   refine wp_seq_k fun K21 hK21 => ?_
   refine wp_block ?_
   refine wp_seq_k fun K22 hK22 => ?_
   refine wp_region_lit ?_
   refine seg ha 2 [(1, .int .i64 a1), (2, .pointer (some ⟨g3, 0, none⟩)), (4, .pointer (some ⟨g7, 0, none⟩)), (5, .int .i64 x13), (6, .int .i64 x13)] (by kernel_rfl) fun a ha => ?_
   refine hK22 _ _ ?_; try clear hK22 K22
   refine drq 12 (fun w' => Chg [] w12 w') (by kernel_rfl) (by kernel_rfl) (fun _ h => h) ?_
   refine qp 0 (.int .i64 x13) ha rfl rfl rfl (by kernel_rfl) fun a ha => ?_
   refine qp 0 (.pointer (some ⟨g3, 1, none⟩)) ha rfl rfl rfl (by kernel_rfl) fun a ha => ?_
   obtain ⟨⟨hx23, hx23'⟩, H⟩ := ite_some H
   have hi23 : (Int.toNat x13) < 16 := by omega
   refine qv (v := .pointer (some ⟨g3, 1 + (Int.toNat x13), none⟩)) ha rfl rfl rfl (fun w' hs => ixA_run (T := 5) (N := 16) (g := g3) (o' := 1) (k := .i64) (i := x13) ha (by kernel_rfl) (by kernel_rfl) (by rfl) (by rfl) hx23 hx23' w') fun a ha => ?_
   refine qv (v := .int .u8 (ar x14 (Int.toNat x13))) ha rfl rfl rfl (fun w' hs => ld_run ha rfl (by kernel_rfl) ((Box.chg hBg3 hs (fun h => nomatch h)).cell' (o := 1 + (Int.toNat x13)) rfl (arr_cell (k := .u8) (m := 16) (x := x14) ([.int .i64 a0.Size] : List Value) ([] : List Value) (by kernel_rfl) hi23))) fun a ha => ?_
   refine qp 0 (.int .i64 a1) ha rfl rfl rfl (by kernel_rfl) fun a ha => ?_
   refine qp 0 (.int .i64 x13) ha rfl rfl rfl (by kernel_rfl) fun a ha => ?_
   refine qp 0 (.int .i64 (IntKind.i64.wrap ((8 : Int) * x13))) ha rfl rfl rfl (by kernel_rfl) fun a ha => ?_
   refine qp 0 (.int .i64 (IntKind.i64.wrap (a1 - (IntKind.i64.wrap ((8 : Int) * x13))))) ha rfl rfl rfl (by kernel_rfl) fun a ha => ?_
   obtain ⟨t24, H24, H⟩ := bind_some H
   refine qc (.int .u8 t24) ha (by rfl) (by kernel_rfl) (by rfl) (by rfl) (by rfl) (fun w' hs => (addr_mask.walk w' [] (MS.nil _) (IntKind.i64.wrap (a1 - (IntKind.i64.wrap ((8 : Int) * x13)))) _ H24).mono fun v w'' ⟨hv, hc, _⟩ => ⟨hv, hs.trans hc (Ok.nil _ _)⟩) fun a ha => ?_
   refine qp 0 (.int .u8 (IntKind.u8.wrap (BitVec.ofInt IntKind.u8.bits (ar x14 (Int.toNat x13)) &&& BitVec.ofInt IntKind.u8.bits t24).toNat)) ha rfl rfl rfl (by kernel_rfl) fun a ha => ?_
   refine qp 0 (.pointer (some ⟨g3, 1, none⟩)) ha rfl rfl rfl (by kernel_rfl) fun a ha => ?_
   obtain ⟨⟨hx25, hx25'⟩, H⟩ := ite_some H
   have hi25 : (Int.toNat x13) < 16 := by omega
   refine qv (v := .pointer (some ⟨g3, 1 + (Int.toNat x13), none⟩)) ha rfl rfl rfl (fun w' hs => ixA_run (T := 5) (N := 16) (g := g3) (o' := 1) (k := .i64) (i := x13) ha (by kernel_rfl) (by kernel_rfl) (by rfl) (by rfl) hx25 hx25' w') fun a ha => ?_
   refine wpQuiet_nil ?_
   intro w26 hc27
   have hBg3 := hBg3.chg hc27 (fun h => nomatch h)
   have hBg7 := hBg7.chg hc27 (fun h => nomatch h)
   have hM : MS ([g7] ++ ([g3] ++ (M))) w26 := (hM.chg hc27)
   have hC := hC.trans hc27 (Ok.nil _ _)
   refine st (o' := 1 + (Int.toNat x13)) ha rfl rfl rfl (by kernel_rfl) rfl rfl hBg3 (arr_lt (k := .u8) (m := 16) (x := x14) ([.int .i64 a0.Size] : List Value) ([] : List Value) (by kernel_rfl) hi25) fun a w28 ha hb2 hc29 _ => ?_
   have hBg7 := hBg7.chg hc29 (p_i9_i5 g7 (by simp))
   have hM : MS ([g7] ++ ([g3] ++ (M))) w28 := (hM.chg hc29)
   have hC := hC.trans hc29 (fun x h => .inr (e_i5 x h))
   have hBg3 : Box w28 g3 (cS_api_Addr (⟨a0.Size, ((arL 16 x14).set (Int.toNat x13) (IntKind.u8.wrap (BitVec.ofInt IntKind.u8.bits (ar x14 (Int.toNat x13)) &&& BitVec.ofInt IntKind.u8.bits t24).toNat))⟩ : S_api_Addr)) := Box.setA (k := .u8) (m := 16) (x := x14) ([.int .i64 a0.Size] : List Value) ([] : List Value) hb2 (by kernel_rfl) hi25 (by kernel_rfl)
   refine hK21 _ _ ?_; try clear hK21 K21
   refine wp_region_lit ?_
   refine seg ha 2 [(1, .int .i64 a1), (2, .pointer (some ⟨g3, 0, none⟩)), (4, .pointer (some ⟨g7, 0, none⟩)), (6, .int .i64 (IntKind.i64.wrap (x13 + (1 : Int))))] (by kernel_rfl) fun a ha => ?_
   exact ⟨kk, Nat.lt_succ_self _, ⟨IntKind.i64.wrap (x13 + (1 : Int)), ((arL 16 x14).set (Int.toNat x13) (IntKind.u8.wrap (BitVec.ofInt IntKind.u8.bits (ar x14 (Int.toNat x13)) &&& BitVec.ofInt IntKind.u8.bits t24).toNat)), H, (ha.sel (by kernel_rfl)), hBg3, hBg7, hC, hM⟩⟩
  ·have H := ite_f hc20 H
   refine wp_exit ?_
   simp only [Exit.then, Exit.inBlock, ↓reduceIte, Nat.reduceEqDiff]
   obtain rfl := Option.some.inj H
   exact J12 _ _ (ha.sel (by kernel_rfl)) hBg3 hBg7 hC hM
def addr_Cut.f (k : Nat) (a0 : S_api_Addr) (a1 : Int) : Option (S_api_Prefix × Int) := ((addr_Right.f k a0).bind fun t22 => (if (!t22) = true then some (true : Bool) else (if (a0.Size == (0 : Int)) = true then some (true : Bool) else (if (decide (a1 < (0 : Int))) = true then some (true : Bool) else some (decide (a1 > (IntKind.i64.wrap ((8 : Int) * a0.Size))) : Bool))))).bind fun s13 => (if s13 = true then some (((⟨(⟨(0 : Int), (List.replicate 16 (0 : Int))⟩ : S_api_Addr), (0 : Int)⟩ : S_api_Prefix) : S_api_Prefix), ((1 : Int) : Int)) else (addr_cut.f k a0 a1).bind fun t19 => some (((⟨t19, a1⟩ : S_api_Prefix) : S_api_Prefix), ((0 : Int) : Int)))
set_option maxRecDepth 100000 in
theorem addr_Cut.walk (w : World) (M : List Nat) (hM : MS M w) (a0 : S_api_Addr) (a1 : Int) (k : Nat) (r : S_api_Prefix × Int) (H : addr_Cut.f k a0 a1 = some r) :
    To Tryd.prog 16 [.agg (cS_api_Addr a0).toArray, .int .i64 a1] w fun v w' => v = .tuple #[.agg (cS_api_Prefix r.1).toArray, .int .i64 r.2] ∧ Chg [] w w' ∧ MS (M) w' := by
 unfold addr_Cut.f at H
 refine ent Tryd.func16 rfl [(0, .agg (cS_api_Addr a0).toArray), (1, .int .i64 a1)] rfl (by rfl) fun a ha => ?_
 have hC : Chg [] w w := Chg.refl _ _
 refine wp_seq_k fun K1 hK1 => ?_
 refine wp_region_lit ?_
 refine bx (cs := (cS_api_Addr a0)) ha rfl rfl rfl rfl rfl fun a w2 g3 hN4 ha => ?_
 have hn6 := hN4.notin hM
 have hM : MS (M) w2 := (hM.chg hN4.chg)
 have hC := hC.trans hN4.chg (Ok.nil _ _)
 have hE5 : ∀ j v, (cS_api_Addr a0)[j]? = some v → w2.cell? ⟨g3, 0 + j, none⟩ = some v := Box.cells (New.box hN4)
 refine al (cs := (cS_api_Prefix (⟨(⟨(0 : Int), (List.replicate 16 (0 : Int))⟩ : S_api_Addr), (0 : Int)⟩ : S_api_Prefix))) (z := .agg (cS_api_Prefix (⟨(⟨(0 : Int), (List.replicate 16 (0 : Int))⟩ : S_api_Addr), (0 : Int)⟩ : S_api_Prefix)).toArray) ha (fun w => by kernel_rfl) rfl rfl rfl rfl fun a w7 g8 hN9 ha => ?_
 have o1 : Ok [] (M) w2.heap.size := Ok.nil _ _
 have o2 : Ok ([g8] ++ (M)) (M) w2.heap.size := (Ok.app (hN9.ok _) (Ok.refl _ _))
 have q_hn6 : g3 ∉ [g8] ++ (M) := fun h => (o2 g3 h).elim hn6 (fun h => absurd (lt_cell (hE5 0 _ rfl)) (Nat.not_lt.2 h))
 have hE5 : ∀ j v, (cS_api_Addr a0)[j]? = some v → w7.cell? ⟨g3, 0 + j, none⟩ = some v := fun j v hv => (cell_keep hN9.chg o1 hn6 (hE5 j v hv))
 have hn6 := q_hn6
 have p_i10_M : ∀ x ∈ [g8], x ∉ M := fun x hx hy => absurd (hM x (hy)) (Nat.not_lt.2 ((hN9.ge1) x hx))
 have e_i10 : ∀ x ∈ [g8], w.heap.size ≤ x := fun x hx => Nat.le_trans hC.size ((hN9.ge1) x hx)
 have hM : MS ([g8] ++ (M)) w7 := (MS.app hN9.ms (hM.chg hN9.chg))
 have hC := hC.trans hN9.chg (Ok.nil _ _)
 have hBg8 : Box w7 g8 (cS_api_Prefix (⟨(⟨(0 : Int), (List.replicate 16 (0 : Int))⟩ : S_api_Addr), (0 : Int)⟩ : S_api_Prefix)) := hN9.box
 refine seg ha 1 [(1, .int .i64 a1), (2, .pointer (some ⟨g3, 0, none⟩)), (4, .pointer (some ⟨g8, 0, none⟩))] (by kernel_rfl) fun a ha => ?_
 refine hK1 _ _ ?_; try clear hK1 K1
 refine wp_seq_k fun K11 hK11 => ?_
 refine wp_seq_k fun K12 hK12 => ?_
 refine wp_region_lit ?_
 obtain ⟨s13, H13, H⟩ := bind_some H
 have J13 : ∀ (a : Act) (w13 : World), Has a Tryd.f16.ntmps [(1, .int .i64 a1), (2, .pointer (some ⟨g3, 0, none⟩)), (4, .pointer (some ⟨g8, 0, none⟩)), (24, .bool s13)] → (Box w13 g8 (cS_api_Prefix (⟨(⟨(0 : Int), (List.replicate 16 (0 : Int))⟩ : S_api_Addr), (0 : Int)⟩ : S_api_Prefix))) → (∀ j v, (cS_api_Addr a0)[j]? = some v → w13.cell? ⟨g3, 0 + j, none⟩ = some v) → (g3 ∉ ([g8] ++ (M))) → (Chg [] w w13) → (MS ([g8] ++ (M)) w13) → K12 a w13 := by
  intro a w13 ha hBg8 hE5 hn6 hC hM
  refine hK12 _ _ ?_; try clear hK12 K12
  refine cnd ha rfl (fun hc14 => ?_) (fun hc14 => ?_)
  ·have H := ite_t hc14 H
   refine wp_seq_k fun K15 hK15 => ?_
   refine wp_region_lit ?_
   refine opk (v := .agg (cS_api_Prefix (⟨(⟨(0 : Int), (List.replicate 16 (0 : Int))⟩ : S_api_Addr), (0 : Int)⟩ : S_api_Prefix)).toArray) ha rfl rfl rfl rfl rfl (fun w => by kernel_rfl) fun a ha => ?_
   refine stA (l := (cS_api_Prefix (⟨(⟨(0 : Int), (List.replicate 16 (0 : Int))⟩ : S_api_Addr), (0 : Int)⟩ : S_api_Prefix))) ha rfl rfl rfl (by kernel_rfl) rfl rfl hBg8 rfl fun a w16 ha hb2 hc17 _ => ?_
   have hM : MS ([g8] ++ (M)) w16 := (hM.chg hc17)
   have hC := hC.trans hc17 (fun x h => .inr (e_i10 x h))
   have hBg8 : Box w16 g8 (cS_api_Prefix (⟨(⟨(0 : Int), (List.replicate 16 (0 : Int))⟩ : S_api_Addr), (0 : Int)⟩ : S_api_Prefix)) := hb2
   refine seg ha 1 [(4, .pointer (some ⟨g8, 0, none⟩)), (5, .int .i64 (1 : Int))] (by kernel_rfl) fun a ha => ?_
   refine hK15 _ _ ?_; try clear hK15 K15
   refine wp_ret ?_
   try simp only [Exit.then, Exit.inBlock]
   have hBg8 := hBg8.chg (Chg.refl [] _) (fun h => nomatch h)
   have hM : MS (M) w16 := (fun x h => hM.chg (Chg.refl [] _) x (mr (h)))
   have hC := hC.trans (Chg.refl [] _) (Ok.nil _ _)
   obtain rfl := Option.some.inj H
   refine rtr ha (res2 rfl (roA ha rfl hBg8 (by kernel_rfl)) (roT ha rfl)) ?_
   exact ⟨rfl, hC, hM⟩
  ·have H := ite_f hc14 H
   refine wp_skip ?_
   refine hK11 _ _ ?_; try clear hK11 K11
   refine wp_seq_k fun K18 hK18 => ?_
   refine wp_region_lit ?_
   refine ldA (cs := (cS_api_Addr a0)) ha rfl (by kernel_rfl) rfl rfl rfl (cells_sub hE5 (all := (cS_api_Addr a0)) [] [] (by kernel_rfl)) fun a ha => ?_
   refine seg ha 1 [(1, .int .i64 a1), (4, .pointer (some ⟨g8, 0, none⟩)), (26, .agg (cS_api_Addr a0).toArray), (27, .int .i64 a1)] (by kernel_rfl) fun a ha => ?_
   obtain ⟨t19, H19, H⟩ := bind_some H
   refine cl ha (by rfl) (by kernel_rfl) (by rfl) (by rfl) (by rfl) (addr_cut.walk w13 _ hM a0 a1 k _ H19) ?_
   rintro _ w19 ⟨rfl, hc19, hMn⟩ a ha
   have hBg8 := hBg8.chg hc19 (fun h => nomatch h)
   have hM : MS ([g8] ++ (M)) w19 := (hM.chg hc19)
   have hC := hC.trans hc19 (Ok.nil _ _)
   refine seg ha 1 [(4, .pointer (some ⟨g8, 0, none⟩)), (28, .agg (cS_api_Addr t19).toArray), (29, .int .i64 a1)] (by kernel_rfl) fun a ha => ?_
   refine opk (v := .agg (cS_api_Prefix (⟨t19, a1⟩ : S_api_Prefix)).toArray) ha rfl rfl rfl rfl rfl (fun w => by kernel_rfl) fun a ha => ?_
   refine stA (l := (cS_api_Prefix (⟨t19, a1⟩ : S_api_Prefix))) ha rfl rfl rfl (by kernel_rfl) rfl rfl hBg8 rfl fun a w20 ha hb2 hc21 _ => ?_
   have hM : MS ([g8] ++ (M)) w20 := (hM.chg hc21)
   have hC := hC.trans hc21 (fun x h => .inr (e_i10 x h))
   have hBg8 : Box w20 g8 (cS_api_Prefix (⟨t19, a1⟩ : S_api_Prefix)) := hb2
   refine seg ha 1 [(4, .pointer (some ⟨g8, 0, none⟩)), (5, .int .i64 (0 : Int))] (by kernel_rfl) fun a ha => ?_
   refine hK18 _ _ ?_; try clear hK18 K18
   refine wp_ret ?_
   try simp only [Exit.then, Exit.inBlock]
   have hBg8 := hBg8.chg (Chg.refl [] _) (fun h => nomatch h)
   have hM : MS (M) w20 := (fun x h => hM.chg (Chg.refl [] _) x (mr (h)))
   have hC := hC.trans (Chg.refl [] _) (Ok.nil _ _)
   obtain rfl := Option.some.inj H
   refine rtr ha (res2 rfl (roA ha rfl hBg8 (by kernel_rfl)) (roT ha rfl)) ?_
   exact ⟨rfl, hC, hM⟩
 have H := H13
 refine ldA (cs := (cS_api_Addr a0)) ha rfl (by kernel_rfl) rfl rfl rfl (cells_sub hE5 (all := (cS_api_Addr a0)) [] [] (by kernel_rfl)) fun a ha => ?_
 obtain ⟨t22, H22, H⟩ := bind_some H
 refine cl ha (by rfl) (by kernel_rfl) (by rfl) (by rfl) (by rfl) (addr_Right.walk w7 _ hM a0 k _ H22) ?_
 rintro _ w22 ⟨rfl, hc22, hMn⟩ a ha
 have o1 : Ok [] ([g8] ++ (M)) w7.heap.size := Ok.nil _ _
 have o2 : Ok ([g8] ++ (M)) ([g8] ++ (M)) w7.heap.size := (Ok.refl _ _)
 have hBg8 := hBg8.chg hc22 (fun h => nomatch h)
 have q_hn6 : g3 ∉ [g8] ++ (M) := fun h => (o2 g3 h).elim hn6 (fun h => absurd (lt_cell (hE5 0 _ rfl)) (Nat.not_lt.2 h))
 have hE5 : ∀ j v, (cS_api_Addr a0)[j]? = some v → w22.cell? ⟨g3, 0 + j, none⟩ = some v := fun j v hv => (cell_keep hc22 o1 hn6 (hE5 j v hv))
 have hn6 := q_hn6
 have hM : MS ([g8] ++ (M)) w22 := (hM.chg hc22)
 have hC := hC.trans hc22 (Ok.nil _ _)
 refine seg ha 2 [(9, .bool (!t22)), (1, .int .i64 a1), (2, .pointer (some ⟨g3, 0, none⟩)), (4, .pointer (some ⟨g8, 0, none⟩))] (by kernel_rfl) fun a ha => ?_
 rcases Bool.eq_false_or_eq_true (!t22) with hb23 | hb23
 ·have ha := ha.lit hb23
  have H := ite_t hb23 H
  refine sgh ha 15 [1, 1, 1, 3, 0, 1, 1, 3, 0, 1, 1, 1, 1, 1, 3] [(1, .int .i64 a1), (2, .pointer (some ⟨g3, 0, none⟩)), (4, .pointer (some ⟨g8, 0, none⟩)), (24, .bool true)] (by kernel_rfl) fun a ha => ?_
  obtain rfl := Option.some.inj H
  exact J13 _ _ (ha.sel (by kernel_rfl)) hBg8 hE5 hn6 hC hM
 ·have ha := ha.lit hb23
  have H := ite_f hb23 H
  refine sgh ha 1 [2] [(1, .int .i64 a1), (2, .pointer (some ⟨g3, 0, none⟩)), (4, .pointer (some ⟨g8, 0, none⟩)), (9, .bool false), (10, .pointer (some ⟨g3, 0, none⟩))] (by kernel_rfl) fun a ha => ?_
  refine ld ha rfl (by kernel_rfl) rfl rfl rfl (hE5 0 (.int .i64 a0.Size) (by kernel_rfl)) fun a ha => ?_
  refine sgh ha 3 [2, 4, 0] [(14, .bool (a0.Size == (0 : Int))), (1, .int .i64 a1), (2, .pointer (some ⟨g3, 0, none⟩)), (4, .pointer (some ⟨g8, 0, none⟩))] (by kernel_rfl) fun a ha => ?_
  rcases Bool.eq_false_or_eq_true (a0.Size == (0 : Int)) with hb24 | hb24
  ·have ha := ha.lit hb24
   have H := ite_t hb24 H
   refine sgh ha 10 [1, 1, 3, 0, 1, 1, 1, 1, 1, 3] [(1, .int .i64 a1), (2, .pointer (some ⟨g3, 0, none⟩)), (4, .pointer (some ⟨g8, 0, none⟩)), (24, .bool true)] (by kernel_rfl) fun a ha => ?_
   obtain rfl := Option.some.inj H
   exact J13 _ _ (ha.sel (by kernel_rfl)) hBg8 hE5 hn6 hC hM
  ·have ha := ha.lit hb24
   have H := ite_f hb24 H
   refine sgh ha 4 [2, 2, 4, 0] [(18, .bool (decide (a1 < (0 : Int)))), (1, .int .i64 a1), (2, .pointer (some ⟨g3, 0, none⟩)), (4, .pointer (some ⟨g8, 0, none⟩))] (by kernel_rfl) fun a ha => ?_
   rcases Bool.eq_false_or_eq_true (decide (a1 < (0 : Int))) with hb25 | hb25
   ·have ha := ha.lit hb25
    have H := ite_t hb25 H
    refine sgh ha 6 [1, 1, 1, 1, 1, 3] [(1, .int .i64 a1), (2, .pointer (some ⟨g3, 0, none⟩)), (4, .pointer (some ⟨g8, 0, none⟩)), (24, .bool true)] (by kernel_rfl) fun a ha => ?_
    obtain rfl := Option.some.inj H
    exact J13 _ _ (ha.sel (by kernel_rfl)) hBg8 hE5 hn6 hC hM
   ·have ha := ha.lit hb25
    have H := ite_f hb25 H
    refine sgh ha 2 [2, 2] [(1, .int .i64 a1), (2, .pointer (some ⟨g3, 0, none⟩)), (4, .pointer (some ⟨g8, 0, none⟩)), (18, .bool false), (19, .int .i64 a1), (20, .pointer (some ⟨g3, 0, none⟩))] (by kernel_rfl) fun a ha => ?_
    refine ld ha rfl (by kernel_rfl) rfl rfl rfl (hE5 0 (.int .i64 a0.Size) (by kernel_rfl)) fun a ha => ?_
    refine sgh ha 3 [2, 2, 4] [(1, .int .i64 a1), (2, .pointer (some ⟨g3, 0, none⟩)), (4, .pointer (some ⟨g8, 0, none⟩)), (24, .bool (decide (a1 > (IntKind.i64.wrap ((8 : Int) * a0.Size)))))] (by kernel_rfl) fun a ha => ?_
    obtain rfl := Option.some.inj H
    exact J13 _ _ (ha.sel (by kernel_rfl)) hBg8 hE5 hn6 hC hM
def addr_right.f (k : Nat) (a0 : S_api_Prefix) : Option (Bool) := (addr_Cut.f k a0.Addr a0.Bits).bind fun t8 => ((if (t8.2 == (0 : Int)) = true then some ((((t8.1.Addr.Size == a0.Addr.Size) && ((eqA 16 t8.1.Addr.B a0.Addr.B) && true)) && ((t8.1.Bits == a0.Bits) && true)) : Bool) else some (false : Bool))).bind fun s16 => some ((s16 : Bool))
set_option maxRecDepth 100000 in
theorem addr_right.walk (w : World) (M : List Nat) (hM : MS M w) (a0 : S_api_Prefix) (k : Nat) (r : Bool) (H : addr_right.f k a0 = some r) :
    To Tryd.prog 46 [.agg (cS_api_Prefix a0).toArray] w fun v w' => v = .bool r ∧ Chg [] w w' ∧ MS (M) w' := by
 unfold addr_right.f at H
 refine ent Tryd.func46 rfl [(0, .agg (cS_api_Prefix a0).toArray)] rfl (by rfl) fun a ha => ?_
 have hC : Chg [] w w := Chg.refl _ _
 refine wp_seq_k fun K1 hK1 => ?_
 refine wp_region_lit ?_
 refine bx (cs := (cS_api_Prefix a0)) ha rfl rfl rfl rfl rfl fun a w2 g3 hN4 ha => ?_
 have hn6 := hN4.notin hM
 have hM : MS (M) w2 := (hM.chg hN4.chg)
 have hC := hC.trans hN4.chg (Ok.nil _ _)
 have hE5 : ∀ j v, (cS_api_Prefix a0)[j]? = some v → w2.cell? ⟨g3, 0 + j, none⟩ = some v := Box.cells (New.box hN4)
 refine seg ha 1 [(1, .pointer (some ⟨g3, 0, none⟩))] (by kernel_rfl) fun a ha => ?_
 refine hK1 _ _ ?_; try clear hK1 K1
 refine wp_seq_k fun K7 hK7 => ?_
 refine wp_region_lit ?_
 refine seg ha 1 [(1, .pointer (some ⟨g3, 0, none⟩)), (6, .pointer (some ⟨g3, 0, none⟩))] (by kernel_rfl) fun a ha => ?_
 refine ldA (cs := (cS_api_Addr a0.Addr)) ha rfl (by kernel_rfl) rfl rfl rfl (cells_sub hE5 (all := (cS_api_Prefix a0)) [] [.int .i64 a0.Bits] (by kernel_rfl)) fun a ha => ?_
 refine seg ha 1 [(1, .pointer (some ⟨g3, 0, none⟩)), (7, .agg (cS_api_Addr a0.Addr).toArray), (8, .pointer (some ⟨g3, 0 + 17, none⟩))] (by kernel_rfl) fun a ha => ?_
 refine ld ha rfl (by kernel_rfl) rfl rfl rfl (hE5 17 (.int .i64 a0.Bits) (by kernel_rfl)) fun a ha => ?_
 obtain ⟨t8, H8, H⟩ := bind_some H
 refine cl ha (by rfl) (by kernel_rfl) (by rfl) (by rfl) (by rfl) (addr_Cut.walk w2 _ hM a0.Addr a0.Bits k _ H8) ?_
 rintro _ w8 ⟨rfl, hc8, hMn⟩ a ha
 have o1 : Ok [] (M) w2.heap.size := Ok.nil _ _
 have o2 : Ok (M) (M) w2.heap.size := (Ok.refl _ _)
 have q_hn6 : g3 ∉ M := fun h => (o2 g3 h).elim hn6 (fun h => absurd (lt_cell (hE5 0 _ rfl)) (Nat.not_lt.2 h))
 have hE5 : ∀ j v, (cS_api_Prefix a0)[j]? = some v → w8.cell? ⟨g3, 0 + j, none⟩ = some v := fun j v hv => (cell_keep hc8 o1 hn6 (hE5 j v hv))
 have hn6 := q_hn6
 have hM : MS (M) w8 := (hM.chg hc8)
 have hC := hC.trans hc8 (Ok.nil _ _)
 refine seg ha 3 [(1, .pointer (some ⟨g3, 0, none⟩)), (11, .agg (cS_api_Prefix t8.1).toArray), (12, .int .i64 t8.2)] (by kernel_rfl) fun a ha => ?_
 refine al (cs := (cS_api_Prefix (⟨(⟨(0 : Int), (List.replicate 16 (0 : Int))⟩ : S_api_Addr), (0 : Int)⟩ : S_api_Prefix))) (z := .agg (cS_api_Prefix (⟨(⟨(0 : Int), (List.replicate 16 (0 : Int))⟩ : S_api_Addr), (0 : Int)⟩ : S_api_Prefix)).toArray) ha (fun w => by kernel_rfl) rfl rfl rfl rfl fun a w9 g10 hN11 ha => ?_
 have o1 : Ok [] (M) w8.heap.size := Ok.nil _ _
 have o2 : Ok ([g10] ++ (M)) (M) w8.heap.size := (Ok.app (hN11.ok _) (Ok.refl _ _))
 have q_hn6 : g3 ∉ [g10] ++ (M) := fun h => (o2 g3 h).elim hn6 (fun h => absurd (lt_cell (hE5 0 _ rfl)) (Nat.not_lt.2 h))
 have hE5 : ∀ j v, (cS_api_Prefix a0)[j]? = some v → w9.cell? ⟨g3, 0 + j, none⟩ = some v := fun j v hv => (cell_keep hN11.chg o1 hn6 (hE5 j v hv))
 have hn6 := q_hn6
 have p_i12_M : ∀ x ∈ [g10], x ∉ M := fun x hx hy => absurd (hM x (hy)) (Nat.not_lt.2 ((hN11.ge1) x hx))
 have e_i12 : ∀ x ∈ [g10], w.heap.size ≤ x := fun x hx => Nat.le_trans hC.size ((hN11.ge1) x hx)
 have hM : MS ([g10] ++ (M)) w9 := (MS.app hN11.ms (hM.chg hN11.chg))
 have hC := hC.trans hN11.chg (Ok.nil _ _)
 have hBg10 : Box w9 g10 (cS_api_Prefix (⟨(⟨(0 : Int), (List.replicate 16 (0 : Int))⟩ : S_api_Addr), (0 : Int)⟩ : S_api_Prefix)) := hN11.box
 refine stA (l := (cS_api_Prefix t8.1)) ha rfl rfl rfl (by kernel_rfl) rfl rfl hBg10 rfl fun a w13 ha hb2 hc14 _ => ?_
 have o1 : Ok [g10] ([g10] ++ (M)) w9.heap.size := (fun _ h => .inl (ml h))
 have o2 : Ok ([g10] ++ (M)) ([g10] ++ (M)) w9.heap.size := (Ok.refl _ _)
 have q_hn6 : g3 ∉ [g10] ++ (M) := fun h => (o2 g3 h).elim hn6 (fun h => absurd (lt_cell (hE5 0 _ rfl)) (Nat.not_lt.2 h))
 have hE5 : ∀ j v, (cS_api_Prefix a0)[j]? = some v → w13.cell? ⟨g3, 0 + j, none⟩ = some v := fun j v hv => (cell_keep hc14 o1 hn6 (hE5 j v hv))
 have hn6 := q_hn6
 have hM : MS ([g10] ++ (M)) w13 := (hM.chg hc14)
 have hC := hC.trans hc14 (fun x h => .inr (e_i12 x h))
 have hBg10 : Box w13 g10 (cS_api_Prefix t8.1) := hb2
 refine seg ha 1 [(1, .pointer (some ⟨g3, 0, none⟩)), (3, .pointer (some ⟨g10, 0, none⟩)), (4, .int .i64 t8.2)] (by kernel_rfl) fun a ha => ?_
 refine hK7 _ _ ?_; try clear hK7 K7
 refine wp_seq_k fun K15 hK15 => ?_
 refine wp_region_lit ?_
 obtain ⟨s16, H16, H⟩ := bind_some H
 have J16 : ∀ (a : Act) (w16 : World), Has a Tryd.f46.ntmps [(2, .bool s16)] → (Box w16 g10 (cS_api_Prefix t8.1)) → (Chg [] w w16) → (MS ([g10] ++ (M)) w16) → K15 a w16 := by
  intro a w16 ha hBg10 hC hM
  refine hK15 _ _ ?_; try clear hK15 K15
  refine wp_ret ?_
  try simp only [Exit.then, Exit.inBlock]
  have hBg10 := hBg10.chg (Chg.refl [] _) (fun h => nomatch h)
  have hM : MS (M) w16 := (fun x h => hM.chg (Chg.refl [] _) x (mr (h)))
  have hC := hC.trans (Chg.refl [] _) (Ok.nil _ _)
  obtain rfl := Option.some.inj H
  refine rt1 ha rfl rfl ?_
  exact ⟨rfl, hC, hM⟩
 have H := H16
 refine seg ha 3 [(15, .bool (t8.2 == (0 : Int))), (1, .pointer (some ⟨g3, 0, none⟩)), (3, .pointer (some ⟨g10, 0, none⟩))] (by kernel_rfl) fun a ha => ?_
 rcases Bool.eq_false_or_eq_true (t8.2 == (0 : Int)) with hb17 | hb17
 ·have ha := ha.lit hb17
  have H := ite_t hb17 H
  refine ldA (cs := (cS_api_Prefix t8.1)) ha rfl (by kernel_rfl) rfl rfl rfl (cells_sub (Box.cells hBg10) (all := (cS_api_Prefix t8.1)) [] [] (by kernel_rfl)) fun a ha => ?_
  refine ldA (cs := (cS_api_Prefix a0)) ha rfl (by kernel_rfl) rfl rfl rfl (cells_sub hE5 (all := (cS_api_Prefix a0)) [] [] (by kernel_rfl)) fun a ha => ?_
  refine hop (v := .bool (((t8.1.Addr.Size == a0.Addr.Size) && ((eqA 16 t8.1.Addr.B a0.Addr.B) && true)) && ((t8.1.Bits == a0.Bits) && true))) (w' := w13) ha rfl rfl rfl (eqs_run (r := (((t8.1.Addr.Size == a0.Addr.Size) && ((eqA 16 t8.1.Addr.B a0.Addr.B) && true)) && ((t8.1.Bits == a0.Bits) && true))) (m := 9) ha rfl rfl (by kernel_rfl) rfl (by kernel_rfl) _) fun a ha => ?_
  refine sgh ha 2 [3, 0] [(2, .bool (((t8.1.Addr.Size == a0.Addr.Size) && ((eqA 16 t8.1.Addr.B a0.Addr.B) && true)) && ((t8.1.Bits == a0.Bits) && true)))] (by kernel_rfl) fun a ha => ?_
  obtain rfl := Option.some.inj H
  exact J16 _ _ (ha.sel (by kernel_rfl)) hBg10 hC hM
 ·have ha := ha.lit hb17
  have H := ite_f hb17 H
  refine sgh ha 5 [1, 1, 1, 4, 0] [(2, .bool false)] (by kernel_rfl) fun a ha => ?_
  obtain rfl := Option.some.inj H
  exact J16 _ _ (ha.sel (by kernel_rfl)) hBg10 hC hM
def addr_PrefixText.f (k : Nat) (a0 : S_api_Prefix) : Option (List UInt8) := (addr_right.f k a0).bind fun t9 => (if (!t9) = true then some ((([] : List UInt8) : List UInt8)) else (addr_Text.f k a0.Addr).bind fun t13 => (if (t13 ++ ([47] : List UInt8)).length ≤ 9223372036854775807 then (strconv_Itoa.f a0.Bits).bind fun t15 => (if ((t13 ++ ([47] : List UInt8)) ++ t15).length ≤ 9223372036854775807 then some (((t13 ++ ([47] : List UInt8)) ++ t15 : List UInt8)) else none) else none))
set_option maxRecDepth 100000 in
theorem addr_PrefixText.walk (w : World) (M : List Nat) (hM : MS M w) (hG : GF w M) (a0 : S_api_Prefix) (k : Nat) (r : List UInt8) (H : addr_PrefixText.f k a0 = some r) :
    To Tryd.prog 21 [.agg (cS_api_Prefix a0).toArray] w fun v w' => v = .string (bstr r) ∧ Chg [] w w' ∧ MS (M) w' := by
 unfold addr_PrefixText.f at H
 refine ent Tryd.func21 rfl [(0, .agg (cS_api_Prefix a0).toArray)] rfl (by rfl) fun a ha => ?_
 have hC : Chg [] w w := Chg.refl _ _
 refine wp_seq_k fun K1 hK1 => ?_
 refine wp_region_lit ?_
 refine bx (cs := (cS_api_Prefix a0)) ha rfl rfl rfl rfl rfl fun a w2 g3 hN4 ha => ?_
 have hn6 := hN4.notin hM
 have o1 : Ok [] (M) w.heap.size := Ok.nil _ _
 have o2 : Ok (M) (M) w.heap.size := (Ok.refl _ _)
 have hG := hG.chg hN4.chg o1 o2
 have hM : MS (M) w2 := (hM.chg hN4.chg)
 have hC := hC.trans hN4.chg (Ok.nil _ _)
 have hE5 : ∀ j v, (cS_api_Prefix a0)[j]? = some v → w2.cell? ⟨g3, 0 + j, none⟩ = some v := Box.cells (New.box hN4)
 refine seg ha 1 [(1, .pointer (some ⟨g3, 0, none⟩))] (by kernel_rfl) fun a ha => ?_
 refine hK1 _ _ ?_; try clear hK1 K1
 refine wp_seq_k fun K7 hK7 => ?_
 refine wp_seq_k fun K8 hK8 => ?_
 refine wp_region_lit ?_
 refine ldA (cs := (cS_api_Prefix a0)) ha rfl (by kernel_rfl) rfl rfl rfl (cells_sub hE5 (all := (cS_api_Prefix a0)) [] [] (by kernel_rfl)) fun a ha => ?_
 obtain ⟨t9, H9, H⟩ := bind_some H
 refine cl ha (by rfl) (by kernel_rfl) (by rfl) (by rfl) (by rfl) (addr_right.walk w2 _ hM a0 k _ H9) ?_
 rintro _ w9 ⟨rfl, hc9, hMn⟩ a ha
 have o1 : Ok [] (M) w2.heap.size := Ok.nil _ _
 have o2 : Ok (M) (M) w2.heap.size := (Ok.refl _ _)
 have hG := hG.chg hc9 o1 o2
 have q_hn6 : g3 ∉ M := fun h => (o2 g3 h).elim hn6 (fun h => absurd (lt_cell (hE5 0 _ rfl)) (Nat.not_lt.2 h))
 have hE5 : ∀ j v, (cS_api_Prefix a0)[j]? = some v → w9.cell? ⟨g3, 0 + j, none⟩ = some v := fun j v hv => (cell_keep hc9 o1 hn6 (hE5 j v hv))
 have hn6 := q_hn6
 have hM : MS (M) w9 := (hM.chg hc9)
 have hC := hC.trans hc9 (Ok.nil _ _)
 refine seg ha 1 [(1, .pointer (some ⟨g3, 0, none⟩)), (5, .bool (!t9))] (by kernel_rfl) fun a ha => ?_
 refine hK8 _ _ ?_; try clear hK8 K8
 refine cnd ha rfl (fun hc10 => ?_) (fun hc10 => ?_)
 ·have H := ite_t hc10 H
  refine wp_seq_k fun K11 hK11 => ?_
  refine wp_region_lit ?_
  refine seg ha 1 [(2, .string (bstr ([] : List UInt8)))] (by kernel_rfl) fun a ha => ?_
  refine hK11 _ _ ?_; try clear hK11 K11
  refine wp_ret ?_
  try simp only [Exit.then, Exit.inBlock]
  obtain rfl := Option.some.inj H
  refine rt1 ha rfl rfl ?_
  exact ⟨rfl, hC, hM⟩
 ·have H := ite_f hc10 H
  refine wp_skip ?_
  refine hK7 _ _ ?_; try clear hK7 K7
  refine wp_seq_k fun K12 hK12 => ?_
  refine drq0 (fun w' => Chg [] w9 w') (by kernel_rfl) (by kernel_rfl) (fun _ h => h) ?_
  refine qp 0 (.pointer (some ⟨g3, 0, none⟩)) ha rfl rfl rfl (by kernel_rfl) fun a ha => ?_
  refine qv (v := .agg (cS_api_Addr a0.Addr).toArray) ha rfl rfl rfl (fun w' hs => ldA_run (cs := (cS_api_Addr a0.Addr)) ha rfl (by kernel_rfl) (cells_sub (fun j v hv => hs.keep (hE5 j v hv)) (all := (cS_api_Prefix a0)) [] [.int .i64 a0.Bits] (by kernel_rfl))) fun a ha => ?_
  obtain ⟨t13, H13, H⟩ := bind_some H
  refine qc (.string (bstr t13)) ha (by rfl) (by kernel_rfl) (by rfl) (by rfl) (by rfl) (fun w' hs => (addr_Text.walk w' [] (MS.nil _) (hG.chg (M' := []) hs (Ok.nil _ _) (Ok.nil _ _)) a0.Addr k _ H13).mono fun v w'' ⟨hv, hc, _⟩ => ⟨hv, hs.trans hc (Ok.nil _ _)⟩) fun a ha => ?_
  obtain ⟨hx14, H⟩ := ite_some H
  refine qv (v := .string (bstr (t13 ++ ([47] : List UInt8)))) ha rfl rfl rfl (fun w' hs => sadd_run ha rfl rfl hx14 w') fun a ha => ?_
  refine qp 0 (.pointer (some ⟨g3, 0 + 17, none⟩)) ha rfl rfl rfl (by kernel_rfl) fun a ha => ?_
  refine qv (v := .int .i64 a0.Bits) ha rfl rfl rfl (fun w' hs => ld_run ha rfl (by kernel_rfl) (hs.keep (hE5 17 (.int .i64 a0.Bits) (by kernel_rfl)))) fun a ha => ?_
  obtain ⟨t15, H15, H⟩ := bind_some H
  refine qc (.string (bstr t15)) ha (by rfl) (by kernel_rfl) (by rfl) (by rfl) (by rfl) (fun w' hs => (strconv_Itoa.walk w' [] (MS.nil _) (hG.chg (M' := []) hs (Ok.nil _ _) (Ok.nil _ _)) a0.Bits _ H15).mono fun v w'' ⟨hv, hc, _⟩ => ⟨hv, hs.trans hc (Ok.nil _ _)⟩) fun a ha => ?_
  obtain ⟨hx16, H⟩ := ite_some H
  refine qv (v := .string (bstr ((t13 ++ ([47] : List UInt8)) ++ t15))) ha rfl rfl rfl (fun w' hs => sadd_run ha rfl rfl hx16 w') fun a ha => ?_
  refine qp 0 (.string (bstr ((t13 ++ ([47] : List UInt8)) ++ t15))) ha rfl rfl rfl (by kernel_rfl) fun a ha => ?_
  refine wpQuiet_nil ?_
  intro w17 hc18
  have o1 : Ok [] (M) w9.heap.size := Ok.nil _ _
  have o2 : Ok (M) (M) w9.heap.size := (Ok.refl _ _)
  have hG := hG.chg hc18 o1 o2
  have q_hn6 : g3 ∉ M := fun h => (o2 g3 h).elim hn6 (fun h => absurd (lt_cell (hE5 0 _ rfl)) (Nat.not_lt.2 h))
  have hE5 : ∀ j v, (cS_api_Prefix a0)[j]? = some v → w17.cell? ⟨g3, 0 + j, none⟩ = some v := fun j v hv => (cell_keep hc18 o1 hn6 (hE5 j v hv))
  have hn6 := q_hn6
  have hM : MS (M) w17 := (hM.chg hc18)
  have hC := hC.trans hc18 (Ok.nil _ _)
  refine wpl_end ?_
  refine hK12 _ _ ?_; try clear hK12 K12
  refine wp_ret ?_
  try simp only [Exit.then, Exit.inBlock]
  obtain rfl := Option.some.inj H
  refine rt1 ha rfl rfl ?_
  exact ⟨rfl, hC, hM⟩
def addr_Has.f (k : Nat) (a0 : S_api_Prefix) (a1 : S_api_Addr) : Option (Bool) := ((addr_right.f k a0).bind fun t14 => (if t14 = true then (addr_Right.f k a1).bind fun t16 => (if t16 = true then (if (a1.Size == a0.Addr.Size) = true then (addr_cut.f k a1 a0.Bits).bind fun t19 => some (((t19.Size == a0.Addr.Size) && ((eqA 16 t19.B a0.Addr.B) && true)) : Bool) else some (false : Bool)) else some (false : Bool)) else some (false : Bool))).bind fun s13 => some ((s13 : Bool))
set_option maxRecDepth 100000 in
theorem addr_Has.walk (w : World) (M : List Nat) (hM : MS M w) (a0 : S_api_Prefix) (a1 : S_api_Addr) (k : Nat) (r : Bool) (H : addr_Has.f k a0 a1 = some r) :
    To Tryd.prog 17 [.agg (cS_api_Prefix a0).toArray, .agg (cS_api_Addr a1).toArray] w fun v w' => v = .bool r ∧ Chg [] w w' ∧ MS (M) w' := by
 unfold addr_Has.f at H
 refine ent Tryd.func17 rfl [(0, .agg (cS_api_Prefix a0).toArray), (1, .agg (cS_api_Addr a1).toArray)] rfl (by rfl) fun a ha => ?_
 have hC : Chg [] w w := Chg.refl _ _
 refine wp_seq_k fun K1 hK1 => ?_
 refine wp_region_lit ?_
 refine bx (cs := (cS_api_Prefix a0)) ha rfl rfl rfl rfl rfl fun a w2 g3 hN4 ha => ?_
 have hn6 := hN4.notin hM
 have hM : MS (M) w2 := (hM.chg hN4.chg)
 have hC := hC.trans hN4.chg (Ok.nil _ _)
 have hE5 : ∀ j v, (cS_api_Prefix a0)[j]? = some v → w2.cell? ⟨g3, 0 + j, none⟩ = some v := Box.cells (New.box hN4)
 refine bx (cs := (cS_api_Addr a1)) ha rfl rfl rfl rfl rfl fun a w7 g8 hN9 ha => ?_
 have hn11 := hN9.notin hM
 have o1 : Ok [] (M) w2.heap.size := Ok.nil _ _
 have o2 : Ok (M) (M) w2.heap.size := (Ok.refl _ _)
 have q_hn6 : g3 ∉ M := fun h => (o2 g3 h).elim hn6 (fun h => absurd (lt_cell (hE5 0 _ rfl)) (Nat.not_lt.2 h))
 have hE5 : ∀ j v, (cS_api_Prefix a0)[j]? = some v → w7.cell? ⟨g3, 0 + j, none⟩ = some v := fun j v hv => (cell_keep hN9.chg o1 hn6 (hE5 j v hv))
 have hn6 := q_hn6
 have hM : MS (M) w7 := (hM.chg hN9.chg)
 have hC := hC.trans hN9.chg (Ok.nil _ _)
 have hE10 : ∀ j v, (cS_api_Addr a1)[j]? = some v → w7.cell? ⟨g8, 0 + j, none⟩ = some v := Box.cells (New.box hN9)
 refine seg ha 1 [(2, .pointer (some ⟨g3, 0, none⟩)), (3, .pointer (some ⟨g8, 0, none⟩))] (by kernel_rfl) fun a ha => ?_
 refine hK1 _ _ ?_; try clear hK1 K1
 refine wp_seq_k fun K12 hK12 => ?_
 refine drq0 (fun w' => Chg [] w7 w') (by kernel_rfl) (by kernel_rfl) (fun _ h => h) ?_
 obtain ⟨s13, H13, H⟩ := bind_some H
 have J13 : ∀ (a : Act) (w13 : World), Has a Tryd.f17.ntmps [(4, .bool s13)] → (Chg [] w w13) → (MS (M) w13) → K12 a w13 := by
  intro a w13 ha hC hM
  refine hK12 _ _ ?_; try clear hK12 K12
  refine wp_ret ?_
  try simp only [Exit.then, Exit.inBlock]
  obtain rfl := Option.some.inj H
  refine rt1 ha rfl rfl ?_
  exact ⟨rfl, hC, hM⟩
 have H := H13
 refine qv (v := .agg (cS_api_Prefix a0).toArray) ha rfl rfl rfl (fun w' hs => ldA_run (cs := (cS_api_Prefix a0)) ha rfl (by kernel_rfl) (cells_sub (fun j v hv => hs.keep (hE5 j v hv)) (all := (cS_api_Prefix a0)) [] [] (by kernel_rfl))) fun a ha => ?_
 obtain ⟨t14, H14, H⟩ := bind_some H
 refine qc (.bool t14) ha (by rfl) (by kernel_rfl) (by rfl) (by rfl) (by rfl) (fun w' hs => (addr_right.walk w' [] (MS.nil _) a0 k _ H14).mono fun v w'' ⟨hv, hc, _⟩ => ⟨hv, hs.trans hc (Ok.nil _ _)⟩) fun a ha => ?_
 refine qp 0 (.bool t14) ha rfl rfl rfl (by kernel_rfl) fun a ha => ?_
 have ha := ha.sel (env' := [(7, .bool t14), (2, .pointer (some ⟨g3, 0, none⟩)), (3, .pointer (some ⟨g8, 0, none⟩))]) (by kernel_rfl)
 rcases Bool.eq_false_or_eq_true (t14) with hb15 | hb15
 ·have ha := ha.lit hb15
  have H := ite_t hb15 H
  refine qv (v := .agg (cS_api_Addr a1).toArray) ha rfl rfl rfl (fun w' hs => ldA_run (cs := (cS_api_Addr a1)) ha rfl (by kernel_rfl) (cells_sub (fun j v hv => hs.keep (hE10 j v hv)) (all := (cS_api_Addr a1)) [] [] (by kernel_rfl))) fun a ha => ?_
  obtain ⟨t16, H16, H⟩ := bind_some H
  refine qc (.bool t16) ha (by rfl) (by kernel_rfl) (by rfl) (by rfl) (by rfl) (fun w' hs => (addr_Right.walk w' [] (MS.nil _) a1 k _ H16).mono fun v w'' ⟨hv, hc, _⟩ => ⟨hv, hs.trans hc (Ok.nil _ _)⟩) fun a ha => ?_
  refine qp 3 (.bool t16) ha rfl rfl rfl (by kernel_rfl) fun a ha => ?_
  refine qp 0 (.bool t16) ha rfl rfl rfl (by kernel_rfl) fun a ha => ?_
  have ha := ha.sel (env' := [(11, .bool t16), (2, .pointer (some ⟨g3, 0, none⟩)), (3, .pointer (some ⟨g8, 0, none⟩))]) (by kernel_rfl)
  rcases Bool.eq_false_or_eq_true (t16) with hb17 | hb17
  ·have ha := ha.lit hb17
   have H := ite_t hb17 H
   refine qp 0 (.pointer (some ⟨g8, 0, none⟩)) ha rfl rfl rfl (by kernel_rfl) fun a ha => ?_
   refine qv (v := .int .i64 a1.Size) ha rfl rfl rfl (fun w' hs => ld_run ha rfl (by kernel_rfl) (hs.keep (hE10 0 (.int .i64 a1.Size) (by kernel_rfl)))) fun a ha => ?_
   refine qp 0 (.pointer (some ⟨g3, 0, none⟩)) ha rfl rfl rfl (by kernel_rfl) fun a ha => ?_
   refine qp 0 (.pointer (some ⟨g3, 0, none⟩)) ha rfl rfl rfl (by kernel_rfl) fun a ha => ?_
   refine qv (v := .int .i64 a0.Addr.Size) ha rfl rfl rfl (fun w' hs => ld_run ha rfl (by kernel_rfl) (hs.keep (hE5 0 (.int .i64 a0.Addr.Size) (by kernel_rfl)))) fun a ha => ?_
   refine qp 0 (.bool (a1.Size == a0.Addr.Size)) ha rfl rfl rfl (by kernel_rfl) fun a ha => ?_
   refine qp 3 (.bool (a1.Size == a0.Addr.Size)) ha rfl rfl rfl (by kernel_rfl) fun a ha => ?_
   refine qp 0 (.bool (a1.Size == a0.Addr.Size)) ha rfl rfl rfl (by kernel_rfl) fun a ha => ?_
   have ha := ha.sel (env' := [(19, .bool (a1.Size == a0.Addr.Size)), (2, .pointer (some ⟨g3, 0, none⟩)), (3, .pointer (some ⟨g8, 0, none⟩))]) (by kernel_rfl)
   rcases Bool.eq_false_or_eq_true (a1.Size == a0.Addr.Size) with hb18 | hb18
   ·have ha := ha.lit hb18
    have H := ite_t hb18 H
    refine qv (v := .agg (cS_api_Addr a1).toArray) ha rfl rfl rfl (fun w' hs => ldA_run (cs := (cS_api_Addr a1)) ha rfl (by kernel_rfl) (cells_sub (fun j v hv => hs.keep (hE10 j v hv)) (all := (cS_api_Addr a1)) [] [] (by kernel_rfl))) fun a ha => ?_
    refine qp 0 (.pointer (some ⟨g3, 0 + 17, none⟩)) ha rfl rfl rfl (by kernel_rfl) fun a ha => ?_
    refine qv (v := .int .i64 a0.Bits) ha rfl rfl rfl (fun w' hs => ld_run ha rfl (by kernel_rfl) (hs.keep (hE5 17 (.int .i64 a0.Bits) (by kernel_rfl)))) fun a ha => ?_
    obtain ⟨t19, H19, H⟩ := bind_some H
    refine qc (.agg (cS_api_Addr t19).toArray) ha (by rfl) (by kernel_rfl) (by rfl) (by rfl) (by rfl) (fun w' hs => (addr_cut.walk w' [] (MS.nil _) a1 a0.Bits k _ H19).mono fun v w'' ⟨hv, hc, _⟩ => ⟨hv, hs.trans hc (Ok.nil _ _)⟩) fun a ha => ?_
    refine qp 0 (.pointer (some ⟨g3, 0, none⟩)) ha rfl rfl rfl (by kernel_rfl) fun a ha => ?_
    refine qv (v := .agg (cS_api_Addr a0.Addr).toArray) ha rfl rfl rfl (fun w' hs => ldA_run (cs := (cS_api_Addr a0.Addr)) ha rfl (by kernel_rfl) (cells_sub (fun j v hv => hs.keep (hE5 j v hv)) (all := (cS_api_Prefix a0)) [] [.int .i64 a0.Bits] (by kernel_rfl))) fun a ha => ?_
    refine qv (v := .bool ((t19.Size == a0.Addr.Size) && ((eqA 16 t19.B a0.Addr.B) && true))) ha rfl rfl rfl (fun w' hs => eqs_run (r := ((t19.Size == a0.Addr.Size) && ((eqA 16 t19.B a0.Addr.B) && true))) (m := 9) ha rfl rfl (by kernel_rfl) rfl (by kernel_rfl) w') fun a ha => ?_
    refine qp 3 (.bool ((t19.Size == a0.Addr.Size) && ((eqA 16 t19.B a0.Addr.B) && true))) ha rfl rfl rfl (by kernel_rfl) fun a ha => ?_
    refine qp 0 (.bool ((t19.Size == a0.Addr.Size) && ((eqA 16 t19.B a0.Addr.B) && true))) ha rfl rfl rfl (by kernel_rfl) fun a ha => ?_
    refine wpQuiet_nil ?_
    intro w20 hc21
    have o1 : Ok [] (M) w7.heap.size := Ok.nil _ _
    have o2 : Ok (M) (M) w7.heap.size := (Ok.refl _ _)
    have q_hn6 : g3 ∉ M := fun h => (o2 g3 h).elim hn6 (fun h => absurd (lt_cell (hE5 0 _ rfl)) (Nat.not_lt.2 h))
    have hE5 : ∀ j v, (cS_api_Prefix a0)[j]? = some v → w20.cell? ⟨g3, 0 + j, none⟩ = some v := fun j v hv => (cell_keep hc21 o1 hn6 (hE5 j v hv))
    have hn6 := q_hn6
    have q_hn11 : g8 ∉ M := fun h => (o2 g8 h).elim hn11 (fun h => absurd (lt_cell (hE10 0 _ rfl)) (Nat.not_lt.2 h))
    have hE10 : ∀ j v, (cS_api_Addr a1)[j]? = some v → w20.cell? ⟨g8, 0 + j, none⟩ = some v := fun j v hv => (cell_keep hc21 o1 hn11 (hE10 j v hv))
    have hn11 := q_hn11
    have hM : MS (M) w20 := (hM.chg hc21)
    have hC := hC.trans hc21 (Ok.nil _ _)
    refine wpl_end ?_
    obtain rfl := Option.some.inj H
    exact J13 _ _ (ha.sel (by kernel_rfl)) hC hM
   ·have ha := ha.lit hb18
    have H := ite_f hb18 H
    refine qo ha rfl rfl rfl fun a ha => ?_
    refine qo ha rfl rfl rfl fun a ha => ?_
    refine qo ha rfl rfl rfl fun a ha => ?_
    refine qo ha rfl rfl rfl fun a ha => ?_
    refine qo ha rfl rfl rfl fun a ha => ?_
    refine qo ha rfl rfl rfl fun a ha => ?_
    refine qo ha rfl rfl rfl fun a ha => ?_
    refine qp 4 (.bool false) ha rfl rfl rfl (by kernel_rfl) fun a ha => ?_
    refine qp 0 (.bool false) ha rfl rfl rfl (by kernel_rfl) fun a ha => ?_
    refine wpQuiet_nil ?_
    intro w22 hc23
    have o1 : Ok [] (M) w7.heap.size := Ok.nil _ _
    have o2 : Ok (M) (M) w7.heap.size := (Ok.refl _ _)
    have q_hn6 : g3 ∉ M := fun h => (o2 g3 h).elim hn6 (fun h => absurd (lt_cell (hE5 0 _ rfl)) (Nat.not_lt.2 h))
    have hE5 : ∀ j v, (cS_api_Prefix a0)[j]? = some v → w22.cell? ⟨g3, 0 + j, none⟩ = some v := fun j v hv => (cell_keep hc23 o1 hn6 (hE5 j v hv))
    have hn6 := q_hn6
    have q_hn11 : g8 ∉ M := fun h => (o2 g8 h).elim hn11 (fun h => absurd (lt_cell (hE10 0 _ rfl)) (Nat.not_lt.2 h))
    have hE10 : ∀ j v, (cS_api_Addr a1)[j]? = some v → w22.cell? ⟨g8, 0 + j, none⟩ = some v := fun j v hv => (cell_keep hc23 o1 hn11 (hE10 j v hv))
    have hn11 := q_hn11
    have hM : MS (M) w22 := (hM.chg hc23)
    have hC := hC.trans hc23 (Ok.nil _ _)
    refine wpl_end ?_
    obtain rfl := Option.some.inj H
    exact J13 _ _ (ha.sel (by kernel_rfl)) hC hM
  ·have ha := ha.lit hb17
   have H := ite_f hb17 H
   refine qo ha rfl rfl rfl fun a ha => ?_
   refine qo ha rfl rfl rfl fun a ha => ?_
   refine qo ha rfl rfl rfl fun a ha => ?_
   refine qo ha rfl rfl rfl fun a ha => ?_
   refine qo ha rfl rfl rfl fun a ha => ?_
   refine qo ha rfl rfl rfl fun a ha => ?_
   refine qp 4 (.bool false) ha rfl rfl rfl (by kernel_rfl) fun a ha => ?_
   refine qp 0 (.bool false) ha rfl rfl rfl (by kernel_rfl) fun a ha => ?_
   refine qo ha rfl rfl rfl fun a ha => ?_
   refine qo ha rfl rfl rfl fun a ha => ?_
   refine qo ha rfl rfl rfl fun a ha => ?_
   refine qo ha rfl rfl rfl fun a ha => ?_
   refine qo ha rfl rfl rfl fun a ha => ?_
   refine qo ha rfl rfl rfl fun a ha => ?_
   refine qo ha rfl rfl rfl fun a ha => ?_
   refine qp 4 (.bool false) ha rfl rfl rfl (by kernel_rfl) fun a ha => ?_
   refine qp 0 (.bool false) ha rfl rfl rfl (by kernel_rfl) fun a ha => ?_
   refine wpQuiet_nil ?_
   intro w24 hc25
   have o1 : Ok [] (M) w7.heap.size := Ok.nil _ _
   have o2 : Ok (M) (M) w7.heap.size := (Ok.refl _ _)
   have q_hn6 : g3 ∉ M := fun h => (o2 g3 h).elim hn6 (fun h => absurd (lt_cell (hE5 0 _ rfl)) (Nat.not_lt.2 h))
   have hE5 : ∀ j v, (cS_api_Prefix a0)[j]? = some v → w24.cell? ⟨g3, 0 + j, none⟩ = some v := fun j v hv => (cell_keep hc25 o1 hn6 (hE5 j v hv))
   have hn6 := q_hn6
   have q_hn11 : g8 ∉ M := fun h => (o2 g8 h).elim hn11 (fun h => absurd (lt_cell (hE10 0 _ rfl)) (Nat.not_lt.2 h))
   have hE10 : ∀ j v, (cS_api_Addr a1)[j]? = some v → w24.cell? ⟨g8, 0 + j, none⟩ = some v := fun j v hv => (cell_keep hc25 o1 hn11 (hE10 j v hv))
   have hn11 := q_hn11
   have hM : MS (M) w24 := (hM.chg hc25)
   have hC := hC.trans hc25 (Ok.nil _ _)
   refine wpl_end ?_
   obtain rfl := Option.some.inj H
   exact J13 _ _ (ha.sel (by kernel_rfl)) hC hM
 ·have ha := ha.lit hb15
  have H := ite_f hb15 H
  refine qo ha rfl rfl rfl fun a ha => ?_
  refine qo ha rfl rfl rfl fun a ha => ?_
  refine qp 4 (.bool false) ha rfl rfl rfl (by kernel_rfl) fun a ha => ?_
  refine qp 0 (.bool false) ha rfl rfl rfl (by kernel_rfl) fun a ha => ?_
  refine qo ha rfl rfl rfl fun a ha => ?_
  refine qo ha rfl rfl rfl fun a ha => ?_
  refine qo ha rfl rfl rfl fun a ha => ?_
  refine qo ha rfl rfl rfl fun a ha => ?_
  refine qo ha rfl rfl rfl fun a ha => ?_
  refine qo ha rfl rfl rfl fun a ha => ?_
  refine qp 4 (.bool false) ha rfl rfl rfl (by kernel_rfl) fun a ha => ?_
  refine qp 0 (.bool false) ha rfl rfl rfl (by kernel_rfl) fun a ha => ?_
  refine qo ha rfl rfl rfl fun a ha => ?_
  refine qo ha rfl rfl rfl fun a ha => ?_
  refine qo ha rfl rfl rfl fun a ha => ?_
  refine qo ha rfl rfl rfl fun a ha => ?_
  refine qo ha rfl rfl rfl fun a ha => ?_
  refine qo ha rfl rfl rfl fun a ha => ?_
  refine qo ha rfl rfl rfl fun a ha => ?_
  refine qp 4 (.bool false) ha rfl rfl rfl (by kernel_rfl) fun a ha => ?_
  refine qp 0 (.bool false) ha rfl rfl rfl (by kernel_rfl) fun a ha => ?_
  refine wpQuiet_nil ?_
  intro w26 hc27
  have o1 : Ok [] (M) w7.heap.size := Ok.nil _ _
  have o2 : Ok (M) (M) w7.heap.size := (Ok.refl _ _)
  have q_hn6 : g3 ∉ M := fun h => (o2 g3 h).elim hn6 (fun h => absurd (lt_cell (hE5 0 _ rfl)) (Nat.not_lt.2 h))
  have hE5 : ∀ j v, (cS_api_Prefix a0)[j]? = some v → w26.cell? ⟨g3, 0 + j, none⟩ = some v := fun j v hv => (cell_keep hc27 o1 hn6 (hE5 j v hv))
  have hn6 := q_hn6
  have q_hn11 : g8 ∉ M := fun h => (o2 g8 h).elim hn11 (fun h => absurd (lt_cell (hE10 0 _ rfl)) (Nat.not_lt.2 h))
  have hE10 : ∀ j v, (cS_api_Addr a1)[j]? = some v → w26.cell? ⟨g8, 0 + j, none⟩ = some v := fun j v hv => (cell_keep hc27 o1 hn11 (hE10 j v hv))
  have hn11 := q_hn11
  have hM : MS (M) w26 := (hM.chg hc27)
  have hC := hC.trans hc27 (Ok.nil _ _)
  refine wpl_end ?_
  obtain rfl := Option.some.inj H
  exact J13 _ _ (ha.sel (by kernel_rfl)) hC hM
def vinerylaw02_small.f (k : Nat) : Option (Bool) := (addr_Parse.f k ([49, 57, 50, 46, 48, 46, 50, 46, 49] : List UInt8)).bind fun t3 => (addr_Parse.f k ([50, 48, 48, 49, 58, 100, 98, 56, 58, 58] : List UInt8)).bind fun t11 => (addr_Parse.f k ([48, 49, 46, 50, 46, 51, 46, 52] : List UInt8)).bind fun t19 => (addr_Cut.f k t3.1 (8 : Int)).bind fun t27 => ((if (t3.2 == (0 : Int)) = true then (if ((t3.1.Size == (4 : Int)) && ((eqA 16 t3.1.B ([(192 : Int), (0 : Int), (2 : Int), (1 : Int), (0 : Int), (0 : Int), (0 : Int), (0 : Int), (0 : Int), (0 : Int), (0 : Int), (0 : Int), (0 : Int), (0 : Int), (0 : Int), (0 : Int)] : List Int)) && true)) = true then (addr_Text.f k t3.1).bind fun t38 => (if ((bstr t38).toList == (bstr ([49, 57, 50, 46, 48, 46, 50, 46, 49] : List UInt8)).toList) = true then (if (t11.2 == (0 : Int)) = true then (addr_Text.f k t11.1).bind fun t41 => (if ((bstr t41).toList == (bstr ([50, 48, 48, 49, 58, 100, 98, 56, 58, 58] : List UInt8)).toList) = true then (if (t19.2 == (4 : Int)) = true then (if (t27.2 == (0 : Int)) = true then (addr_PrefixText.f k t27.1).bind fun t45 => (if ((bstr t45).toList == (bstr ([49, 57, 50, 46, 48, 46, 48, 46, 48, 47, 56] : List UInt8)).toList) = true then (addr_Has.f k t27.1 t3.1).bind fun t47 => some (t47 : Bool) else some (false : Bool)) else some (false : Bool)) else some (false : Bool)) else some (false : Bool)) else some (false : Bool)) else some (false : Bool)) else some (false : Bool)) else some (false : Bool))).bind fun s35 => some ((s35 : Bool))
set_option maxRecDepth 100000 in
theorem vinerylaw02_small.walk (w : World) (M : List Nat) (hM : MS M w) (hG : GF w M)  (k : Nat) (r : Bool) (H : vinerylaw02_small.f k = some r) :
    To Tryd.prog 11 [] w fun v w' => v = .bool r ∧ Chg [] w w' ∧ MS (M) w' := by
 unfold vinerylaw02_small.f at H
 refine ent Tryd.func11 rfl [] rfl (by rfl) fun a ha => ?_
 have hC : Chg [] w w := Chg.refl _ _
 refine wp_seq_k fun K1 hK1 => ?_
 refine wp_region_lit ?_
 refine seg ha 1 [] (by kernel_rfl) fun a ha => ?_
 refine hK1 _ _ ?_; try clear hK1 K1
 refine wp_seq_k fun K2 hK2 => ?_
 refine wp_region_lit ?_
 obtain ⟨t3, H3, H⟩ := bind_some H
 refine cl ha (by rfl) (by kernel_rfl) (by rfl) (by rfl) (by rfl) (addr_Parse.walk w _ hM hG ([49, 57, 50, 46, 48, 46, 50, 46, 49] : List UInt8) k _ H3) ?_
 rintro _ w3 ⟨rfl, hc3, hMn⟩ a ha
 have o1 : Ok [] (M) w.heap.size := Ok.nil _ _
 have o2 : Ok (M) (M) w.heap.size := (Ok.refl _ _)
 have hG := hG.chg hc3 o1 o2
 have hM : MS (M) w3 := (hM.chg hc3)
 have hC := hC.trans hc3 (Ok.nil _ _)
 refine seg ha 3 [(11, .agg (cS_api_Addr t3.1).toArray), (12, .int .i64 t3.2)] (by kernel_rfl) fun a ha => ?_
 refine al (cs := (cS_api_Addr (⟨(0 : Int), (List.replicate 16 (0 : Int))⟩ : S_api_Addr))) (z := .agg (cS_api_Addr (⟨(0 : Int), (List.replicate 16 (0 : Int))⟩ : S_api_Addr)).toArray) ha (fun w => by kernel_rfl) rfl rfl rfl rfl fun a w4 g5 hN6 ha => ?_
 have o1 : Ok [] (M) w3.heap.size := Ok.nil _ _
 have o2 : Ok ([g5] ++ (M)) (M) w3.heap.size := (Ok.app (hN6.ok _) (Ok.refl _ _))
 have hG := hG.chg hN6.chg o1 o2
 have p_i7_M : ∀ x ∈ [g5], x ∉ M := fun x hx hy => absurd (hM x (hy)) (Nat.not_lt.2 ((hN6.ge1) x hx))
 have e_i7 : ∀ x ∈ [g5], w.heap.size ≤ x := fun x hx => Nat.le_trans hC.size ((hN6.ge1) x hx)
 have hM : MS ([g5] ++ (M)) w4 := (MS.app hN6.ms (hM.chg hN6.chg))
 have hC := hC.trans hN6.chg (Ok.nil _ _)
 have hBg5 : Box w4 g5 (cS_api_Addr (⟨(0 : Int), (List.replicate 16 (0 : Int))⟩ : S_api_Addr)) := hN6.box
 refine stA (l := (cS_api_Addr t3.1)) ha rfl rfl rfl (by kernel_rfl) rfl rfl hBg5 rfl fun a w8 ha hb2 hc9 _ => ?_
 have o1 : Ok [g5] ([g5] ++ (M)) w4.heap.size := (fun _ h => .inl (ml h))
 have o2 : Ok ([g5] ++ (M)) ([g5] ++ (M)) w4.heap.size := (Ok.refl _ _)
 have hG := hG.chg hc9 o1 o2
 have hM : MS ([g5] ++ (M)) w8 := (hM.chg hc9)
 have hC := hC.trans hc9 (fun x h => .inr (e_i7 x h))
 have hBg5 : Box w8 g5 (cS_api_Addr t3.1) := hb2
 refine seg ha 1 [(1, .pointer (some ⟨g5, 0, none⟩)), (2, .int .i64 t3.2)] (by kernel_rfl) fun a ha => ?_
 refine hK2 _ _ ?_; try clear hK2 K2
 refine wp_seq_k fun K10 hK10 => ?_
 refine wp_region_lit ?_
 obtain ⟨t11, H11, H⟩ := bind_some H
 refine cl ha (by rfl) (by kernel_rfl) (by rfl) (by rfl) (by rfl) (addr_Parse.walk w8 _ hM hG ([50, 48, 48, 49, 58, 100, 98, 56, 58, 58] : List UInt8) k _ H11) ?_
 rintro _ w11 ⟨rfl, hc11, hMn⟩ a ha
 have o1 : Ok [] ([g5] ++ (M)) w8.heap.size := Ok.nil _ _
 have o2 : Ok ([g5] ++ (M)) ([g5] ++ (M)) w8.heap.size := (Ok.refl _ _)
 have hG := hG.chg hc11 o1 o2
 have hBg5 := hBg5.chg hc11 (fun h => nomatch h)
 have hM : MS ([g5] ++ (M)) w11 := (hM.chg hc11)
 have hC := hC.trans hc11 (Ok.nil _ _)
 refine seg ha 3 [(1, .pointer (some ⟨g5, 0, none⟩)), (2, .int .i64 t3.2), (15, .agg (cS_api_Addr t11.1).toArray), (16, .int .i64 t11.2)] (by kernel_rfl) fun a ha => ?_
 refine al (cs := (cS_api_Addr (⟨(0 : Int), (List.replicate 16 (0 : Int))⟩ : S_api_Addr))) (z := .agg (cS_api_Addr (⟨(0 : Int), (List.replicate 16 (0 : Int))⟩ : S_api_Addr)).toArray) ha (fun w => by kernel_rfl) rfl rfl rfl rfl fun a w12 g13 hN14 ha => ?_
 have o1 : Ok [] ([g5] ++ (M)) w11.heap.size := Ok.nil _ _
 have o2 : Ok ([g13] ++ ([g5] ++ (M))) ([g5] ++ (M)) w11.heap.size := (Ok.app (hN14.ok _) (Ok.refl _ _))
 have hG := hG.chg hN14.chg o1 o2
 have hBg5 := hBg5.chg hN14.chg (fun h => nomatch h)
 have p_i15_i7 : ∀ x ∈ [g13], x ∉ ([g5]) := fun x hx hy => absurd (hM x (ml hy)) (Nat.not_lt.2 ((hN14.ge1) x hx))
 have p_i15_M : ∀ x ∈ [g13], x ∉ M := fun x hx hy => absurd (hM x (mr (hy))) (Nat.not_lt.2 ((hN14.ge1) x hx))
 have e_i15 : ∀ x ∈ [g13], w.heap.size ≤ x := fun x hx => Nat.le_trans hC.size ((hN14.ge1) x hx)
 have hM : MS ([g13] ++ ([g5] ++ (M))) w12 := (MS.app hN14.ms (hM.chg hN14.chg))
 have hC := hC.trans hN14.chg (Ok.nil _ _)
 have hBg13 : Box w12 g13 (cS_api_Addr (⟨(0 : Int), (List.replicate 16 (0 : Int))⟩ : S_api_Addr)) := hN14.box
 refine stA (l := (cS_api_Addr t11.1)) ha rfl rfl rfl (by kernel_rfl) rfl rfl hBg13 rfl fun a w16 ha hb2 hc17 _ => ?_
 have o1 : Ok [g13] ([g13] ++ ([g5] ++ (M))) w12.heap.size := (fun _ h => .inl (ml h))
 have o2 : Ok ([g13] ++ ([g5] ++ (M))) ([g13] ++ ([g5] ++ (M))) w12.heap.size := (Ok.refl _ _)
 have hG := hG.chg hc17 o1 o2
 have hBg5 := hBg5.chg hc17 ((fun x (hx : x ∈ [g5]) (hy : x ∈ [g13]) => p_i15_i7 x hy hx) g5 (by simp))
 have hM : MS ([g13] ++ ([g5] ++ (M))) w16 := (hM.chg hc17)
 have hC := hC.trans hc17 (fun x h => .inr (e_i15 x h))
 have hBg13 : Box w16 g13 (cS_api_Addr t11.1) := hb2
 refine seg ha 1 [(1, .pointer (some ⟨g5, 0, none⟩)), (2, .int .i64 t3.2), (3, .pointer (some ⟨g13, 0, none⟩)), (4, .int .i64 t11.2)] (by kernel_rfl) fun a ha => ?_
 refine hK10 _ _ ?_; try clear hK10 K10
 refine wp_seq_k fun K18 hK18 => ?_
 refine wp_region_lit ?_
 obtain ⟨t19, H19, H⟩ := bind_some H
 refine cl ha (by rfl) (by kernel_rfl) (by rfl) (by rfl) (by rfl) (addr_Parse.walk w16 _ hM hG ([48, 49, 46, 50, 46, 51, 46, 52] : List UInt8) k _ H19) ?_
 rintro _ w19 ⟨rfl, hc19, hMn⟩ a ha
 have o1 : Ok [] ([g13] ++ ([g5] ++ (M))) w16.heap.size := Ok.nil _ _
 have o2 : Ok ([g13] ++ ([g5] ++ (M))) ([g13] ++ ([g5] ++ (M))) w16.heap.size := (Ok.refl _ _)
 have hG := hG.chg hc19 o1 o2
 have hBg5 := hBg5.chg hc19 (fun h => nomatch h)
 have hBg13 := hBg13.chg hc19 (fun h => nomatch h)
 have hM : MS ([g13] ++ ([g5] ++ (M))) w19 := (hM.chg hc19)
 have hC := hC.trans hc19 (Ok.nil _ _)
 refine seg ha 3 [(1, .pointer (some ⟨g5, 0, none⟩)), (2, .int .i64 t3.2), (3, .pointer (some ⟨g13, 0, none⟩)), (4, .int .i64 t11.2), (19, .agg (cS_api_Addr t19.1).toArray), (20, .int .i64 t19.2)] (by kernel_rfl) fun a ha => ?_
 refine al (cs := (cS_api_Addr (⟨(0 : Int), (List.replicate 16 (0 : Int))⟩ : S_api_Addr))) (z := .agg (cS_api_Addr (⟨(0 : Int), (List.replicate 16 (0 : Int))⟩ : S_api_Addr)).toArray) ha (fun w => by kernel_rfl) rfl rfl rfl rfl fun a w20 g21 hN22 ha => ?_
 have o1 : Ok [] ([g13] ++ ([g5] ++ (M))) w19.heap.size := Ok.nil _ _
 have o2 : Ok ([g21] ++ ([g13] ++ ([g5] ++ (M)))) ([g13] ++ ([g5] ++ (M))) w19.heap.size := (Ok.app (hN22.ok _) (Ok.refl _ _))
 have hG := hG.chg hN22.chg o1 o2
 have hBg5 := hBg5.chg hN22.chg (fun h => nomatch h)
 have hBg13 := hBg13.chg hN22.chg (fun h => nomatch h)
 have p_i23_i15 : ∀ x ∈ [g21], x ∉ ([g13]) := fun x hx hy => absurd (hM x (ml hy)) (Nat.not_lt.2 ((hN22.ge1) x hx))
 have p_i23_i7 : ∀ x ∈ [g21], x ∉ ([g5]) := fun x hx hy => absurd (hM x (mr (ml hy))) (Nat.not_lt.2 ((hN22.ge1) x hx))
 have p_i23_M : ∀ x ∈ [g21], x ∉ M := fun x hx hy => absurd (hM x (mr (mr (hy)))) (Nat.not_lt.2 ((hN22.ge1) x hx))
 have e_i23 : ∀ x ∈ [g21], w.heap.size ≤ x := fun x hx => Nat.le_trans hC.size ((hN22.ge1) x hx)
 have hM : MS ([g21] ++ ([g13] ++ ([g5] ++ (M)))) w20 := (MS.app hN22.ms (hM.chg hN22.chg))
 have hC := hC.trans hN22.chg (Ok.nil _ _)
 have hBg21 : Box w20 g21 (cS_api_Addr (⟨(0 : Int), (List.replicate 16 (0 : Int))⟩ : S_api_Addr)) := hN22.box
 refine stA (l := (cS_api_Addr t19.1)) ha rfl rfl rfl (by kernel_rfl) rfl rfl hBg21 rfl fun a w24 ha hb2 hc25 _ => ?_
 have o1 : Ok [g21] ([g21] ++ ([g13] ++ ([g5] ++ (M)))) w20.heap.size := (fun _ h => .inl (ml h))
 have o2 : Ok ([g21] ++ ([g13] ++ ([g5] ++ (M)))) ([g21] ++ ([g13] ++ ([g5] ++ (M)))) w20.heap.size := (Ok.refl _ _)
 have hG := hG.chg hc25 o1 o2
 have hBg5 := hBg5.chg hc25 ((fun x (hx : x ∈ [g5]) (hy : x ∈ [g21]) => p_i23_i7 x hy hx) g5 (by simp))
 have hBg13 := hBg13.chg hc25 ((fun x (hx : x ∈ [g13]) (hy : x ∈ [g21]) => p_i23_i15 x hy hx) g13 (by simp))
 have hM : MS ([g21] ++ ([g13] ++ ([g5] ++ (M)))) w24 := (hM.chg hc25)
 have hC := hC.trans hc25 (fun x h => .inr (e_i23 x h))
 have hBg21 : Box w24 g21 (cS_api_Addr t19.1) := hb2
 refine seg ha 1 [(1, .pointer (some ⟨g5, 0, none⟩)), (2, .int .i64 t3.2), (3, .pointer (some ⟨g13, 0, none⟩)), (4, .int .i64 t11.2), (6, .int .i64 t19.2)] (by kernel_rfl) fun a ha => ?_
 refine hK18 _ _ ?_; try clear hK18 K18
 refine wp_seq_k fun K26 hK26 => ?_
 refine wp_region_lit ?_
 refine ldA (cs := (cS_api_Addr t3.1)) ha rfl (by kernel_rfl) rfl rfl rfl (cells_sub (Box.cells hBg5) (all := (cS_api_Addr t3.1)) [] [] (by kernel_rfl)) fun a ha => ?_
 obtain ⟨t27, H27, H⟩ := bind_some H
 refine cl ha (by rfl) (by kernel_rfl) (by rfl) (by rfl) (by rfl) (addr_Cut.walk w24 _ hM t3.1 (8 : Int) k _ H27) ?_
 rintro _ w27 ⟨rfl, hc27, hMn⟩ a ha
 have o1 : Ok [] ([g21] ++ ([g13] ++ ([g5] ++ (M)))) w24.heap.size := Ok.nil _ _
 have o2 : Ok ([g21] ++ ([g13] ++ ([g5] ++ (M)))) ([g21] ++ ([g13] ++ ([g5] ++ (M)))) w24.heap.size := (Ok.refl _ _)
 have hG := hG.chg hc27 o1 o2
 have hBg5 := hBg5.chg hc27 (fun h => nomatch h)
 have hBg13 := hBg13.chg hc27 (fun h => nomatch h)
 have hBg21 := hBg21.chg hc27 (fun h => nomatch h)
 have hM : MS ([g21] ++ ([g13] ++ ([g5] ++ (M)))) w27 := (hM.chg hc27)
 have hC := hC.trans hc27 (Ok.nil _ _)
 refine seg ha 3 [(1, .pointer (some ⟨g5, 0, none⟩)), (2, .int .i64 t3.2), (3, .pointer (some ⟨g13, 0, none⟩)), (4, .int .i64 t11.2), (6, .int .i64 t19.2), (24, .agg (cS_api_Prefix t27.1).toArray), (25, .int .i64 t27.2)] (by kernel_rfl) fun a ha => ?_
 refine al (cs := (cS_api_Prefix (⟨(⟨(0 : Int), (List.replicate 16 (0 : Int))⟩ : S_api_Addr), (0 : Int)⟩ : S_api_Prefix))) (z := .agg (cS_api_Prefix (⟨(⟨(0 : Int), (List.replicate 16 (0 : Int))⟩ : S_api_Addr), (0 : Int)⟩ : S_api_Prefix)).toArray) ha (fun w => by kernel_rfl) rfl rfl rfl rfl fun a w28 g29 hN30 ha => ?_
 have o1 : Ok [] ([g21] ++ ([g13] ++ ([g5] ++ (M)))) w27.heap.size := Ok.nil _ _
 have o2 : Ok ([g29] ++ ([g21] ++ ([g13] ++ ([g5] ++ (M))))) ([g21] ++ ([g13] ++ ([g5] ++ (M)))) w27.heap.size := (Ok.app (hN30.ok _) (Ok.refl _ _))
 have hG := hG.chg hN30.chg o1 o2
 have hBg5 := hBg5.chg hN30.chg (fun h => nomatch h)
 have hBg13 := hBg13.chg hN30.chg (fun h => nomatch h)
 have hBg21 := hBg21.chg hN30.chg (fun h => nomatch h)
 have p_i31_i23 : ∀ x ∈ [g29], x ∉ ([g21]) := fun x hx hy => absurd (hM x (ml hy)) (Nat.not_lt.2 ((hN30.ge1) x hx))
 have p_i31_i15 : ∀ x ∈ [g29], x ∉ ([g13]) := fun x hx hy => absurd (hM x (mr (ml hy))) (Nat.not_lt.2 ((hN30.ge1) x hx))
 have p_i31_i7 : ∀ x ∈ [g29], x ∉ ([g5]) := fun x hx hy => absurd (hM x (mr (mr (ml hy)))) (Nat.not_lt.2 ((hN30.ge1) x hx))
 have p_i31_M : ∀ x ∈ [g29], x ∉ M := fun x hx hy => absurd (hM x (mr (mr (mr (hy))))) (Nat.not_lt.2 ((hN30.ge1) x hx))
 have e_i31 : ∀ x ∈ [g29], w.heap.size ≤ x := fun x hx => Nat.le_trans hC.size ((hN30.ge1) x hx)
 have hM : MS ([g29] ++ ([g21] ++ ([g13] ++ ([g5] ++ (M))))) w28 := (MS.app hN30.ms (hM.chg hN30.chg))
 have hC := hC.trans hN30.chg (Ok.nil _ _)
 have hBg29 : Box w28 g29 (cS_api_Prefix (⟨(⟨(0 : Int), (List.replicate 16 (0 : Int))⟩ : S_api_Addr), (0 : Int)⟩ : S_api_Prefix)) := hN30.box
 refine stA (l := (cS_api_Prefix t27.1)) ha rfl rfl rfl (by kernel_rfl) rfl rfl hBg29 rfl fun a w32 ha hb2 hc33 _ => ?_
 have o1 : Ok [g29] ([g29] ++ ([g21] ++ ([g13] ++ ([g5] ++ (M))))) w28.heap.size := (fun _ h => .inl (ml h))
 have o2 : Ok ([g29] ++ ([g21] ++ ([g13] ++ ([g5] ++ (M))))) ([g29] ++ ([g21] ++ ([g13] ++ ([g5] ++ (M))))) w28.heap.size := (Ok.refl _ _)
 have hG := hG.chg hc33 o1 o2
 have hBg5 := hBg5.chg hc33 ((fun x (hx : x ∈ [g5]) (hy : x ∈ [g29]) => p_i31_i7 x hy hx) g5 (by simp))
 have hBg13 := hBg13.chg hc33 ((fun x (hx : x ∈ [g13]) (hy : x ∈ [g29]) => p_i31_i15 x hy hx) g13 (by simp))
 have hBg21 := hBg21.chg hc33 ((fun x (hx : x ∈ [g21]) (hy : x ∈ [g29]) => p_i31_i23 x hy hx) g21 (by simp))
 have hM : MS ([g29] ++ ([g21] ++ ([g13] ++ ([g5] ++ (M))))) w32 := (hM.chg hc33)
 have hC := hC.trans hc33 (fun x h => .inr (e_i31 x h))
 have hBg29 : Box w32 g29 (cS_api_Prefix t27.1) := hb2
 refine seg ha 1 [(1, .pointer (some ⟨g5, 0, none⟩)), (2, .int .i64 t3.2), (3, .pointer (some ⟨g13, 0, none⟩)), (4, .int .i64 t11.2), (6, .int .i64 t19.2), (7, .pointer (some ⟨g29, 0, none⟩)), (8, .int .i64 t27.2)] (by kernel_rfl) fun a ha => ?_
 refine hK26 _ _ ?_; try clear hK26 K26
 refine wp_seq_k fun K34 hK34 => ?_
 refine wp_region_lit ?_
 obtain ⟨s35, H35, H⟩ := bind_some H
 have J35 : ∀ (a : Act) (w35 : World), Has a Tryd.f11.ntmps [(0, .bool s35)] → (Box w35 g5 (cS_api_Addr t3.1)) → (Box w35 g13 (cS_api_Addr t11.1)) → (Box w35 g21 (cS_api_Addr t19.1)) → (Box w35 g29 (cS_api_Prefix t27.1)) → (GF w35 ([g29] ++ ([g21] ++ ([g13] ++ ([g5] ++ (M)))))) → (Chg [] w w35) → (MS ([g29] ++ ([g21] ++ ([g13] ++ ([g5] ++ (M))))) w35) → K34 a w35 := by
  intro a w35 ha hBg5 hBg13 hBg21 hBg29 hG hC hM
  refine hK34 _ _ ?_; try clear hK34 K34
  refine wp_ret ?_
  try simp only [Exit.then, Exit.inBlock]
  have o1 : Ok [] ([g29] ++ ([g21] ++ ([g13] ++ ([g5] ++ (M))))) w35.heap.size := Ok.nil _ _
  have o2 : Ok (M) ([g29] ++ ([g21] ++ ([g13] ++ ([g5] ++ (M))))) w35.heap.size := (fun _ h => .inl (mr (mr (mr (mr (h))))))
  have hG := hG.chg (Chg.refl [] _) o1 o2
  have hBg5 := hBg5.chg (Chg.refl [] _) (fun h => nomatch h)
  have hBg13 := hBg13.chg (Chg.refl [] _) (fun h => nomatch h)
  have hBg21 := hBg21.chg (Chg.refl [] _) (fun h => nomatch h)
  have hBg29 := hBg29.chg (Chg.refl [] _) (fun h => nomatch h)
  have hM : MS (M) w35 := (fun x h => hM.chg (Chg.refl [] _) x (mr (mr (mr (mr (h))))))
  have hC := hC.trans (Chg.refl [] _) (Ok.nil _ _)
  obtain rfl := Option.some.inj H
  refine rt1 ha rfl rfl ?_
  exact ⟨rfl, hC, hM⟩
 have H := H35
 refine seg ha 3 [(28, .bool (t3.2 == (0 : Int))), (1, .pointer (some ⟨g5, 0, none⟩)), (3, .pointer (some ⟨g13, 0, none⟩)), (4, .int .i64 t11.2), (6, .int .i64 t19.2), (7, .pointer (some ⟨g29, 0, none⟩)), (8, .int .i64 t27.2)] (by kernel_rfl) fun a ha => ?_
 rcases Bool.eq_false_or_eq_true (t3.2 == (0 : Int)) with hb36 | hb36
 ·have ha := ha.lit hb36
  have H := ite_t hb36 H
  refine ldA (cs := (cS_api_Addr t3.1)) ha rfl (by kernel_rfl) rfl rfl rfl (cells_sub (Box.cells hBg5) (all := (cS_api_Addr t3.1)) [] [] (by kernel_rfl)) fun a ha => ?_
  refine opk (v := .agg (cA .u8 16 ([(192 : Int), (0 : Int), (2 : Int), (1 : Int), (0 : Int), (0 : Int), (0 : Int), (0 : Int), (0 : Int), (0 : Int), (0 : Int), (0 : Int), (0 : Int), (0 : Int), (0 : Int), (0 : Int)] : List Int)).toArray) ha rfl rfl rfl rfl rfl (fun w => by kernel_rfl) fun a ha => ?_
  refine opk (v := .agg (cS_api_Addr (⟨(4 : Int), ([(192 : Int), (0 : Int), (2 : Int), (1 : Int), (0 : Int), (0 : Int), (0 : Int), (0 : Int), (0 : Int), (0 : Int), (0 : Int), (0 : Int), (0 : Int), (0 : Int), (0 : Int), (0 : Int)] : List Int)⟩ : S_api_Addr)).toArray) ha rfl rfl rfl rfl rfl (fun w => by kernel_rfl) fun a ha => ?_
  refine hop (v := .bool ((t3.1.Size == (4 : Int)) && ((eqA 16 t3.1.B ([(192 : Int), (0 : Int), (2 : Int), (1 : Int), (0 : Int), (0 : Int), (0 : Int), (0 : Int), (0 : Int), (0 : Int), (0 : Int), (0 : Int), (0 : Int), (0 : Int), (0 : Int), (0 : Int)] : List Int)) && true))) (w' := w32) ha rfl rfl rfl (eqs_run (r := ((t3.1.Size == (4 : Int)) && ((eqA 16 t3.1.B ([(192 : Int), (0 : Int), (2 : Int), (1 : Int), (0 : Int), (0 : Int), (0 : Int), (0 : Int), (0 : Int), (0 : Int), (0 : Int), (0 : Int), (0 : Int), (0 : Int), (0 : Int), (0 : Int)] : List Int)) && true))) (m := 9) ha rfl rfl (by kernel_rfl) rfl (by kernel_rfl) _) fun a ha => ?_
  refine sgh ha 2 [3, 0] [(34, .bool ((t3.1.Size == (4 : Int)) && ((eqA 16 t3.1.B ([(192 : Int), (0 : Int), (2 : Int), (1 : Int), (0 : Int), (0 : Int), (0 : Int), (0 : Int), (0 : Int), (0 : Int), (0 : Int), (0 : Int), (0 : Int), (0 : Int), (0 : Int), (0 : Int)] : List Int)) && true))), (1, .pointer (some ⟨g5, 0, none⟩)), (3, .pointer (some ⟨g13, 0, none⟩)), (4, .int .i64 t11.2), (6, .int .i64 t19.2), (7, .pointer (some ⟨g29, 0, none⟩)), (8, .int .i64 t27.2)] (by kernel_rfl) fun a ha => ?_
  rcases Bool.eq_false_or_eq_true (((t3.1.Size == (4 : Int)) && ((eqA 16 t3.1.B ([(192 : Int), (0 : Int), (2 : Int), (1 : Int), (0 : Int), (0 : Int), (0 : Int), (0 : Int), (0 : Int), (0 : Int), (0 : Int), (0 : Int), (0 : Int), (0 : Int), (0 : Int), (0 : Int)] : List Int)) && true))) with hb37 | hb37
  ·have ha := ha.lit hb37
   have H := ite_t hb37 H
   refine ldA (cs := (cS_api_Addr t3.1)) ha rfl (by kernel_rfl) rfl rfl rfl (cells_sub (Box.cells hBg5) (all := (cS_api_Addr t3.1)) [] [] (by kernel_rfl)) fun a ha => ?_
   obtain ⟨t38, H38, H⟩ := bind_some H
   refine cl ha (by rfl) (by kernel_rfl) (by rfl) (by rfl) (by rfl) (addr_Text.walk w32 _ hM hG t3.1 k _ H38) ?_
   rintro _ w38 ⟨rfl, hc38, hMn⟩ a ha
   have o1 : Ok [] ([g29] ++ ([g21] ++ ([g13] ++ ([g5] ++ (M))))) w32.heap.size := Ok.nil _ _
   have o2 : Ok ([g29] ++ ([g21] ++ ([g13] ++ ([g5] ++ (M))))) ([g29] ++ ([g21] ++ ([g13] ++ ([g5] ++ (M))))) w32.heap.size := (Ok.refl _ _)
   have hG := hG.chg hc38 o1 o2
   have hBg5 := hBg5.chg hc38 (fun h => nomatch h)
   have hBg13 := hBg13.chg hc38 (fun h => nomatch h)
   have hBg21 := hBg21.chg hc38 (fun h => nomatch h)
   have hBg29 := hBg29.chg hc38 (fun h => nomatch h)
   have hM : MS ([g29] ++ ([g21] ++ ([g13] ++ ([g5] ++ (M))))) w38 := (hM.chg hc38)
   have hC := hC.trans hc38 (Ok.nil _ _)
   refine sgh ha 3 [2, 3, 0] [(39, .bool ((bstr t38).toList == (bstr ([49, 57, 50, 46, 48, 46, 50, 46, 49] : List UInt8)).toList)), (1, .pointer (some ⟨g5, 0, none⟩)), (3, .pointer (some ⟨g13, 0, none⟩)), (4, .int .i64 t11.2), (6, .int .i64 t19.2), (7, .pointer (some ⟨g29, 0, none⟩)), (8, .int .i64 t27.2)] (by kernel_rfl) fun a ha => ?_
   rcases Bool.eq_false_or_eq_true ((bstr t38).toList == (bstr ([49, 57, 50, 46, 48, 46, 50, 46, 49] : List UInt8)).toList) with hb39 | hb39
   ·have ha := ha.lit hb39
    have H := ite_t hb39 H
    refine sgh ha 4 [2, 2, 3, 0] [(43, .bool (t11.2 == (0 : Int))), (1, .pointer (some ⟨g5, 0, none⟩)), (3, .pointer (some ⟨g13, 0, none⟩)), (6, .int .i64 t19.2), (7, .pointer (some ⟨g29, 0, none⟩)), (8, .int .i64 t27.2)] (by kernel_rfl) fun a ha => ?_
    rcases Bool.eq_false_or_eq_true (t11.2 == (0 : Int)) with hb40 | hb40
    ·have ha := ha.lit hb40
     have H := ite_t hb40 H
     refine ldA (cs := (cS_api_Addr t11.1)) ha rfl (by kernel_rfl) rfl rfl rfl (cells_sub (Box.cells hBg13) (all := (cS_api_Addr t11.1)) [] [] (by kernel_rfl)) fun a ha => ?_
     obtain ⟨t41, H41, H⟩ := bind_some H
     refine cl ha (by rfl) (by kernel_rfl) (by rfl) (by rfl) (by rfl) (addr_Text.walk w38 _ hM hG t11.1 k _ H41) ?_
     rintro _ w41 ⟨rfl, hc41, hMn⟩ a ha
     have o1 : Ok [] ([g29] ++ ([g21] ++ ([g13] ++ ([g5] ++ (M))))) w38.heap.size := Ok.nil _ _
     have o2 : Ok ([g29] ++ ([g21] ++ ([g13] ++ ([g5] ++ (M))))) ([g29] ++ ([g21] ++ ([g13] ++ ([g5] ++ (M))))) w38.heap.size := (Ok.refl _ _)
     have hG := hG.chg hc41 o1 o2
     have hBg5 := hBg5.chg hc41 (fun h => nomatch h)
     have hBg13 := hBg13.chg hc41 (fun h => nomatch h)
     have hBg21 := hBg21.chg hc41 (fun h => nomatch h)
     have hBg29 := hBg29.chg hc41 (fun h => nomatch h)
     have hM : MS ([g29] ++ ([g21] ++ ([g13] ++ ([g5] ++ (M))))) w41 := (hM.chg hc41)
     have hC := hC.trans hc41 (Ok.nil _ _)
     refine sgh ha 3 [2, 3, 0] [(48, .bool ((bstr t41).toList == (bstr ([50, 48, 48, 49, 58, 100, 98, 56, 58, 58] : List UInt8)).toList)), (1, .pointer (some ⟨g5, 0, none⟩)), (6, .int .i64 t19.2), (7, .pointer (some ⟨g29, 0, none⟩)), (8, .int .i64 t27.2)] (by kernel_rfl) fun a ha => ?_
     rcases Bool.eq_false_or_eq_true ((bstr t41).toList == (bstr ([50, 48, 48, 49, 58, 100, 98, 56, 58, 58] : List UInt8)).toList) with hb42 | hb42
     ·have ha := ha.lit hb42
      have H := ite_t hb42 H
      refine sgh ha 4 [2, 2, 3, 0] [(52, .bool (t19.2 == (4 : Int))), (1, .pointer (some ⟨g5, 0, none⟩)), (7, .pointer (some ⟨g29, 0, none⟩)), (8, .int .i64 t27.2)] (by kernel_rfl) fun a ha => ?_
      rcases Bool.eq_false_or_eq_true (t19.2 == (4 : Int)) with hb43 | hb43
      ·have ha := ha.lit hb43
       have H := ite_t hb43 H
       refine sgh ha 4 [2, 2, 3, 0] [(56, .bool (t27.2 == (0 : Int))), (1, .pointer (some ⟨g5, 0, none⟩)), (7, .pointer (some ⟨g29, 0, none⟩))] (by kernel_rfl) fun a ha => ?_
       rcases Bool.eq_false_or_eq_true (t27.2 == (0 : Int)) with hb44 | hb44
       ·have ha := ha.lit hb44
        have H := ite_t hb44 H
        refine ldA (cs := (cS_api_Prefix t27.1)) ha rfl (by kernel_rfl) rfl rfl rfl (cells_sub (Box.cells hBg29) (all := (cS_api_Prefix t27.1)) [] [] (by kernel_rfl)) fun a ha => ?_
        obtain ⟨t45, H45, H⟩ := bind_some H
        refine cl ha (by rfl) (by kernel_rfl) (by rfl) (by rfl) (by rfl) (addr_PrefixText.walk w41 _ hM hG t27.1 k _ H45) ?_
        rintro _ w45 ⟨rfl, hc45, hMn⟩ a ha
        have o1 : Ok [] ([g29] ++ ([g21] ++ ([g13] ++ ([g5] ++ (M))))) w41.heap.size := Ok.nil _ _
        have o2 : Ok ([g29] ++ ([g21] ++ ([g13] ++ ([g5] ++ (M))))) ([g29] ++ ([g21] ++ ([g13] ++ ([g5] ++ (M))))) w41.heap.size := (Ok.refl _ _)
        have hG := hG.chg hc45 o1 o2
        have hBg5 := hBg5.chg hc45 (fun h => nomatch h)
        have hBg13 := hBg13.chg hc45 (fun h => nomatch h)
        have hBg21 := hBg21.chg hc45 (fun h => nomatch h)
        have hBg29 := hBg29.chg hc45 (fun h => nomatch h)
        have hM : MS ([g29] ++ ([g21] ++ ([g13] ++ ([g5] ++ (M))))) w45 := (hM.chg hc45)
        have hC := hC.trans hc45 (Ok.nil _ _)
        refine sgh ha 3 [2, 3, 0] [(61, .bool ((bstr t45).toList == (bstr ([49, 57, 50, 46, 48, 46, 48, 46, 48, 47, 56] : List UInt8)).toList)), (1, .pointer (some ⟨g5, 0, none⟩)), (7, .pointer (some ⟨g29, 0, none⟩))] (by kernel_rfl) fun a ha => ?_
        rcases Bool.eq_false_or_eq_true ((bstr t45).toList == (bstr ([49, 57, 50, 46, 48, 46, 48, 46, 48, 47, 56] : List UInt8)).toList) with hb46 | hb46
        ·have ha := ha.lit hb46
         have H := ite_t hb46 H
         refine ldA (cs := (cS_api_Prefix t27.1)) ha rfl (by kernel_rfl) rfl rfl rfl (cells_sub (Box.cells hBg29) (all := (cS_api_Prefix t27.1)) [] [] (by kernel_rfl)) fun a ha => ?_
         refine ldA (cs := (cS_api_Addr t3.1)) ha rfl (by kernel_rfl) rfl rfl rfl (cells_sub (Box.cells hBg5) (all := (cS_api_Addr t3.1)) [] [] (by kernel_rfl)) fun a ha => ?_
         obtain ⟨t47, H47, H⟩ := bind_some H
         refine cl ha (by rfl) (by kernel_rfl) (by rfl) (by rfl) (by rfl) (addr_Has.walk w45 _ hM t27.1 t3.1 k _ H47) ?_
         rintro _ w47 ⟨rfl, hc47, hMn⟩ a ha
         have o1 : Ok [] ([g29] ++ ([g21] ++ ([g13] ++ ([g5] ++ (M))))) w45.heap.size := Ok.nil _ _
         have o2 : Ok ([g29] ++ ([g21] ++ ([g13] ++ ([g5] ++ (M))))) ([g29] ++ ([g21] ++ ([g13] ++ ([g5] ++ (M))))) w45.heap.size := (Ok.refl _ _)
         have hG := hG.chg hc47 o1 o2
         have hBg5 := hBg5.chg hc47 (fun h => nomatch h)
         have hBg13 := hBg13.chg hc47 (fun h => nomatch h)
         have hBg21 := hBg21.chg hc47 (fun h => nomatch h)
         have hBg29 := hBg29.chg hc47 (fun h => nomatch h)
         have hM : MS ([g29] ++ ([g21] ++ ([g13] ++ ([g5] ++ (M))))) w47 := (hM.chg hc47)
         have hC := hC.trans hc47 (Ok.nil _ _)
         refine sgh ha 2 [3, 0] [(0, .bool t47)] (by kernel_rfl) fun a ha => ?_
         obtain rfl := Option.some.inj H
         exact J35 _ _ (ha.sel (by kernel_rfl)) hBg5 hBg13 hBg21 hBg29 hG hC hM
        ·have ha := ha.lit hb46
         have H := ite_f hb46 H
         refine sgh ha 5 [1, 1, 1, 4, 0] [(0, .bool false)] (by kernel_rfl) fun a ha => ?_
         obtain rfl := Option.some.inj H
         exact J35 _ _ (ha.sel (by kernel_rfl)) hBg5 hBg13 hBg21 hBg29 hG hC hM
       ·have ha := ha.lit hb44
        have H := ite_f hb44 H
        refine sgh ha 10 [1, 1, 1, 4, 0, 1, 1, 1, 4, 0] [(0, .bool false)] (by kernel_rfl) fun a ha => ?_
        obtain rfl := Option.some.inj H
        exact J35 _ _ (ha.sel (by kernel_rfl)) hBg5 hBg13 hBg21 hBg29 hG hC hM
      ·have ha := ha.lit hb43
       have H := ite_f hb43 H
       refine sgh ha 14 [1, 1, 4, 0, 1, 1, 1, 4, 0, 1, 1, 1, 4, 0] [(0, .bool false)] (by kernel_rfl) fun a ha => ?_
       obtain rfl := Option.some.inj H
       exact J35 _ _ (ha.sel (by kernel_rfl)) hBg5 hBg13 hBg21 hBg29 hG hC hM
     ·have ha := ha.lit hb42
      have H := ite_f hb42 H
      refine sgh ha 18 [1, 1, 4, 0, 1, 1, 4, 0, 1, 1, 1, 4, 0, 1, 1, 1, 4, 0] [(0, .bool false)] (by kernel_rfl) fun a ha => ?_
      obtain rfl := Option.some.inj H
      exact J35 _ _ (ha.sel (by kernel_rfl)) hBg5 hBg13 hBg21 hBg29 hG hC hM
    ·have ha := ha.lit hb40
     have H := ite_f hb40 H
     refine sgh ha 23 [1, 1, 1, 4, 0, 1, 1, 4, 0, 1, 1, 4, 0, 1, 1, 1, 4, 0, 1, 1, 1, 4, 0] [(0, .bool false)] (by kernel_rfl) fun a ha => ?_
     obtain rfl := Option.some.inj H
     exact J35 _ _ (ha.sel (by kernel_rfl)) hBg5 hBg13 hBg21 hBg29 hG hC hM
   ·have ha := ha.lit hb39
    have H := ite_f hb39 H
    refine sgh ha 27 [1, 1, 4, 0, 1, 1, 1, 4, 0, 1, 1, 4, 0, 1, 1, 4, 0, 1, 1, 1, 4, 0, 1, 1, 1, 4, 0] [(0, .bool false)] (by kernel_rfl) fun a ha => ?_
    obtain rfl := Option.some.inj H
    exact J35 _ _ (ha.sel (by kernel_rfl)) hBg5 hBg13 hBg21 hBg29 hG hC hM
  ·have ha := ha.lit hb37
   have H := ite_f hb37 H
   refine sgh ha 32 [1, 1, 1, 4, 0, 1, 1, 4, 0, 1, 1, 1, 4, 0, 1, 1, 4, 0, 1, 1, 4, 0, 1, 1, 1, 4, 0, 1, 1, 1, 4, 0] [(0, .bool false)] (by kernel_rfl) fun a ha => ?_
   obtain rfl := Option.some.inj H
   exact J35 _ _ (ha.sel (by kernel_rfl)) hBg5 hBg13 hBg21 hBg29 hG hC hM
 ·have ha := ha.lit hb36
  have H := ite_f hb36 H
  refine sgh ha 38 [1, 1, 1, 1, 4, 0, 1, 1, 1, 4, 0, 1, 1, 4, 0, 1, 1, 1, 4, 0, 1, 1, 4, 0, 1, 1, 4, 0, 1, 1, 1, 4, 0, 1, 1, 1, 4, 0] [(0, .bool false)] (by kernel_rfl) fun a ha => ?_
  obtain rfl := Option.some.inj H
  exact J35 _ _ (ha.sel (by kernel_rfl)) hBg5 hBg13 hBg21 hBg29 hG hC hM
def vineryref02_Right.l0 (a0 : S_api_Addr) : Nat → Int → Option ((Bool) ⊕ (Unit))
  | 0, _ => none
  | kk + 1, x15 => (if (decide (x15 < (16 : Int))) = true then (if 0 ≤ x15 ∧ x15 < (16 : Int) then (if ((ar a0.B (Int.toNat x15)) != (0 : Int)) = true then some (.inl ((false : Bool))) else vineryref02_Right.l0 a0 kk (IntKind.i64.wrap (x15 + (1 : Int)))) else none) else some (.inr (() : Unit)))
def vineryref02_Right.f (k : Nat) (a0 : S_api_Addr) : Option (Bool) := ((if (a0.Size != (0 : Int)) = true then (if (a0.Size != (4 : Int)) = true then some (a0.Size != (16 : Int) : Bool) else some (false : Bool)) else some (false : Bool))).bind fun s9 => (if s9 = true then some ((false : Bool)) else (vineryref02_Right.l0 a0 k a0.Size).bind fun s14 => match s14 with | .inl r => some r | .inr s14' => some ((true : Bool)))
set_option maxRecDepth 100000 in
theorem vineryref02_Right.walk (w : World) (M : List Nat) (hM : MS M w) (a0 : S_api_Addr) (k : Nat) (r : Bool) (H : vineryref02_Right.f k a0 = some r) :
    To Tryd.prog 31 [.agg (cS_api_Addr a0).toArray] w fun v w' => v = .bool r ∧ Chg [] w w' ∧ MS (M) w' := by
 unfold vineryref02_Right.f at H
 refine ent Tryd.func31 rfl [(0, .agg (cS_api_Addr a0).toArray)] rfl (by rfl) fun a ha => ?_
 have hC : Chg [] w w := Chg.refl _ _
 refine wp_seq_k fun K1 hK1 => ?_
 refine wp_region_lit ?_
 refine bx (cs := (cS_api_Addr a0)) ha rfl rfl rfl rfl rfl fun a w2 g3 hN4 ha => ?_
 have hn6 := hN4.notin hM
 have hM : MS (M) w2 := (hM.chg hN4.chg)
 have hC := hC.trans hN4.chg (Ok.nil _ _)
 have hE5 : ∀ j v, (cS_api_Addr a0)[j]? = some v → w2.cell? ⟨g3, 0 + j, none⟩ = some v := Box.cells (New.box hN4)
 refine seg ha 1 [(1, .pointer (some ⟨g3, 0, none⟩))] (by kernel_rfl) fun a ha => ?_
 refine hK1 _ _ ?_; try clear hK1 K1
 refine wp_seq_k fun K7 hK7 => ?_
 refine wp_seq_k fun K8 hK8 => ?_
 refine wp_region_lit ?_
 obtain ⟨s9, H9, H⟩ := bind_some H
 have J9 : ∀ (a : Act) (w9 : World), Has a Tryd.f31.ntmps [(1, .pointer (some ⟨g3, 0, none⟩)), (16, .bool s9)] → (∀ j v, (cS_api_Addr a0)[j]? = some v → w9.cell? ⟨g3, 0 + j, none⟩ = some v) → (g3 ∉ (M)) → (Chg [] w w9) → (MS (M) w9) → K8 a w9 := by
  intro a w9 ha hE5 hn6 hC hM
  refine hK8 _ _ ?_; try clear hK8 K8
  refine cnd ha rfl (fun hc10 => ?_) (fun hc10 => ?_)
  ·have H := ite_t hc10 H
   refine wp_seq_k fun K11 hK11 => ?_
   refine wp_region_lit ?_
   refine seg ha 1 [(2, .bool false)] (by kernel_rfl) fun a ha => ?_
   refine hK11 _ _ ?_; try clear hK11 K11
   refine wp_ret ?_
   try simp only [Exit.then, Exit.inBlock]
   obtain rfl := Option.some.inj H
   refine rt1 ha rfl rfl ?_
   exact ⟨rfl, hC, hM⟩
  ·have H := ite_f hc10 H
   refine wp_skip ?_
   refine hK7 _ _ ?_; try clear hK7 K7
   refine wp_seq_k fun K12 hK12 => ?_
   refine wp_seq_k fun K13 hK13 => ?_
   refine wp_region_lit ?_
   refine seg ha 1 [(1, .pointer (some ⟨g3, 0, none⟩)), (17, .pointer (some ⟨g3, 0, none⟩))] (by kernel_rfl) fun a ha => ?_
   refine ld ha rfl (by kernel_rfl) rfl rfl rfl (hE5 0 (.int .i64 a0.Size) (by kernel_rfl)) fun a ha => ?_
   refine seg ha 1 [(1, .pointer (some ⟨g3, 0, none⟩)), (3, .int .i64 a0.Size)] (by kernel_rfl) fun a ha => ?_
   refine hK13 _ _ ?_; try clear hK13 K13
   refine wp_block ?_
   obtain ⟨s14, H14, H⟩ := bind_some H
   have J14 : ∀ s14' (a : Act) (wx14 : World), s14 = .inr s14' → Has a Tryd.f31.ntmps [] → (Chg [] w wx14) → (MS (M) wx14) → K12 a wx14 := by
    intro s14' a wx14 hs ha hC hM
    subst hs
    refine hK12 _ _ ?_; try clear hK12 K12
    refine wp_seq_k fun K16 hK16 => ?_
    refine wp_region_lit ?_
    refine seg ha 1 [(2, .bool true)] (by kernel_rfl) fun a ha => ?_
    refine hK16 _ _ ?_; try clear hK16 K16
    refine wp_ret ?_
    try simp only [Exit.then, Exit.inBlock]
    obtain rfl := Option.some.inj H
    refine rt1 ha rfl rfl ?_
    exact ⟨rfl, hC, hM⟩
   have Hc14 := H
   have H := H14
   refine wp_loop_ghost (fun kk a w14 => ∃ (x15 : Int), vineryref02_Right.l0 a0 kk x15 = some s14 ∧ Has a Tryd.f31.ntmps [(1, .pointer (some ⟨g3, 0, none⟩)), (3, .int .i64 x15)] ∧ (∀ j v, (cS_api_Addr a0)[j]? = some v → w14.cell? ⟨g3, 0 + j, none⟩ = some v) ∧ (g3 ∉ (M)) ∧ (Chg [] w w14) ∧ (MS (M) w14)) k ?_ ?_
   ·skip
    exact ⟨a0.Size, H, (ha.sel (by kernel_rfl)), hE5, hn6, hC, hM⟩
   ·rintro kk a w14 ⟨x15, H, ha, hE5, hn6, hC, hM⟩
    obtain _ | kk := kk
    ·exact nomatch (show none = some _ from H)
    rw [vineryref02_Right.l0] at H
    refine wp_seq_k fun K17 hK17 => ?_
    refine wp_seq_k fun K18 hK18 => ?_
    refine wp_region_lit ?_
    refine seg ha 2 [(1, .pointer (some ⟨g3, 0, none⟩)), (3, .int .i64 x15), (20, .bool (decide (x15 < (16 : Int))))] (by kernel_rfl) fun a ha => ?_
    refine hK18 _ _ ?_; try clear hK18 K18
    refine cnd ha rfl (fun hc19 => ?_) (fun hc19 => ?_)
    ·have H := ite_t hc19 H
     refine wp_skip ?_
     refine hK17 _ _ ?_; try clear hK17 K17
     refine wp_seq_k fun K20 hK20 => ?_
     refine wp_block ?_
     refine wp_seq_k fun K21 hK21 => ?_
     refine wp_region_lit ?_
     refine seg ha 2 [(1, .pointer (some ⟨g3, 0, none⟩)), (3, .int .i64 x15), (23, .int .i64 x15), (24, .pointer (some ⟨g3, 0 + 1, none⟩))] (by kernel_rfl) fun a ha => ?_
     obtain ⟨⟨hx22, hx22'⟩, H⟩ := ite_some H
     have hE22 : ∀ j v, ([.int .u8 (ar a0.B (Int.toNat x15))] : List Value)[j]? = some v → w14.cell? ⟨g3, (0 + 1 + (Int.toNat x15)) + j, none⟩ = some v := cellA (m := 16) [.int .i64 a0.Size] [] hE5 (by kernel_rfl) (by omega)
     have hn22 := hn6
     refine hop (v := .pointer (some ⟨g3, (0 + 1 + (Int.toNat x15)), none⟩)) (w' := w14) ha rfl rfl rfl (ixA_run (T := 5) (N := 16) (g := g3) (o' := 0 + 1) (k := .i64) (i := x15) ha (by kernel_rfl) (by kernel_rfl) (by rfl) (by rfl) hx22 hx22' _) fun a ha => ?_
     refine ld ha rfl (by kernel_rfl) rfl rfl rfl (hE22 0 (.int .u8 (ar a0.B (Int.toNat x15))) (by kernel_rfl)) fun a ha => ?_
     refine seg ha 1 [(1, .pointer (some ⟨g3, 0, none⟩)), (3, .int .i64 x15), (27, .bool ((ar a0.B (Int.toNat x15)) != (0 : Int)))] (by kernel_rfl) fun a ha => ?_
     refine hK21 _ _ ?_; try clear hK21 K21
     refine cnd ha rfl (fun hc23 => ?_) (fun hc23 => ?_)
     ·have H := ite_t hc23 H
      refine wp_seq_k fun K24 hK24 => ?_
      refine wp_region_lit ?_
      refine seg ha 1 [(2, .bool false)] (by kernel_rfl) fun a ha => ?_
      refine hK24 _ _ ?_; try clear hK24 K24
      refine wp_ret ?_
      try simp only [Exit.then, Exit.inBlock]
      obtain rfl := Option.some.inj H
      have H := (show some _ = some _ from Hc14)
      obtain rfl := Option.some.inj H
      refine rt1 ha rfl rfl ?_
      exact ⟨rfl, hC, hM⟩
     ·have H := ite_f hc23 H
      refine wp_skip ?_
      refine hK20 _ _ ?_; try clear hK20 K20
      refine wp_region_lit ?_
      refine seg ha 3 [(1, .pointer (some ⟨g3, 0, none⟩)), (3, .int .i64 (IntKind.i64.wrap (x15 + (1 : Int))))] (by kernel_rfl) fun a ha => ?_
      exact ⟨kk, Nat.lt_succ_self _, ⟨IntKind.i64.wrap (x15 + (1 : Int)), H, (ha.sel (by kernel_rfl)), hE5, hn6, hC, hM⟩⟩
    ·have H := ite_f hc19 H
     refine wp_exit ?_
     simp only [Exit.then, Exit.inBlock, ↓reduceIte, Nat.reduceEqDiff]
     obtain rfl := Option.some.inj H
     exact J14 _ _ _ rfl (ha.sel (by kernel_rfl)) hC hM
 have H := H9
 refine seg ha 1 [(1, .pointer (some ⟨g3, 0, none⟩)), (4, .pointer (some ⟨g3, 0, none⟩))] (by kernel_rfl) fun a ha => ?_
 refine ld ha rfl (by kernel_rfl) rfl rfl rfl (hE5 0 (.int .i64 a0.Size) (by kernel_rfl)) fun a ha => ?_
 refine seg ha 2 [(7, .bool (a0.Size != (0 : Int))), (1, .pointer (some ⟨g3, 0, none⟩))] (by kernel_rfl) fun a ha => ?_
 rcases Bool.eq_false_or_eq_true (a0.Size != (0 : Int)) with hb25 | hb25
 ·have ha := ha.lit hb25
  have H := ite_t hb25 H
  refine sgh ha 1 [2] [(1, .pointer (some ⟨g3, 0, none⟩)), (7, .bool true), (8, .pointer (some ⟨g3, 0, none⟩))] (by kernel_rfl) fun a ha => ?_
  refine ld ha rfl (by kernel_rfl) rfl rfl rfl (hE5 0 (.int .i64 a0.Size) (by kernel_rfl)) fun a ha => ?_
  refine sgh ha 3 [2, 3, 0] [(12, .bool (a0.Size != (4 : Int))), (1, .pointer (some ⟨g3, 0, none⟩))] (by kernel_rfl) fun a ha => ?_
  rcases Bool.eq_false_or_eq_true (a0.Size != (4 : Int)) with hb26 | hb26
  ·have ha := ha.lit hb26
   have H := ite_t hb26 H
   refine sgh ha 1 [2] [(1, .pointer (some ⟨g3, 0, none⟩)), (12, .bool true), (13, .pointer (some ⟨g3, 0, none⟩))] (by kernel_rfl) fun a ha => ?_
   refine ld ha rfl (by kernel_rfl) rfl rfl rfl (hE5 0 (.int .i64 a0.Size) (by kernel_rfl)) fun a ha => ?_
   refine sgh ha 2 [2, 3] [(1, .pointer (some ⟨g3, 0, none⟩)), (16, .bool (a0.Size != (16 : Int)))] (by kernel_rfl) fun a ha => ?_
   obtain rfl := Option.some.inj H
   exact J9 _ _ (ha.sel (by kernel_rfl)) hE5 hn6 hC hM
  ·have ha := ha.lit hb26
   have H := ite_f hb26 H
   refine sgh ha 4 [1, 1, 1, 4] [(1, .pointer (some ⟨g3, 0, none⟩)), (16, .bool false)] (by kernel_rfl) fun a ha => ?_
   obtain rfl := Option.some.inj H
   exact J9 _ _ (ha.sel (by kernel_rfl)) hE5 hn6 hC hM
 ·have ha := ha.lit hb25
  have H := ite_f hb25 H
  refine sgh ha 9 [1, 1, 1, 4, 0, 1, 1, 1, 4] [(1, .pointer (some ⟨g3, 0, none⟩)), (16, .bool false)] (by kernel_rfl) fun a ha => ?_
  obtain rfl := Option.some.inj H
  exact J9 _ _ (ha.sel (by kernel_rfl)) hE5 hn6 hC hM
def vineryref02_bit.f (a0 : S_api_Addr) (a1 : Int) : Option (Bool) := (if 0 ≤ (IntKind.i64.wrap (Int.tdiv a1 (8 : Int))) ∧ (IntKind.i64.wrap (Int.tdiv a1 (8 : Int))) < (16 : Int) then (if 0 ≤ (IntKind.i64.wrap ((7 : Int) - (Int.tmod a1 (8 : Int)))) then some (((Int.tmod (Int.fdiv (ar a0.B (Int.toNat (IntKind.i64.wrap (Int.tdiv a1 (8 : Int))))) (2 ^ (min (Int.toNat (IntKind.i64.wrap ((7 : Int) - (Int.tmod a1 (8 : Int))))) IntKind.u8.bits))) (2 : Int)) == (1 : Int) : Bool)) else none) else none)
set_option maxRecDepth 100000 in
theorem vineryref02_bit.walk (w : World) (M : List Nat) (hM : MS M w) (a0 : S_api_Addr) (a1 : Int) (r : Bool) (H : vineryref02_bit.f a0 a1 = some r) :
    To Tryd.prog 47 [.agg (cS_api_Addr a0).toArray, .int .i64 a1] w fun v w' => v = .bool r ∧ Chg [] w w' ∧ MS (M) w' := by
 unfold vineryref02_bit.f at H
 refine ent Tryd.func47 rfl [(0, .agg (cS_api_Addr a0).toArray), (1, .int .i64 a1)] rfl (by rfl) fun a ha => ?_
 have hC : Chg [] w w := Chg.refl _ _
 refine wp_seq_k fun K1 hK1 => ?_
 refine wp_region_lit ?_
 refine bx (cs := (cS_api_Addr a0)) ha rfl rfl rfl rfl rfl fun a w2 g3 hN4 ha => ?_
 have hn6 := hN4.notin hM
 have hM : MS (M) w2 := (hM.chg hN4.chg)
 have hC := hC.trans hN4.chg (Ok.nil _ _)
 have hE5 : ∀ j v, (cS_api_Addr a0)[j]? = some v → w2.cell? ⟨g3, 0 + j, none⟩ = some v := Box.cells (New.box hN4)
 refine seg ha 1 [(1, .int .i64 a1), (2, .pointer (some ⟨g3, 0, none⟩))] (by kernel_rfl) fun a ha => ?_
 refine hK1 _ _ ?_; try clear hK1 K1
 refine wp_seq_k fun K7 hK7 => ?_
 refine wp_region_lit ?_
 refine seg ha 3 [(1, .int .i64 a1), (6, .int .i64 (IntKind.i64.wrap (Int.tdiv a1 (8 : Int)))), (7, .pointer (some ⟨g3, 0 + 1, none⟩))] (by kernel_rfl) fun a ha => ?_
 obtain ⟨⟨hx8, hx8'⟩, H⟩ := ite_some H
 have hE8 : ∀ j v, ([.int .u8 (ar a0.B (Int.toNat (IntKind.i64.wrap (Int.tdiv a1 (8 : Int)))))] : List Value)[j]? = some v → w2.cell? ⟨g3, (0 + 1 + (Int.toNat (IntKind.i64.wrap (Int.tdiv a1 (8 : Int))))) + j, none⟩ = some v := cellA (m := 16) [.int .i64 a0.Size] [] hE5 (by kernel_rfl) (by omega)
 have hn8 := hn6
 refine hop (v := .pointer (some ⟨g3, (0 + 1 + (Int.toNat (IntKind.i64.wrap (Int.tdiv a1 (8 : Int))))), none⟩)) (w' := w2) ha rfl rfl rfl (ixA_run (T := 5) (N := 16) (g := g3) (o' := 0 + 1) (k := .i64) (i := IntKind.i64.wrap (Int.tdiv a1 (8 : Int))) ha (by kernel_rfl) (by kernel_rfl) (by rfl) (by rfl) hx8 hx8' _) fun a ha => ?_
 refine ld ha rfl (by kernel_rfl) rfl rfl rfl (hE8 0 (.int .u8 (ar a0.B (Int.toNat (IntKind.i64.wrap (Int.tdiv a1 (8 : Int)))))) (by kernel_rfl)) fun a ha => ?_
 refine seg ha 3 [(9, .int .u8 (ar a0.B (Int.toNat (IntKind.i64.wrap (Int.tdiv a1 (8 : Int)))))), (12, .int .i64 (IntKind.i64.wrap ((7 : Int) - (Int.tmod a1 (8 : Int)))))] (by kernel_rfl) fun a ha => ?_
 obtain ⟨hx9, H⟩ := ite_some H
 refine hop (v := .int .u8 (Int.fdiv (ar a0.B (Int.toNat (IntKind.i64.wrap (Int.tdiv a1 (8 : Int))))) (2 ^ (min (Int.toNat (IntKind.i64.wrap ((7 : Int) - (Int.tmod a1 (8 : Int))))) IntKind.u8.bits)))) (w' := w2) ha rfl rfl rfl (shr_run ha (by rfl) (by rfl) hx9 _) fun a ha => ?_
 refine seg ha 3 [(4, .bool ((Int.tmod (Int.fdiv (ar a0.B (Int.toNat (IntKind.i64.wrap (Int.tdiv a1 (8 : Int))))) (2 ^ (min (Int.toNat (IntKind.i64.wrap ((7 : Int) - (Int.tmod a1 (8 : Int))))) IntKind.u8.bits))) (2 : Int)) == (1 : Int)))] (by kernel_rfl) fun a ha => ?_
 refine hK7 _ _ ?_; try clear hK7 K7
 refine wp_ret ?_
 try simp only [Exit.then, Exit.inBlock]
 obtain rfl := Option.some.inj H
 refine rt1 ha rfl rfl ?_
 exact ⟨rfl, hC, hM⟩
def vineryref02_Cut.l0 (a0 : S_api_Addr) (a1 : Int) : Nat → Int → (List Int) → Option (List Int)
  | 0, _, _ => none
  | kk + 1, x30, x31 => (if (decide (x30 < a1)) = true then (vineryref02_bit.f a0 x30).bind fun t40 => (if t40 = true then (if 0 ≤ (IntKind.i64.wrap (Int.tdiv x30 (8 : Int))) ∧ (IntKind.i64.wrap (Int.tdiv x30 (8 : Int))) < (16 : Int) then (if 0 ≤ (IntKind.i64.wrap ((7 : Int) - (Int.tmod x30 (8 : Int)))) then (if 0 ≤ (IntKind.i64.wrap (Int.tdiv x30 (8 : Int))) ∧ (IntKind.i64.wrap (Int.tdiv x30 (8 : Int))) < (16 : Int) then vineryref02_Cut.l0 a0 a1 kk (IntKind.i64.wrap (x30 + (1 : Int))) ((arL 16 x31).set (Int.toNat (IntKind.i64.wrap (Int.tdiv x30 (8 : Int)))) (IntKind.u8.wrap (BitVec.ofInt IntKind.u8.bits (ar x31 (Int.toNat (IntKind.i64.wrap (Int.tdiv x30 (8 : Int))))) ||| BitVec.ofInt IntKind.u8.bits (IntKind.u8.wrap ((1 : Int) * 2 ^ (min (Int.toNat (IntKind.i64.wrap ((7 : Int) - (Int.tmod x30 (8 : Int))))) IntKind.u8.bits)))).toNat)) else none) else none) else none) else vineryref02_Cut.l0 a0 a1 kk (IntKind.i64.wrap (x30 + (1 : Int))) x31) else some (x31 : List Int))
def vineryref02_Cut.f (k : Nat) (a0 : S_api_Addr) (a1 : Int) : Option (S_api_Prefix × Int) := (vineryref02_Right.f k a0).bind fun t12 => ((if (!t12) = true then some (true : Bool) else (if (a0.Size == (0 : Int)) = true then some (true : Bool) else (if (decide (a1 < (0 : Int))) = true then some (true : Bool) else some (decide (a1 > (IntKind.i64.wrap ((8 : Int) * a0.Size))) : Bool))))).bind fun s15 => (if s15 = true then some (((⟨(⟨(0 : Int), (List.replicate 16 (0 : Int))⟩ : S_api_Addr), (0 : Int)⟩ : S_api_Prefix) : S_api_Prefix), ((1 : Int) : Int)) else (vineryref02_Cut.l0 a0 a1 k (0 : Int) (List.replicate 16 (0 : Int))).bind fun s29 => some (((⟨(⟨a0.Size, s29⟩ : S_api_Addr), a1⟩ : S_api_Prefix) : S_api_Prefix), ((0 : Int) : Int)))
set_option maxRecDepth 100000 in
theorem vineryref02_Cut.walk (w : World) (M : List Nat) (hM : MS M w) (a0 : S_api_Addr) (a1 : Int) (k : Nat) (r : S_api_Prefix × Int) (H : vineryref02_Cut.f k a0 a1 = some r) :
    To Tryd.prog 18 [.agg (cS_api_Addr a0).toArray, .int .i64 a1] w fun v w' => v = .tuple #[.agg (cS_api_Prefix r.1).toArray, .int .i64 r.2] ∧ Chg [] w w' ∧ MS (M) w' := by
 unfold vineryref02_Cut.f at H
 refine ent Tryd.func18 rfl [(0, .agg (cS_api_Addr a0).toArray), (1, .int .i64 a1)] rfl (by rfl) fun a ha => ?_
 have hC : Chg [] w w := Chg.refl _ _
 refine wp_seq_k fun K1 hK1 => ?_
 refine wp_region_lit ?_
 refine bx (cs := (cS_api_Addr a0)) ha rfl rfl rfl rfl rfl fun a w2 g3 hN4 ha => ?_
 have hn6 := hN4.notin hM
 have hM : MS (M) w2 := (hM.chg hN4.chg)
 have hC := hC.trans hN4.chg (Ok.nil _ _)
 have hE5 : ∀ j v, (cS_api_Addr a0)[j]? = some v → w2.cell? ⟨g3, 0 + j, none⟩ = some v := Box.cells (New.box hN4)
 refine al (cs := (cS_api_Prefix (⟨(⟨(0 : Int), (List.replicate 16 (0 : Int))⟩ : S_api_Addr), (0 : Int)⟩ : S_api_Prefix))) (z := .agg (cS_api_Prefix (⟨(⟨(0 : Int), (List.replicate 16 (0 : Int))⟩ : S_api_Addr), (0 : Int)⟩ : S_api_Prefix)).toArray) ha (fun w => by kernel_rfl) rfl rfl rfl rfl fun a w7 g8 hN9 ha => ?_
 have o1 : Ok [] (M) w2.heap.size := Ok.nil _ _
 have o2 : Ok ([g8] ++ (M)) (M) w2.heap.size := (Ok.app (hN9.ok _) (Ok.refl _ _))
 have q_hn6 : g3 ∉ [g8] ++ (M) := fun h => (o2 g3 h).elim hn6 (fun h => absurd (lt_cell (hE5 0 _ rfl)) (Nat.not_lt.2 h))
 have hE5 : ∀ j v, (cS_api_Addr a0)[j]? = some v → w7.cell? ⟨g3, 0 + j, none⟩ = some v := fun j v hv => (cell_keep hN9.chg o1 hn6 (hE5 j v hv))
 have hn6 := q_hn6
 have p_i10_M : ∀ x ∈ [g8], x ∉ M := fun x hx hy => absurd (hM x (hy)) (Nat.not_lt.2 ((hN9.ge1) x hx))
 have e_i10 : ∀ x ∈ [g8], w.heap.size ≤ x := fun x hx => Nat.le_trans hC.size ((hN9.ge1) x hx)
 have hM : MS ([g8] ++ (M)) w7 := (MS.app hN9.ms (hM.chg hN9.chg))
 have hC := hC.trans hN9.chg (Ok.nil _ _)
 have hBg8 : Box w7 g8 (cS_api_Prefix (⟨(⟨(0 : Int), (List.replicate 16 (0 : Int))⟩ : S_api_Addr), (0 : Int)⟩ : S_api_Prefix)) := hN9.box
 refine seg ha 1 [(1, .int .i64 a1), (2, .pointer (some ⟨g3, 0, none⟩)), (4, .pointer (some ⟨g8, 0, none⟩))] (by kernel_rfl) fun a ha => ?_
 refine hK1 _ _ ?_; try clear hK1 K1
 refine wp_seq_k fun K11 hK11 => ?_
 refine wp_region_lit ?_
 refine ldA (cs := (cS_api_Addr a0)) ha rfl (by kernel_rfl) rfl rfl rfl (cells_sub hE5 (all := (cS_api_Addr a0)) [] [] (by kernel_rfl)) fun a ha => ?_
 obtain ⟨t12, H12, H⟩ := bind_some H
 refine cl ha (by rfl) (by kernel_rfl) (by rfl) (by rfl) (by rfl) (vineryref02_Right.walk w7 _ hM a0 k _ H12) ?_
 rintro _ w12 ⟨rfl, hc12, hMn⟩ a ha
 have o1 : Ok [] ([g8] ++ (M)) w7.heap.size := Ok.nil _ _
 have o2 : Ok ([g8] ++ (M)) ([g8] ++ (M)) w7.heap.size := (Ok.refl _ _)
 have hBg8 := hBg8.chg hc12 (fun h => nomatch h)
 have q_hn6 : g3 ∉ [g8] ++ (M) := fun h => (o2 g3 h).elim hn6 (fun h => absurd (lt_cell (hE5 0 _ rfl)) (Nat.not_lt.2 h))
 have hE5 : ∀ j v, (cS_api_Addr a0)[j]? = some v → w12.cell? ⟨g3, 0 + j, none⟩ = some v := fun j v hv => (cell_keep hc12 o1 hn6 (hE5 j v hv))
 have hn6 := q_hn6
 have hM : MS ([g8] ++ (M)) w12 := (hM.chg hc12)
 have hC := hC.trans hc12 (Ok.nil _ _)
 refine seg ha 1 [(1, .int .i64 a1), (2, .pointer (some ⟨g3, 0, none⟩)), (4, .pointer (some ⟨g8, 0, none⟩)), (6, .bool t12)] (by kernel_rfl) fun a ha => ?_
 refine hK11 _ _ ?_; try clear hK11 K11
 refine wp_seq_k fun K13 hK13 => ?_
 refine wp_seq_k fun K14 hK14 => ?_
 refine wp_region_lit ?_
 obtain ⟨s15, H15, H⟩ := bind_some H
 have J15 : ∀ (a : Act) (w15 : World), Has a Tryd.f18.ntmps [(1, .int .i64 a1), (2, .pointer (some ⟨g3, 0, none⟩)), (4, .pointer (some ⟨g8, 0, none⟩)), (29, .bool s15)] → (Box w15 g8 (cS_api_Prefix (⟨(⟨(0 : Int), (List.replicate 16 (0 : Int))⟩ : S_api_Addr), (0 : Int)⟩ : S_api_Prefix))) → (∀ j v, (cS_api_Addr a0)[j]? = some v → w15.cell? ⟨g3, 0 + j, none⟩ = some v) → (g3 ∉ ([g8] ++ (M))) → (Chg [] w w15) → (MS ([g8] ++ (M)) w15) → K14 a w15 := by
  intro a w15 ha hBg8 hE5 hn6 hC hM
  refine hK14 _ _ ?_; try clear hK14 K14
  refine cnd ha rfl (fun hc16 => ?_) (fun hc16 => ?_)
  ·have H := ite_t hc16 H
   refine wp_seq_k fun K17 hK17 => ?_
   refine wp_region_lit ?_
   refine opk (v := .agg (cS_api_Prefix (⟨(⟨(0 : Int), (List.replicate 16 (0 : Int))⟩ : S_api_Addr), (0 : Int)⟩ : S_api_Prefix)).toArray) ha rfl rfl rfl rfl rfl (fun w => by kernel_rfl) fun a ha => ?_
   refine stA (l := (cS_api_Prefix (⟨(⟨(0 : Int), (List.replicate 16 (0 : Int))⟩ : S_api_Addr), (0 : Int)⟩ : S_api_Prefix))) ha rfl rfl rfl (by kernel_rfl) rfl rfl hBg8 rfl fun a w18 ha hb2 hc19 _ => ?_
   have hM : MS ([g8] ++ (M)) w18 := (hM.chg hc19)
   have hC := hC.trans hc19 (fun x h => .inr (e_i10 x h))
   have hBg8 : Box w18 g8 (cS_api_Prefix (⟨(⟨(0 : Int), (List.replicate 16 (0 : Int))⟩ : S_api_Addr), (0 : Int)⟩ : S_api_Prefix)) := hb2
   refine seg ha 1 [(4, .pointer (some ⟨g8, 0, none⟩)), (5, .int .i64 (1 : Int))] (by kernel_rfl) fun a ha => ?_
   refine hK17 _ _ ?_; try clear hK17 K17
   refine wp_ret ?_
   try simp only [Exit.then, Exit.inBlock]
   have hBg8 := hBg8.chg (Chg.refl [] _) (fun h => nomatch h)
   have hM : MS (M) w18 := (fun x h => hM.chg (Chg.refl [] _) x (mr (h)))
   have hC := hC.trans (Chg.refl [] _) (Ok.nil _ _)
   obtain rfl := Option.some.inj H
   refine rtr ha (res2 rfl (roA ha rfl hBg8 (by kernel_rfl)) (roT ha rfl)) ?_
   exact ⟨rfl, hC, hM⟩
  ·have H := ite_f hc16 H
   refine wp_skip ?_
   refine hK13 _ _ ?_; try clear hK13 K13
   refine wp_seq_k fun K20 hK20 => ?_
   refine wp_region_lit ?_
   refine seg ha 1 [(1, .int .i64 a1), (2, .pointer (some ⟨g3, 0, none⟩)), (4, .pointer (some ⟨g8, 0, none⟩)), (31, .pointer (some ⟨g3, 0, none⟩))] (by kernel_rfl) fun a ha => ?_
   refine ld ha rfl (by kernel_rfl) rfl rfl rfl (hE5 0 (.int .i64 a0.Size) (by kernel_rfl)) fun a ha => ?_
   refine opk (v := .agg (cS_api_Addr (⟨a0.Size, (List.replicate 16 (0 : Int))⟩ : S_api_Addr)).toArray) ha rfl rfl rfl rfl rfl (fun w => by kernel_rfl) fun a ha => ?_
   refine seg ha 1 [(1, .int .i64 a1), (2, .pointer (some ⟨g3, 0, none⟩)), (4, .pointer (some ⟨g8, 0, none⟩)), (33, .agg (cS_api_Addr (⟨a0.Size, (List.replicate 16 (0 : Int))⟩ : S_api_Addr)).toArray), (34, .int .i64 a1)] (by kernel_rfl) fun a ha => ?_
   refine opk (v := .agg (cS_api_Prefix (⟨(⟨a0.Size, (List.replicate 16 (0 : Int))⟩ : S_api_Addr), a1⟩ : S_api_Prefix)).toArray) ha rfl rfl rfl rfl rfl (fun w => by kernel_rfl) fun a ha => ?_
   refine al (cs := (cS_api_Prefix (⟨(⟨(0 : Int), (List.replicate 16 (0 : Int))⟩ : S_api_Addr), (0 : Int)⟩ : S_api_Prefix))) (z := .agg (cS_api_Prefix (⟨(⟨(0 : Int), (List.replicate 16 (0 : Int))⟩ : S_api_Addr), (0 : Int)⟩ : S_api_Prefix)).toArray) ha (fun w => by kernel_rfl) rfl rfl rfl rfl fun a w21 g22 hN23 ha => ?_
   have o1 : Ok [] ([g8] ++ (M)) w15.heap.size := Ok.nil _ _
   have o2 : Ok ([g22] ++ ([g8] ++ (M))) ([g8] ++ (M)) w15.heap.size := (Ok.app (hN23.ok _) (Ok.refl _ _))
   have hBg8 := hBg8.chg hN23.chg (fun h => nomatch h)
   have q_hn6 : g3 ∉ [g22] ++ ([g8] ++ (M)) := fun h => (o2 g3 h).elim hn6 (fun h => absurd (lt_cell (hE5 0 _ rfl)) (Nat.not_lt.2 h))
   have hE5 : ∀ j v, (cS_api_Addr a0)[j]? = some v → w21.cell? ⟨g3, 0 + j, none⟩ = some v := fun j v hv => (cell_keep hN23.chg o1 hn6 (hE5 j v hv))
   have hn6 := q_hn6
   have p_i24_i10 : ∀ x ∈ [g22], x ∉ ([g8]) := fun x hx hy => absurd (hM x (ml hy)) (Nat.not_lt.2 ((hN23.ge1) x hx))
   have p_i24_M : ∀ x ∈ [g22], x ∉ M := fun x hx hy => absurd (hM x (mr (hy))) (Nat.not_lt.2 ((hN23.ge1) x hx))
   have e_i24 : ∀ x ∈ [g22], w.heap.size ≤ x := fun x hx => Nat.le_trans hC.size ((hN23.ge1) x hx)
   have hM : MS ([g22] ++ ([g8] ++ (M))) w21 := (MS.app hN23.ms (hM.chg hN23.chg))
   have hC := hC.trans hN23.chg (Ok.nil _ _)
   have hBg22 : Box w21 g22 (cS_api_Prefix (⟨(⟨(0 : Int), (List.replicate 16 (0 : Int))⟩ : S_api_Addr), (0 : Int)⟩ : S_api_Prefix)) := hN23.box
   refine stA (l := (cS_api_Prefix (⟨(⟨a0.Size, (List.replicate 16 (0 : Int))⟩ : S_api_Addr), a1⟩ : S_api_Prefix))) ha rfl rfl rfl (by kernel_rfl) rfl rfl hBg22 rfl fun a w25 ha hb2 hc26 _ => ?_
   have o1 : Ok [g22] ([g22] ++ ([g8] ++ (M))) w21.heap.size := (fun _ h => .inl (ml h))
   have o2 : Ok ([g22] ++ ([g8] ++ (M))) ([g22] ++ ([g8] ++ (M))) w21.heap.size := (Ok.refl _ _)
   have hBg8 := hBg8.chg hc26 ((fun x (hx : x ∈ [g8]) (hy : x ∈ [g22]) => p_i24_i10 x hy hx) g8 (by simp))
   have q_hn6 : g3 ∉ [g22] ++ ([g8] ++ (M)) := fun h => (o2 g3 h).elim hn6 (fun h => absurd (lt_cell (hE5 0 _ rfl)) (Nat.not_lt.2 h))
   have hE5 : ∀ j v, (cS_api_Addr a0)[j]? = some v → w25.cell? ⟨g3, 0 + j, none⟩ = some v := fun j v hv => (cell_keep hc26 o1 hn6 (hE5 j v hv))
   have hn6 := q_hn6
   have hM : MS ([g22] ++ ([g8] ++ (M))) w25 := (hM.chg hc26)
   have hC := hC.trans hc26 (fun x h => .inr (e_i24 x h))
   have hBg22 : Box w25 g22 (cS_api_Prefix (⟨(⟨a0.Size, (List.replicate 16 (0 : Int))⟩ : S_api_Addr), a1⟩ : S_api_Prefix)) := hb2
   refine hK20 _ _ ?_; try clear hK20 K20
   refine wp_seq_k fun K27 hK27 => ?_
   refine wp_seq_k fun K28 hK28 => ?_
   refine wp_region_lit ?_
   refine seg ha 1 [(1, .int .i64 a1), (2, .pointer (some ⟨g3, 0, none⟩)), (4, .pointer (some ⟨g8, 0, none⟩)), (7, .pointer (some ⟨g22, 0, none⟩)), (8, .int .i64 (0 : Int))] (by kernel_rfl) fun a ha => ?_
   refine hK28 _ _ ?_; try clear hK28 K28
   refine wp_block ?_
   obtain ⟨s29, H29, H⟩ := bind_some H
   have J29 : ∀ (a : Act) (wx29 : World), Has a Tryd.f18.ntmps [(4, .pointer (some ⟨g8, 0, none⟩)), (7, .pointer (some ⟨g22, 0, none⟩))] → (Box wx29 g8 (cS_api_Prefix (⟨(⟨(0 : Int), (List.replicate 16 (0 : Int))⟩ : S_api_Addr), (0 : Int)⟩ : S_api_Prefix))) → (Box wx29 g22 (cS_api_Prefix (⟨(⟨a0.Size, s29⟩ : S_api_Addr), a1⟩ : S_api_Prefix))) → (Chg [] w wx29) → (MS ([g22] ++ ([g8] ++ (M))) wx29) → K27 a wx29 := by
    intro a wx29 ha hBg8 hBg22 hC hM
    refine hK27 _ _ ?_; try clear hK27 K27
    refine wp_seq_k fun K32 hK32 => ?_
    refine wp_region_lit ?_
    refine ldA (cs := (cS_api_Prefix (⟨(⟨a0.Size, s29⟩ : S_api_Addr), a1⟩ : S_api_Prefix))) ha rfl (by kernel_rfl) rfl rfl rfl (cells_sub (Box.cells hBg22) (all := (cS_api_Prefix (⟨(⟨a0.Size, s29⟩ : S_api_Addr), a1⟩ : S_api_Prefix))) [] [] (by kernel_rfl)) fun a ha => ?_
    refine stA (l := (cS_api_Prefix (⟨(⟨a0.Size, s29⟩ : S_api_Addr), a1⟩ : S_api_Prefix))) ha rfl rfl rfl (by kernel_rfl) rfl rfl hBg8 rfl fun a w33 ha hb2 hc34 _ => ?_
    have hBg22 := hBg22.chg hc34 (p_i24_i10 g22 (by simp))
    have hM : MS ([g22] ++ ([g8] ++ (M))) w33 := (hM.chg hc34)
    have hC := hC.trans hc34 (fun x h => .inr (e_i10 x h))
    have hBg8 : Box w33 g8 (cS_api_Prefix (⟨(⟨a0.Size, s29⟩ : S_api_Addr), a1⟩ : S_api_Prefix)) := hb2
    refine seg ha 1 [(4, .pointer (some ⟨g8, 0, none⟩)), (5, .int .i64 (0 : Int))] (by kernel_rfl) fun a ha => ?_
    refine hK32 _ _ ?_; try clear hK32 K32
    refine wp_ret ?_
    try simp only [Exit.then, Exit.inBlock]
    have hBg8 := hBg8.chg (Chg.refl [] _) (fun h => nomatch h)
    have hBg22 := hBg22.chg (Chg.refl [] _) (fun h => nomatch h)
    have hM : MS (M) w33 := (fun x h => hM.chg (Chg.refl [] _) x (mr (mr (h))))
    have hC := hC.trans (Chg.refl [] _) (Ok.nil _ _)
    obtain rfl := Option.some.inj H
    refine rtr ha (res2 rfl (roA ha rfl hBg8 (by kernel_rfl)) (roT ha rfl)) ?_
    exact ⟨rfl, hC, hM⟩
   have Hc29 := H
   have H := H29
   refine wp_loop_ghost (fun kk a w29 => ∃ (x30 : Int) (x31 : List Int), vineryref02_Cut.l0 a0 a1 kk x30 x31 = some s29 ∧ Has a Tryd.f18.ntmps [(1, .int .i64 a1), (2, .pointer (some ⟨g3, 0, none⟩)), (4, .pointer (some ⟨g8, 0, none⟩)), (7, .pointer (some ⟨g22, 0, none⟩)), (8, .int .i64 x30)] ∧ (Box w29 g8 (cS_api_Prefix (⟨(⟨(0 : Int), (List.replicate 16 (0 : Int))⟩ : S_api_Addr), (0 : Int)⟩ : S_api_Prefix))) ∧ (Box w29 g22 (cS_api_Prefix (⟨(⟨a0.Size, x31⟩ : S_api_Addr), a1⟩ : S_api_Prefix))) ∧ (∀ j v, (cS_api_Addr a0)[j]? = some v → w29.cell? ⟨g3, 0 + j, none⟩ = some v) ∧ (g3 ∉ ([g22] ++ ([g8] ++ (M)))) ∧ (Chg [] w w29) ∧ (MS ([g22] ++ ([g8] ++ (M))) w29)) k ?_ ?_
   ·skip
    exact ⟨(0 : Int), (List.replicate 16 (0 : Int)), H, (ha.sel (by kernel_rfl)), hBg8, hBg22, hE5, hn6, hC, hM⟩
   ·rintro kk a w29 ⟨x30, x31, H, ha, hBg8, hBg22, hE5, hn6, hC, hM⟩
    obtain _ | kk := kk
    ·exact nomatch (show none = some _ from H)
    rw [vineryref02_Cut.l0] at H
    refine wp_seq_k fun K35 hK35 => ?_
    refine wp_seq_k fun K36 hK36 => ?_
    refine wp_region_lit ?_
    refine seg ha 3 [(1, .int .i64 a1), (2, .pointer (some ⟨g3, 0, none⟩)), (4, .pointer (some ⟨g8, 0, none⟩)), (7, .pointer (some ⟨g22, 0, none⟩)), (8, .int .i64 x30), (38, .bool (decide (x30 < a1)))] (by kernel_rfl) fun a ha => ?_
    refine hK36 _ _ ?_; try clear hK36 K36
    refine cnd ha rfl (fun hc37 => ?_) (fun hc37 => ?_)
    ·have H := ite_t hc37 H
     refine wp_skip ?_
     refine hK35 _ _ ?_; try clear hK35 K35
     refine wp_seq_k fun K38 hK38 => ?_
     refine wp_block ?_
     refine wp_seq_k fun K39 hK39 => ?_
     refine wp_region_lit ?_
     refine ldA (cs := (cS_api_Addr a0)) ha rfl (by kernel_rfl) rfl rfl rfl (cells_sub hE5 (all := (cS_api_Addr a0)) [] [] (by kernel_rfl)) fun a ha => ?_
     refine seg ha 1 [(1, .int .i64 a1), (2, .pointer (some ⟨g3, 0, none⟩)), (4, .pointer (some ⟨g8, 0, none⟩)), (7, .pointer (some ⟨g22, 0, none⟩)), (8, .int .i64 x30), (41, .agg (cS_api_Addr a0).toArray), (42, .int .i64 x30)] (by kernel_rfl) fun a ha => ?_
     obtain ⟨t40, H40, H⟩ := bind_some H
     refine cl ha (by rfl) (by kernel_rfl) (by rfl) (by rfl) (by rfl) (vineryref02_bit.walk w29 _ hM a0 x30 _ H40) ?_
     rintro _ w40 ⟨rfl, hc40, hMn⟩ a ha
     have o1 : Ok [] ([g22] ++ ([g8] ++ (M))) w29.heap.size := Ok.nil _ _
     have o2 : Ok ([g22] ++ ([g8] ++ (M))) ([g22] ++ ([g8] ++ (M))) w29.heap.size := (Ok.refl _ _)
     have hBg8 := hBg8.chg hc40 (fun h => nomatch h)
     have hBg22 := hBg22.chg hc40 (fun h => nomatch h)
     have q_hn6 : g3 ∉ [g22] ++ ([g8] ++ (M)) := fun h => (o2 g3 h).elim hn6 (fun h => absurd (lt_cell (hE5 0 _ rfl)) (Nat.not_lt.2 h))
     have hE5 : ∀ j v, (cS_api_Addr a0)[j]? = some v → w40.cell? ⟨g3, 0 + j, none⟩ = some v := fun j v hv => (cell_keep hc40 o1 hn6 (hE5 j v hv))
     have hn6 := q_hn6
     have hM : MS ([g22] ++ ([g8] ++ (M))) w40 := (hM.chg hc40)
     have hC := hC.trans hc40 (Ok.nil _ _)
     refine seg ha 1 [(1, .int .i64 a1), (2, .pointer (some ⟨g3, 0, none⟩)), (4, .pointer (some ⟨g8, 0, none⟩)), (7, .pointer (some ⟨g22, 0, none⟩)), (8, .int .i64 x30), (9, .bool t40)] (by kernel_rfl) fun a ha => ?_
     refine hK39 _ _ ?_; try clear hK39 K39
     refine wp_seq_k fun K41 hK41 => ?_
     refine wp_region_lit ?_
     refine seg ha 1 [(1, .int .i64 a1), (2, .pointer (some ⟨g3, 0, none⟩)), (4, .pointer (some ⟨g8, 0, none⟩)), (7, .pointer (some ⟨g22, 0, none⟩)), (8, .int .i64 x30), (44, .bool t40)] (by kernel_rfl) fun a ha => ?_
     refine hK41 _ _ ?_; try clear hK41 K41
     refine cnd ha rfl (fun hc42 => ?_) (fun hc42 => ?_)
     ·have H := ite_t hc42 H
      refine drq 16 (fun w' => Chg [] w40 w') (by kernel_rfl) (by kernel_rfl) (fun _ h => h) ?_
      refine qp 0 (.int .i64 x30) ha rfl rfl rfl (by kernel_rfl) fun a ha => ?_
      refine qp 0 (.int .i64 (IntKind.i64.wrap (Int.tdiv x30 (8 : Int)))) ha rfl rfl rfl (by kernel_rfl) fun a ha => ?_
      refine qp 0 (.int .i64 x30) ha rfl rfl rfl (by kernel_rfl) fun a ha => ?_
      refine qp 0 (.int .i64 (IntKind.i64.wrap (Int.tdiv x30 (8 : Int)))) ha rfl rfl rfl (by kernel_rfl) fun a ha => ?_
      refine qp 0 (.pointer (some ⟨g22, 0, none⟩)) ha rfl rfl rfl (by kernel_rfl) fun a ha => ?_
      refine qp 0 (.pointer (some ⟨g22, 1, none⟩)) ha rfl rfl rfl (by kernel_rfl) fun a ha => ?_
      obtain ⟨⟨hx43, hx43'⟩, H⟩ := ite_some H
      have hi43 : (Int.toNat (IntKind.i64.wrap (Int.tdiv x30 (8 : Int)))) < 16 := by omega
      refine qv (v := .pointer (some ⟨g22, 1 + (Int.toNat (IntKind.i64.wrap (Int.tdiv x30 (8 : Int)))), none⟩)) ha rfl rfl rfl (fun w' hs => ixA_run (T := 5) (N := 16) (g := g22) (o' := 1) (k := .i64) (i := IntKind.i64.wrap (Int.tdiv x30 (8 : Int))) ha (by kernel_rfl) (by kernel_rfl) (by rfl) (by rfl) hx43 hx43' w') fun a ha => ?_
      refine qv (v := .int .u8 (ar x31 (Int.toNat (IntKind.i64.wrap (Int.tdiv x30 (8 : Int)))))) ha rfl rfl rfl (fun w' hs => ld_run ha rfl (by kernel_rfl) ((Box.chg hBg22 hs (fun h => nomatch h)).cell' (o := 1 + (Int.toNat (IntKind.i64.wrap (Int.tdiv x30 (8 : Int))))) rfl (arr_cell (k := .u8) (m := 16) (x := x31) ([.int .i64 a0.Size] : List Value) ([.int .i64 a1] : List Value) (by kernel_rfl) hi43))) fun a ha => ?_
      refine qp 0 (.int .i64 x30) ha rfl rfl rfl (by kernel_rfl) fun a ha => ?_
      refine qp 0 (.int .i64 (Int.tmod x30 (8 : Int))) ha rfl rfl rfl (by kernel_rfl) fun a ha => ?_
      refine qp 0 (.int .i64 (IntKind.i64.wrap ((7 : Int) - (Int.tmod x30 (8 : Int))))) ha rfl rfl rfl (by kernel_rfl) fun a ha => ?_
      obtain ⟨hx44, H⟩ := ite_some H
      refine qv (v := .int .u8 (IntKind.u8.wrap ((1 : Int) * 2 ^ (min (Int.toNat (IntKind.i64.wrap ((7 : Int) - (Int.tmod x30 (8 : Int))))) IntKind.u8.bits)))) ha rfl rfl rfl (fun w' hs => shl_run ha (by rfl) (by rfl) hx44 w') fun a ha => ?_
      refine qp 0 (.int .u8 (IntKind.u8.wrap (BitVec.ofInt IntKind.u8.bits (ar x31 (Int.toNat (IntKind.i64.wrap (Int.tdiv x30 (8 : Int))))) ||| BitVec.ofInt IntKind.u8.bits (IntKind.u8.wrap ((1 : Int) * 2 ^ (min (Int.toNat (IntKind.i64.wrap ((7 : Int) - (Int.tmod x30 (8 : Int))))) IntKind.u8.bits)))).toNat)) ha rfl rfl rfl (by kernel_rfl) fun a ha => ?_
      refine qp 0 (.pointer (some ⟨g22, 0, none⟩)) ha rfl rfl rfl (by kernel_rfl) fun a ha => ?_
      refine qp 0 (.pointer (some ⟨g22, 1, none⟩)) ha rfl rfl rfl (by kernel_rfl) fun a ha => ?_
      obtain ⟨⟨hx45, hx45'⟩, H⟩ := ite_some H
      have hi45 : (Int.toNat (IntKind.i64.wrap (Int.tdiv x30 (8 : Int)))) < 16 := by omega
      refine qv (v := .pointer (some ⟨g22, 1 + (Int.toNat (IntKind.i64.wrap (Int.tdiv x30 (8 : Int)))), none⟩)) ha rfl rfl rfl (fun w' hs => ixA_run (T := 5) (N := 16) (g := g22) (o' := 1) (k := .i64) (i := IntKind.i64.wrap (Int.tdiv x30 (8 : Int))) ha (by kernel_rfl) (by kernel_rfl) (by rfl) (by rfl) hx45 hx45' w') fun a ha => ?_
      refine wpQuiet_nil ?_
      intro w46 hc47
      have o1 : Ok [] ([g22] ++ ([g8] ++ (M))) w40.heap.size := Ok.nil _ _
      have o2 : Ok ([g22] ++ ([g8] ++ (M))) ([g22] ++ ([g8] ++ (M))) w40.heap.size := (Ok.refl _ _)
      have hBg8 := hBg8.chg hc47 (fun h => nomatch h)
      have hBg22 := hBg22.chg hc47 (fun h => nomatch h)
      have q_hn6 : g3 ∉ [g22] ++ ([g8] ++ (M)) := fun h => (o2 g3 h).elim hn6 (fun h => absurd (lt_cell (hE5 0 _ rfl)) (Nat.not_lt.2 h))
      have hE5 : ∀ j v, (cS_api_Addr a0)[j]? = some v → w46.cell? ⟨g3, 0 + j, none⟩ = some v := fun j v hv => (cell_keep hc47 o1 hn6 (hE5 j v hv))
      have hn6 := q_hn6
      have hM : MS ([g22] ++ ([g8] ++ (M))) w46 := (hM.chg hc47)
      have hC := hC.trans hc47 (Ok.nil _ _)
      refine st (o' := 1 + (Int.toNat (IntKind.i64.wrap (Int.tdiv x30 (8 : Int))))) ha rfl rfl rfl (by kernel_rfl) rfl rfl hBg22 (arr_lt (k := .u8) (m := 16) (x := x31) ([.int .i64 a0.Size] : List Value) ([.int .i64 a1] : List Value) (by kernel_rfl) hi45) fun a w48 ha hb2 hc49 _ => ?_
      have o1 : Ok [g22] ([g22] ++ ([g8] ++ (M))) w46.heap.size := (fun _ h => .inl (ml h))
      have o2 : Ok ([g22] ++ ([g8] ++ (M))) ([g22] ++ ([g8] ++ (M))) w46.heap.size := (Ok.refl _ _)
      have hBg8 := hBg8.chg hc49 ((fun x (hx : x ∈ [g8]) (hy : x ∈ [g22]) => p_i24_i10 x hy hx) g8 (by simp))
      have q_hn6 : g3 ∉ [g22] ++ ([g8] ++ (M)) := fun h => (o2 g3 h).elim hn6 (fun h => absurd (lt_cell (hE5 0 _ rfl)) (Nat.not_lt.2 h))
      have hE5 : ∀ j v, (cS_api_Addr a0)[j]? = some v → w48.cell? ⟨g3, 0 + j, none⟩ = some v := fun j v hv => (cell_keep hc49 o1 hn6 (hE5 j v hv))
      have hn6 := q_hn6
      have hM : MS ([g22] ++ ([g8] ++ (M))) w48 := (hM.chg hc49)
      have hC := hC.trans hc49 (fun x h => .inr (e_i24 x h))
      have hBg22 : Box w48 g22 (cS_api_Prefix (⟨(⟨a0.Size, ((arL 16 x31).set (Int.toNat (IntKind.i64.wrap (Int.tdiv x30 (8 : Int)))) (IntKind.u8.wrap (BitVec.ofInt IntKind.u8.bits (ar x31 (Int.toNat (IntKind.i64.wrap (Int.tdiv x30 (8 : Int))))) ||| BitVec.ofInt IntKind.u8.bits (IntKind.u8.wrap ((1 : Int) * 2 ^ (min (Int.toNat (IntKind.i64.wrap ((7 : Int) - (Int.tmod x30 (8 : Int))))) IntKind.u8.bits)))).toNat))⟩ : S_api_Addr), a1⟩ : S_api_Prefix)) := Box.setA (k := .u8) (m := 16) (x := x31) ([.int .i64 a0.Size] : List Value) ([.int .i64 a1] : List Value) hb2 (by kernel_rfl) hi45 (by kernel_rfl)
      refine hK38 _ _ ?_; try clear hK38 K38
      refine wp_region_lit ?_
      refine seg ha 3 [(1, .int .i64 a1), (2, .pointer (some ⟨g3, 0, none⟩)), (4, .pointer (some ⟨g8, 0, none⟩)), (7, .pointer (some ⟨g22, 0, none⟩)), (8, .int .i64 (IntKind.i64.wrap (x30 + (1 : Int))))] (by kernel_rfl) fun a ha => ?_
      exact ⟨kk, Nat.lt_succ_self _, ⟨IntKind.i64.wrap (x30 + (1 : Int)), ((arL 16 x31).set (Int.toNat (IntKind.i64.wrap (Int.tdiv x30 (8 : Int)))) (IntKind.u8.wrap (BitVec.ofInt IntKind.u8.bits (ar x31 (Int.toNat (IntKind.i64.wrap (Int.tdiv x30 (8 : Int))))) ||| BitVec.ofInt IntKind.u8.bits (IntKind.u8.wrap ((1 : Int) * 2 ^ (min (Int.toNat (IntKind.i64.wrap ((7 : Int) - (Int.tmod x30 (8 : Int))))) IntKind.u8.bits)))).toNat)), H, (ha.sel (by kernel_rfl)), hBg8, hBg22, hE5, hn6, hC, hM⟩⟩
     ·have H := ite_f hc42 H
      refine wp_skip ?_
      refine hK38 _ _ ?_; try clear hK38 K38
      refine wp_region_lit ?_
      refine seg ha 3 [(1, .int .i64 a1), (2, .pointer (some ⟨g3, 0, none⟩)), (4, .pointer (some ⟨g8, 0, none⟩)), (7, .pointer (some ⟨g22, 0, none⟩)), (8, .int .i64 (IntKind.i64.wrap (x30 + (1 : Int))))] (by kernel_rfl) fun a ha => ?_
      exact ⟨kk, Nat.lt_succ_self _, ⟨IntKind.i64.wrap (x30 + (1 : Int)), x31, H, (ha.sel (by kernel_rfl)), hBg8, hBg22, hE5, hn6, hC, hM⟩⟩
    ·have H := ite_f hc37 H
     refine wp_exit ?_
     simp only [Exit.then, Exit.inBlock, ↓reduceIte, Nat.reduceEqDiff]
     obtain rfl := Option.some.inj H
     exact J29 _ _ (ha.sel (by kernel_rfl)) hBg8 hBg22 hC hM
 have H := H15
 refine seg ha 3 [(14, .bool (!t12)), (1, .int .i64 a1), (2, .pointer (some ⟨g3, 0, none⟩)), (4, .pointer (some ⟨g8, 0, none⟩))] (by kernel_rfl) fun a ha => ?_
 rcases Bool.eq_false_or_eq_true (!t12) with hb50 | hb50
 ·have ha := ha.lit hb50
  have H := ite_t hb50 H
  refine sgh ha 15 [1, 1, 1, 3, 0, 1, 1, 3, 0, 1, 1, 1, 1, 1, 3] [(1, .int .i64 a1), (2, .pointer (some ⟨g3, 0, none⟩)), (4, .pointer (some ⟨g8, 0, none⟩)), (29, .bool true)] (by kernel_rfl) fun a ha => ?_
  obtain rfl := Option.some.inj H
  exact J15 _ _ (ha.sel (by kernel_rfl)) hBg8 hE5 hn6 hC hM
 ·have ha := ha.lit hb50
  have H := ite_f hb50 H
  refine sgh ha 1 [2] [(1, .int .i64 a1), (2, .pointer (some ⟨g3, 0, none⟩)), (4, .pointer (some ⟨g8, 0, none⟩)), (14, .bool false), (15, .pointer (some ⟨g3, 0, none⟩))] (by kernel_rfl) fun a ha => ?_
  refine ld ha rfl (by kernel_rfl) rfl rfl rfl (hE5 0 (.int .i64 a0.Size) (by kernel_rfl)) fun a ha => ?_
  refine sgh ha 3 [2, 4, 0] [(19, .bool (a0.Size == (0 : Int))), (1, .int .i64 a1), (2, .pointer (some ⟨g3, 0, none⟩)), (4, .pointer (some ⟨g8, 0, none⟩))] (by kernel_rfl) fun a ha => ?_
  rcases Bool.eq_false_or_eq_true (a0.Size == (0 : Int)) with hb51 | hb51
  ·have ha := ha.lit hb51
   have H := ite_t hb51 H
   refine sgh ha 10 [1, 1, 3, 0, 1, 1, 1, 1, 1, 3] [(1, .int .i64 a1), (2, .pointer (some ⟨g3, 0, none⟩)), (4, .pointer (some ⟨g8, 0, none⟩)), (29, .bool true)] (by kernel_rfl) fun a ha => ?_
   obtain rfl := Option.some.inj H
   exact J15 _ _ (ha.sel (by kernel_rfl)) hBg8 hE5 hn6 hC hM
  ·have ha := ha.lit hb51
   have H := ite_f hb51 H
   refine sgh ha 4 [2, 2, 4, 0] [(23, .bool (decide (a1 < (0 : Int)))), (1, .int .i64 a1), (2, .pointer (some ⟨g3, 0, none⟩)), (4, .pointer (some ⟨g8, 0, none⟩))] (by kernel_rfl) fun a ha => ?_
   rcases Bool.eq_false_or_eq_true (decide (a1 < (0 : Int))) with hb52 | hb52
   ·have ha := ha.lit hb52
    have H := ite_t hb52 H
    refine sgh ha 6 [1, 1, 1, 1, 1, 3] [(1, .int .i64 a1), (2, .pointer (some ⟨g3, 0, none⟩)), (4, .pointer (some ⟨g8, 0, none⟩)), (29, .bool true)] (by kernel_rfl) fun a ha => ?_
    obtain rfl := Option.some.inj H
    exact J15 _ _ (ha.sel (by kernel_rfl)) hBg8 hE5 hn6 hC hM
   ·have ha := ha.lit hb52
    have H := ite_f hb52 H
    refine sgh ha 2 [2, 2] [(1, .int .i64 a1), (2, .pointer (some ⟨g3, 0, none⟩)), (4, .pointer (some ⟨g8, 0, none⟩)), (23, .bool false), (24, .int .i64 a1), (25, .pointer (some ⟨g3, 0, none⟩))] (by kernel_rfl) fun a ha => ?_
    refine ld ha rfl (by kernel_rfl) rfl rfl rfl (hE5 0 (.int .i64 a0.Size) (by kernel_rfl)) fun a ha => ?_
    refine sgh ha 3 [2, 2, 4] [(1, .int .i64 a1), (2, .pointer (some ⟨g3, 0, none⟩)), (4, .pointer (some ⟨g8, 0, none⟩)), (29, .bool (decide (a1 > (IntKind.i64.wrap ((8 : Int) * a0.Size)))))] (by kernel_rfl) fun a ha => ?_
    obtain rfl := Option.some.inj H
    exact J15 _ _ (ha.sel (by kernel_rfl)) hBg8 hE5 hn6 hC hM
def addr_ParsePrefix.f (k : Nat) (a0 : List UInt8) : Option (S_api_Prefix × Int) := (strings_Cut.f a0 ([47] : List UInt8)).bind fun t7 => (addr_Parse.f k t7.1).bind fun t9 => (addr_parts.f k t7.2.1 (47 : Int) (10 : Int) (256 : Int)).bind fun t17 => (if (if (if (if (!t7.2.2) = true then true else (t9.2 != (0 : Int))) = true then true else (!t17.2)) = true then true else ((t17.1.length : Int) != (1 : Int))) = true then some (((⟨(⟨(0 : Int), (List.replicate 16 (0 : Int))⟩ : S_api_Addr), (0 : Int)⟩ : S_api_Prefix) : S_api_Prefix), ((4 : Int) : Int)) else ((if 0 ≤ (0 : Int) ∧ (0 : Int) < (t17.1.length : Int) then some (() : Unit) else none)).bind fun s28 => (addr_right.f k (⟨t9.1, rd t17.1 (0 : Int)⟩ : S_api_Prefix)).bind fun t31 => (if (!t31) = true then some (((⟨(⟨(0 : Int), (List.replicate 16 (0 : Int))⟩ : S_api_Addr), (0 : Int)⟩ : S_api_Prefix) : S_api_Prefix), ((4 : Int) : Int)) else some (((⟨t9.1, rd t17.1 (0 : Int)⟩ : S_api_Prefix) : S_api_Prefix), ((0 : Int) : Int))))
set_option maxRecDepth 100000 in
theorem addr_ParsePrefix.walk (w : World) (M : List Nat) (hM : MS M w) (hG : GF w M) (a0 : List UInt8) (k : Nat) (r : S_api_Prefix × Int) (H : addr_ParsePrefix.f k a0 = some r) :
    To Tryd.prog 19 [.string (bstr a0)] w fun v w' => v = .tuple #[.agg (cS_api_Prefix r.1).toArray, .int .i64 r.2] ∧ Chg [] w w' ∧ MS (M) w' := by
 unfold addr_ParsePrefix.f at H
 refine ent Tryd.func19 rfl [(0, .string (bstr a0))] rfl (by rfl) fun a ha => ?_
 have hC : Chg [] w w := Chg.refl _ _
 refine wp_seq_k fun K1 hK1 => ?_
 refine wp_region_lit ?_
 refine al (cs := (cS_api_Prefix (⟨(⟨(0 : Int), (List.replicate 16 (0 : Int))⟩ : S_api_Addr), (0 : Int)⟩ : S_api_Prefix))) (z := .agg (cS_api_Prefix (⟨(⟨(0 : Int), (List.replicate 16 (0 : Int))⟩ : S_api_Addr), (0 : Int)⟩ : S_api_Prefix)).toArray) ha (fun w => by kernel_rfl) rfl rfl rfl rfl fun a w2 g3 hN4 ha => ?_
 have o1 : Ok [] (M) w.heap.size := Ok.nil _ _
 have o2 : Ok ([g3] ++ (M)) (M) w.heap.size := (Ok.app (hN4.ok _) (Ok.refl _ _))
 have hG := hG.chg hN4.chg o1 o2
 have p_i5_M : ∀ x ∈ [g3], x ∉ M := fun x hx hy => absurd (hM x (hy)) (Nat.not_lt.2 ((hN4.ge1) x hx))
 have e_i5 : ∀ x ∈ [g3], w.heap.size ≤ x := fun x hx => Nat.le_trans hC.size ((hN4.ge1) x hx)
 have hM : MS ([g3] ++ (M)) w2 := (MS.app hN4.ms (hM.chg hN4.chg))
 have hC := hC.trans hN4.chg (Ok.nil _ _)
 have hBg3 : Box w2 g3 (cS_api_Prefix (⟨(⟨(0 : Int), (List.replicate 16 (0 : Int))⟩ : S_api_Addr), (0 : Int)⟩ : S_api_Prefix)) := hN4.box
 refine seg ha 1 [(0, .string (bstr a0)), (2, .pointer (some ⟨g3, 0, none⟩))] (by kernel_rfl) fun a ha => ?_
 refine hK1 _ _ ?_; try clear hK1 K1
 refine wp_seq_k fun K6 hK6 => ?_
 refine wp_region_lit ?_
 refine seg ha 1 [(2, .pointer (some ⟨g3, 0, none⟩)), (13, .string (bstr a0))] (by kernel_rfl) fun a ha => ?_
 obtain ⟨t7, H7, H⟩ := bind_some H
 refine cl ha (by rfl) (by kernel_rfl) (by rfl) (by rfl) (by rfl) (strings_Cut.walk w2 _ hM hG a0 ([47] : List UInt8) _ H7) ?_
 rintro _ w7 ⟨rfl, hc7, hMn⟩ a ha
 have o1 : Ok [] ([g3] ++ (M)) w2.heap.size := Ok.nil _ _
 have o2 : Ok ([g3] ++ (M)) ([g3] ++ (M)) w2.heap.size := (Ok.refl _ _)
 have hG := hG.chg hc7 o1 o2
 have hBg3 := hBg3.chg hc7 (fun h => nomatch h)
 have hM : MS ([g3] ++ (M)) w7 := (hM.chg hc7)
 have hC := hC.trans hc7 (Ok.nil _ _)
 refine seg ha 7 [(2, .pointer (some ⟨g3, 0, none⟩)), (4, .string (bstr t7.1)), (5, .string (bstr t7.2.1)), (6, .bool t7.2.2)] (by kernel_rfl) fun a ha => ?_
 refine hK6 _ _ ?_; try clear hK6 K6
 refine wp_seq_k fun K8 hK8 => ?_
 refine wp_region_lit ?_
 refine seg ha 1 [(2, .pointer (some ⟨g3, 0, none⟩)), (5, .string (bstr t7.2.1)), (6, .bool t7.2.2), (19, .string (bstr t7.1))] (by kernel_rfl) fun a ha => ?_
 obtain ⟨t9, H9, H⟩ := bind_some H
 refine cl ha (by rfl) (by kernel_rfl) (by rfl) (by rfl) (by rfl) (addr_Parse.walk w7 _ hM hG t7.1 k _ H9) ?_
 rintro _ w9 ⟨rfl, hc9, hMn⟩ a ha
 have o1 : Ok [] ([g3] ++ (M)) w7.heap.size := Ok.nil _ _
 have o2 : Ok ([g3] ++ (M)) ([g3] ++ (M)) w7.heap.size := (Ok.refl _ _)
 have hG := hG.chg hc9 o1 o2
 have hBg3 := hBg3.chg hc9 (fun h => nomatch h)
 have hM : MS ([g3] ++ (M)) w9 := (hM.chg hc9)
 have hC := hC.trans hc9 (Ok.nil _ _)
 refine seg ha 3 [(2, .pointer (some ⟨g3, 0, none⟩)), (5, .string (bstr t7.2.1)), (6, .bool t7.2.2), (21, .agg (cS_api_Addr t9.1).toArray), (22, .int .i64 t9.2)] (by kernel_rfl) fun a ha => ?_
 refine al (cs := (cS_api_Addr (⟨(0 : Int), (List.replicate 16 (0 : Int))⟩ : S_api_Addr))) (z := .agg (cS_api_Addr (⟨(0 : Int), (List.replicate 16 (0 : Int))⟩ : S_api_Addr)).toArray) ha (fun w => by kernel_rfl) rfl rfl rfl rfl fun a w10 g11 hN12 ha => ?_
 have o1 : Ok [] ([g3] ++ (M)) w9.heap.size := Ok.nil _ _
 have o2 : Ok ([g11] ++ ([g3] ++ (M))) ([g3] ++ (M)) w9.heap.size := (Ok.app (hN12.ok _) (Ok.refl _ _))
 have hG := hG.chg hN12.chg o1 o2
 have hBg3 := hBg3.chg hN12.chg (fun h => nomatch h)
 have p_i13_i5 : ∀ x ∈ [g11], x ∉ ([g3]) := fun x hx hy => absurd (hM x (ml hy)) (Nat.not_lt.2 ((hN12.ge1) x hx))
 have p_i13_M : ∀ x ∈ [g11], x ∉ M := fun x hx hy => absurd (hM x (mr (hy))) (Nat.not_lt.2 ((hN12.ge1) x hx))
 have e_i13 : ∀ x ∈ [g11], w.heap.size ≤ x := fun x hx => Nat.le_trans hC.size ((hN12.ge1) x hx)
 have hM : MS ([g11] ++ ([g3] ++ (M))) w10 := (MS.app hN12.ms (hM.chg hN12.chg))
 have hC := hC.trans hN12.chg (Ok.nil _ _)
 have hBg11 : Box w10 g11 (cS_api_Addr (⟨(0 : Int), (List.replicate 16 (0 : Int))⟩ : S_api_Addr)) := hN12.box
 refine stA (l := (cS_api_Addr t9.1)) ha rfl rfl rfl (by kernel_rfl) rfl rfl hBg11 rfl fun a w14 ha hb2 hc15 _ => ?_
 have o1 : Ok [g11] ([g11] ++ ([g3] ++ (M))) w10.heap.size := (fun _ h => .inl (ml h))
 have o2 : Ok ([g11] ++ ([g3] ++ (M))) ([g11] ++ ([g3] ++ (M))) w10.heap.size := (Ok.refl _ _)
 have hG := hG.chg hc15 o1 o2
 have hBg3 := hBg3.chg hc15 ((fun x (hx : x ∈ [g3]) (hy : x ∈ [g11]) => p_i13_i5 x hy hx) g3 (by simp))
 have hM : MS ([g11] ++ ([g3] ++ (M))) w14 := (hM.chg hc15)
 have hC := hC.trans hc15 (fun x h => .inr (e_i13 x h))
 have hBg11 : Box w14 g11 (cS_api_Addr t9.1) := hb2
 refine seg ha 1 [(2, .pointer (some ⟨g3, 0, none⟩)), (5, .string (bstr t7.2.1)), (6, .bool t7.2.2), (7, .pointer (some ⟨g11, 0, none⟩)), (8, .int .i64 t9.2)] (by kernel_rfl) fun a ha => ?_
 refine hK8 _ _ ?_; try clear hK8 K8
 refine wp_seq_k fun K16 hK16 => ?_
 refine wp_region_lit ?_
 refine seg ha 1 [(2, .pointer (some ⟨g3, 0, none⟩)), (6, .bool t7.2.2), (7, .pointer (some ⟨g11, 0, none⟩)), (8, .int .i64 t9.2), (24, .string (bstr t7.2.1))] (by kernel_rfl) fun a ha => ?_
 obtain ⟨t17, H17, H⟩ := bind_some H
 refine cl ha (by rfl) (by kernel_rfl) (by rfl) (by rfl) (by rfl) (addr_parts.walk w14 _ hM t7.2.1 (47 : Int) (10 : Int) (256 : Int) k _ H17) ?_
 rintro _ w17 ⟨ao18, cap18, rfl, f18, ne_i18, hc17, hMn⟩ a ha
 have o1 : Ok [] ([g11] ++ ([g3] ++ (M))) w14.heap.size := Ok.nil _ _
 have o2 : Ok (blkL ao18 ++ ([g11] ++ ([g3] ++ (M)))) ([g11] ++ ([g3] ++ (M))) w14.heap.size := (Ok.app (fun x h => .inr (ne_i18 x h)) (Ok.refl _ _))
 have hG := hG.chg hc17 o1 o2
 have hBg3 := hBg3.chg hc17 (fun h => nomatch h)
 have hBg11 := hBg11.chg hc17 (fun h => nomatch h)
 have p_i18_i13 : ∀ x ∈ blkL ao18, x ∉ ([g11]) := fun x hx hy => absurd (hM x (ml hy)) (Nat.not_lt.2 (ne_i18 x hx))
 have p_i18_i5 : ∀ x ∈ blkL ao18, x ∉ ([g3]) := fun x hx hy => absurd (hM x (mr (ml hy))) (Nat.not_lt.2 (ne_i18 x hx))
 have p_i18_M : ∀ x ∈ blkL ao18, x ∉ M := fun x hx hy => absurd (hM x (mr (mr (hy)))) (Nat.not_lt.2 (ne_i18 x hx))
 have e_i18 : ∀ x ∈ blkL ao18, w.heap.size ≤ x := fun x hx => Nat.le_trans hC.size (ne_i18 x hx)
 have hM : MS (blkL ao18 ++ ([g11] ++ ([g3] ++ (M)))) w17 := (MS.app (fun x h => hMn x (ml h)) (hM.chg hc17))
 have hC := hC.trans hc17 (Ok.nil _ _)
 refine seg ha 5 [(2, .pointer (some ⟨g3, 0, none⟩)), (6, .bool t7.2.2), (7, .pointer (some ⟨g11, 0, none⟩)), (8, .int .i64 t9.2), (9, .slice ao18 t17.1.length cap18), (10, .bool t17.2)] (by kernel_rfl) fun a ha => ?_
 refine hK16 _ _ ?_; try clear hK16 K16
 refine wp_seq_k fun K19 hK19 => ?_
 refine wp_seq_k fun K20 hK20 => ?_
 refine wp_region_lit ?_
 refine seg ha 15 [(2, .pointer (some ⟨g3, 0, none⟩)), (7, .pointer (some ⟨g11, 0, none⟩)), (9, .slice ao18 t17.1.length cap18), (42, .bool (if (if (if (!t7.2.2) = true then true else (t9.2 != (0 : Int))) = true then true else (!t17.2)) = true then true else ((t17.1.length : Int) != (1 : Int))))] (by kernel_rfl) fun a ha => ?_
 refine hK20 _ _ ?_; try clear hK20 K20
 refine cnd ha rfl (fun hc21 => ?_) (fun hc21 => ?_)
 ·have H := ite_t hc21 H
  refine wp_seq_k fun K22 hK22 => ?_
  refine wp_region_lit ?_
  refine opk (v := .agg (cS_api_Prefix (⟨(⟨(0 : Int), (List.replicate 16 (0 : Int))⟩ : S_api_Addr), (0 : Int)⟩ : S_api_Prefix)).toArray) ha rfl rfl rfl rfl rfl (fun w => by kernel_rfl) fun a ha => ?_
  refine stA (l := (cS_api_Prefix (⟨(⟨(0 : Int), (List.replicate 16 (0 : Int))⟩ : S_api_Addr), (0 : Int)⟩ : S_api_Prefix))) ha rfl rfl rfl (by kernel_rfl) rfl rfl hBg3 rfl fun a w23 ha hb2 hc24 _ => ?_
  have o1 : Ok [g3] (blkL ao18 ++ ([g11] ++ ([g3] ++ (M)))) w17.heap.size := (fun _ h => .inl (mr (mr (ml h))))
  have o2 : Ok (blkL ao18 ++ ([g11] ++ ([g3] ++ (M)))) (blkL ao18 ++ ([g11] ++ ([g3] ++ (M)))) w17.heap.size := (Ok.refl _ _)
  have hG := hG.chg hc24 o1 o2
  have hBg11 := hBg11.chg hc24 (p_i13_i5 g11 (by simp))
  have hM : MS (blkL ao18 ++ ([g11] ++ ([g3] ++ (M)))) w23 := (hM.chg hc24)
  have hC := hC.trans hc24 (fun x h => .inr (e_i5 x h))
  have hBg3 : Box w23 g3 (cS_api_Prefix (⟨(⟨(0 : Int), (List.replicate 16 (0 : Int))⟩ : S_api_Addr), (0 : Int)⟩ : S_api_Prefix)) := hb2
  refine seg ha 1 [(2, .pointer (some ⟨g3, 0, none⟩)), (3, .int .i64 (4 : Int))] (by kernel_rfl) fun a ha => ?_
  refine hK22 _ _ ?_; try clear hK22 K22
  refine wp_ret ?_
  try simp only [Exit.then, Exit.inBlock]
  have o1 : Ok [] (blkL ao18 ++ ([g11] ++ ([g3] ++ (M)))) w23.heap.size := Ok.nil _ _
  have o2 : Ok (M) (blkL ao18 ++ ([g11] ++ ([g3] ++ (M)))) w23.heap.size := (fun _ h => .inl (mr (mr (mr (h)))))
  have hG := hG.chg (Chg.refl [] _) o1 o2
  have hBg3 := hBg3.chg (Chg.refl [] _) (fun h => nomatch h)
  have hBg11 := hBg11.chg (Chg.refl [] _) (fun h => nomatch h)
  have hM : MS (M) w23 := (fun x h => hM.chg (Chg.refl [] _) x (mr (mr (mr (h)))))
  have hC := hC.trans (Chg.refl [] _) (Ok.nil _ _)
  obtain rfl := Option.some.inj H
  refine rtr ha (res2 rfl (roA ha rfl hBg3 (by kernel_rfl)) (roT ha rfl)) ?_
  exact ⟨rfl, hC, hM⟩
 ·have H := ite_f hc21 H
  refine wp_skip ?_
  refine hK19 _ _ ?_; try clear hK19 K19
  refine wp_seq_k fun K25 hK25 => ?_
  have okS : Ok [] (blkL ao18 ++ ([g11] ++ ([g3] ++ (M)))) w17.heap.size := Ok.nil _ _
  have z_f18 := (Own.toRSl (M' := []) f18 (Ok.nil _ _) (fun _ _ h => nomatch h))
  have z_hBg3 := hBg3
  have z_hBg11 := hBg11
  refine drw (fun w' => Chg [] w17 w') (by kernel_rfl) fun w26 hc27 _ => ?_
  have hS : Chg [] w17 w26 := (Chg.refl [] _).trans hc27 (Ok.nil _ _)
  have o1 : Ok [] (blkL ao18 ++ ([g11] ++ ([g3] ++ (M)))) w17.heap.size := Ok.nil _ _
  have o2 : Ok (blkL ao18 ++ ([g11] ++ ([g3] ++ (M)))) (blkL ao18 ++ ([g11] ++ ([g3] ++ (M)))) w17.heap.size := (Ok.refl _ _)
  have hG := hG.chg hc27 o1 o2
  have f18 := f18.chg hc27 o1 o2 (fun _ _ h => nomatch h) (fun _ h => ml h)
  have hBg3 := hBg3.chg hc27 (fun h => nomatch h)
  have hBg11 := hBg11.chg hc27 (fun h => nomatch h)
  have hM : MS (blkL ao18 ++ ([g11] ++ ([g3] ++ (M)))) w26 := (hM.chg hc27)
  have hC := hC.trans hc27 (Ok.nil _ _)
  obtain ⟨s28, H28, H⟩ := bind_some H
  have J28 : ∀ (a : Act) (w28 : World) (gd11 : Nat), Has a Tryd.f19.ntmps [(2, .pointer (some ⟨g3, 0, none⟩)), (11, .pointer (some ⟨gd11, 0, none⟩))] → (Box w28 g3 (cS_api_Prefix (⟨(⟨(0 : Int), (List.replicate 16 (0 : Int))⟩ : S_api_Addr), (0 : Int)⟩ : S_api_Prefix))) → (Box w28 g11 (cS_api_Addr t9.1)) → (Box w28 gd11 (cS_api_Prefix (⟨t9.1, rd t17.1 (0 : Int)⟩ : S_api_Prefix))) → (∀ x ∈ [gd11], w.heap.size ≤ x) → (∀ x ∈ [gd11], x ∉ [g11]) → (∀ x ∈ [gd11], x ∉ [g3]) → (∀ x ∈ [gd11], x ∉ M) → (GF w28 ([gd11] ++ ([g11] ++ ([g3] ++ (M))))) → (Chg [] w w28) → (MS ([gd11] ++ ([g11] ++ ([g3] ++ (M)))) w28) → K25 a w28 := by
   intro a w28 gd11 ha hBg3 hBg11 hBgd11 e_iD011 p_iD011_i13 p_iD011_i5 p_iD011_M hG hC hM
   refine hK25 _ _ ?_; try clear hK25 K25
   refine wp_seq_k fun K29 hK29 => ?_
   refine wp_seq_k fun K30 hK30 => ?_
   refine wp_region_lit ?_
   refine ldA (cs := (cS_api_Prefix (⟨t9.1, rd t17.1 (0 : Int)⟩ : S_api_Prefix))) ha rfl (by kernel_rfl) rfl rfl rfl (cells_sub (Box.cells hBgd11) (all := (cS_api_Prefix (⟨t9.1, rd t17.1 (0 : Int)⟩ : S_api_Prefix))) [] [] (by kernel_rfl)) fun a ha => ?_
   obtain ⟨t31, H31, H⟩ := bind_some H
   refine cl ha (by rfl) (by kernel_rfl) (by rfl) (by rfl) (by rfl) (addr_right.walk w28 _ hM (⟨t9.1, rd t17.1 (0 : Int)⟩ : S_api_Prefix) k _ H31) ?_
   rintro _ w31 ⟨rfl, hc31, hMn⟩ a ha
   have o1 : Ok [] ([gd11] ++ ([g11] ++ ([g3] ++ (M)))) w28.heap.size := Ok.nil _ _
   have o2 : Ok ([gd11] ++ ([g11] ++ ([g3] ++ (M)))) ([gd11] ++ ([g11] ++ ([g3] ++ (M)))) w28.heap.size := (Ok.refl _ _)
   have hG := hG.chg hc31 o1 o2
   have hBg3 := hBg3.chg hc31 (fun h => nomatch h)
   have hBg11 := hBg11.chg hc31 (fun h => nomatch h)
   have hBgd11 := hBgd11.chg hc31 (fun h => nomatch h)
   have hM : MS ([gd11] ++ ([g11] ++ ([g3] ++ (M)))) w31 := (hM.chg hc31)
   have hC := hC.trans hc31 (Ok.nil _ _)
   refine seg ha 1 [(2, .pointer (some ⟨g3, 0, none⟩)), (11, .pointer (some ⟨gd11, 0, none⟩)), (51, .bool (!t31))] (by kernel_rfl) fun a ha => ?_
   refine hK30 _ _ ?_; try clear hK30 K30
   refine cnd ha rfl (fun hc32 => ?_) (fun hc32 => ?_)
   ·have H := ite_t hc32 H
    refine wp_seq_k fun K33 hK33 => ?_
    refine wp_region_lit ?_
    refine opk (v := .agg (cS_api_Prefix (⟨(⟨(0 : Int), (List.replicate 16 (0 : Int))⟩ : S_api_Addr), (0 : Int)⟩ : S_api_Prefix)).toArray) ha rfl rfl rfl rfl rfl (fun w => by kernel_rfl) fun a ha => ?_
    refine stA (l := (cS_api_Prefix (⟨(⟨(0 : Int), (List.replicate 16 (0 : Int))⟩ : S_api_Addr), (0 : Int)⟩ : S_api_Prefix))) ha rfl rfl rfl (by kernel_rfl) rfl rfl hBg3 rfl fun a w34 ha hb2 hc35 _ => ?_
    have o1 : Ok [g3] ([gd11] ++ ([g11] ++ ([g3] ++ (M)))) w31.heap.size := (fun _ h => .inl (mr (mr (ml h))))
    have o2 : Ok ([gd11] ++ ([g11] ++ ([g3] ++ (M)))) ([gd11] ++ ([g11] ++ ([g3] ++ (M)))) w31.heap.size := (Ok.refl _ _)
    have hG := hG.chg hc35 o1 o2
    have hBg11 := hBg11.chg hc35 (p_i13_i5 g11 (by simp))
    have hBgd11 := hBgd11.chg hc35 (p_iD011_i5 gd11 (by simp))
    have hM : MS ([gd11] ++ ([g11] ++ ([g3] ++ (M)))) w34 := (hM.chg hc35)
    have hC := hC.trans hc35 (fun x h => .inr (e_i5 x h))
    have hBg3 : Box w34 g3 (cS_api_Prefix (⟨(⟨(0 : Int), (List.replicate 16 (0 : Int))⟩ : S_api_Addr), (0 : Int)⟩ : S_api_Prefix)) := hb2
    refine seg ha 1 [(2, .pointer (some ⟨g3, 0, none⟩)), (3, .int .i64 (4 : Int))] (by kernel_rfl) fun a ha => ?_
    refine hK33 _ _ ?_; try clear hK33 K33
    refine wp_ret ?_
    try simp only [Exit.then, Exit.inBlock]
    have o1 : Ok [] ([gd11] ++ ([g11] ++ ([g3] ++ (M)))) w34.heap.size := Ok.nil _ _
    have o2 : Ok (M) ([gd11] ++ ([g11] ++ ([g3] ++ (M)))) w34.heap.size := (fun _ h => .inl (mr (mr (mr (h)))))
    have hG := hG.chg (Chg.refl [] _) o1 o2
    have hBg3 := hBg3.chg (Chg.refl [] _) (fun h => nomatch h)
    have hBg11 := hBg11.chg (Chg.refl [] _) (fun h => nomatch h)
    have hBgd11 := hBgd11.chg (Chg.refl [] _) (fun h => nomatch h)
    have hM : MS (M) w34 := (fun x h => hM.chg (Chg.refl [] _) x (mr (mr (mr (h)))))
    have hC := hC.trans (Chg.refl [] _) (Ok.nil _ _)
    obtain rfl := Option.some.inj H
    refine rtr ha (res2 rfl (roA ha rfl hBg3 (by kernel_rfl)) (roT ha rfl)) ?_
    exact ⟨rfl, hC, hM⟩
   ·have H := ite_f hc32 H
    refine wp_skip ?_
    refine hK29 _ _ ?_; try clear hK29 K29
    refine wp_seq_k fun K36 hK36 => ?_
    refine wp_region_lit ?_
    refine ldA (cs := (cS_api_Prefix (⟨t9.1, rd t17.1 (0 : Int)⟩ : S_api_Prefix))) ha rfl (by kernel_rfl) rfl rfl rfl (cells_sub (Box.cells hBgd11) (all := (cS_api_Prefix (⟨t9.1, rd t17.1 (0 : Int)⟩ : S_api_Prefix))) [] [] (by kernel_rfl)) fun a ha => ?_
    refine stA (l := (cS_api_Prefix (⟨t9.1, rd t17.1 (0 : Int)⟩ : S_api_Prefix))) ha rfl rfl rfl (by kernel_rfl) rfl rfl hBg3 rfl fun a w37 ha hb2 hc38 _ => ?_
    have o1 : Ok [g3] ([gd11] ++ ([g11] ++ ([g3] ++ (M)))) w31.heap.size := (fun _ h => .inl (mr (mr (ml h))))
    have o2 : Ok ([gd11] ++ ([g11] ++ ([g3] ++ (M)))) ([gd11] ++ ([g11] ++ ([g3] ++ (M)))) w31.heap.size := (Ok.refl _ _)
    have hG := hG.chg hc38 o1 o2
    have hBg11 := hBg11.chg hc38 (p_i13_i5 g11 (by simp))
    have hBgd11 := hBgd11.chg hc38 (p_iD011_i5 gd11 (by simp))
    have hM : MS ([gd11] ++ ([g11] ++ ([g3] ++ (M)))) w37 := (hM.chg hc38)
    have hC := hC.trans hc38 (fun x h => .inr (e_i5 x h))
    have hBg3 : Box w37 g3 (cS_api_Prefix (⟨t9.1, rd t17.1 (0 : Int)⟩ : S_api_Prefix)) := hb2
    refine seg ha 1 [(2, .pointer (some ⟨g3, 0, none⟩)), (3, .int .i64 (0 : Int))] (by kernel_rfl) fun a ha => ?_
    refine hK36 _ _ ?_; try clear hK36 K36
    refine wp_ret ?_
    try simp only [Exit.then, Exit.inBlock]
    have o1 : Ok [] ([gd11] ++ ([g11] ++ ([g3] ++ (M)))) w37.heap.size := Ok.nil _ _
    have o2 : Ok (M) ([gd11] ++ ([g11] ++ ([g3] ++ (M)))) w37.heap.size := (fun _ h => .inl (mr (mr (mr (h)))))
    have hG := hG.chg (Chg.refl [] _) o1 o2
    have hBg3 := hBg3.chg (Chg.refl [] _) (fun h => nomatch h)
    have hBg11 := hBg11.chg (Chg.refl [] _) (fun h => nomatch h)
    have hBgd11 := hBgd11.chg (Chg.refl [] _) (fun h => nomatch h)
    have hM : MS (M) w37 := (fun x h => hM.chg (Chg.refl [] _) x (mr (mr (mr (h)))))
    have hC := hC.trans (Chg.refl [] _) (Ok.nil _ _)
    obtain rfl := Option.some.inj H
    refine rtr ha (res2 rfl (roA ha rfl hBg3 (by kernel_rfl)) (roT ha rfl)) ?_
    exact ⟨rfl, hC, hM⟩
  have H := H28
  refine tkz 0 ha (v := .agg (cS_api_Addr t9.1).toArray) (y := fun w' hs => ldA_run (cs := (cS_api_Addr t9.1)) ha rfl (by kernel_rfl) (cells_sub (Box.cells (Box.chg z_hBg11 hs (fun h => nomatch h))) (all := (cS_api_Addr t9.1)) [] [] (by kernel_rfl))) (s := hS) (q := fun a ha => ?_)
  refine tkpz 1 0 (.slice ao18 t17.1.length cap18) ha (s := hS) (q := fun a ha => ?_)
  obtain ⟨⟨hx39, hx39'⟩, H⟩ := ite_some H
  obtain ⟨ge40, oe410, cs42, hx39eq, hn45, hR43, hE44⟩ := RSl.elem z_f18 (Int.toNat (0 : Int)) (by omega)
  rw [rd_get] at hR43
  obtain rfl := hR43
  have hE44 : ∀ j v, ([.int .i64 (rd t17.1 (0 : Int))] : List Value)[j]? = some v → w17.cell? ⟨ge40, (oe410 + (Int.toNat (0 : Int)) * (rInt .i64).sz) + j, none⟩ = some v := hE44
  refine tkz 2 ha (v := .pointer (some ⟨ge40, (oe410 + (Int.toNat (0 : Int)) * (rInt .i64).sz), none⟩)) (y := fun w' _ => ix_run (r := (rInt .i64)) (T := 3) ha (by kernel_rfl) (by kernel_rfl) (by rfl) (by rfl) hx39eq hx39 hx39') (s := hS) (q := fun a ha => ?_)
  refine tkz 3 ha (v := .int .i64 (rd t17.1 (0 : Int))) (y := fun w' hs => ld_run ha rfl (by kernel_rfl) (cell_keep hs (Ok.nil _ _) hn45 (hE44 0 (.int .i64 (rd t17.1 (0 : Int))) (by kernel_rfl)))) (s := hS) (q := fun a ha => ?_)
  refine acs [4, 5] (by kernel_rfl) (by simp) fun i hi => ?_
  simp only [List.mem_cons, List.not_mem_nil, or_false] at hi
  rcases hi with rfl | rfl
  ·refine ⟨_, rfl, fun K46 hK46 => ?_⟩
   refine opk (v := .agg (cS_api_Prefix (⟨t9.1, rd t17.1 (0 : Int)⟩ : S_api_Prefix)).toArray) ha rfl rfl rfl rfl rfl (fun w => by kernel_rfl) fun a ha => ?_
   refine ae hK46 hS ?_; clear hK46 K46
   refine ac 5 (by kernel_rfl) (by rfl) fun K47 hK47 => ?_
   refine al (cs := (cS_api_Prefix (⟨(⟨(0 : Int), (List.replicate 16 (0 : Int))⟩ : S_api_Addr), (0 : Int)⟩ : S_api_Prefix))) (z := .agg (cS_api_Prefix (⟨(⟨(0 : Int), (List.replicate 16 (0 : Int))⟩ : S_api_Addr), (0 : Int)⟩ : S_api_Prefix)).toArray) ha (fun w => by kernel_rfl) rfl rfl rfl rfl fun a w48 gd11 hN49 ha => ?_
   have o1 : Ok [] (blkL ao18 ++ ([g11] ++ ([g3] ++ (M)))) w26.heap.size := Ok.nil _ _
   have o2 : Ok ([gd11] ++ (blkL ao18 ++ ([g11] ++ ([g3] ++ (M))))) (blkL ao18 ++ ([g11] ++ ([g3] ++ (M)))) w26.heap.size := (Ok.app (hN49.ok _) (Ok.refl _ _))
   have hG := hG.chg hN49.chg o1 o2
   have f18 := f18.chg hN49.chg o1 o2 (fun _ _ h => nomatch h) (fun _ h => mr (ml h))
   have hBg3 := hBg3.chg hN49.chg (fun h => nomatch h)
   have hBg11 := hBg11.chg hN49.chg (fun h => nomatch h)
   have p_i18_iD011 : ∀ x ∈ blkL ao18, x ∉ ([gd11]) := fun x hy hx => absurd (hM x (ml hy)) (Nat.not_lt.2 ((hN49.ge1) x hx))
   have p_i13_iD011 : ∀ x ∈ [g11], x ∉ ([gd11]) := fun x hy hx => absurd (hM x (mr (ml hy))) (Nat.not_lt.2 ((hN49.ge1) x hx))
   have p_iD011_i5 : ∀ x ∈ [gd11], x ∉ ([g3]) := fun x hx hy => absurd (hM x (mr (mr (ml hy)))) (Nat.not_lt.2 ((hN49.ge1) x hx))
   have p_iD011_M : ∀ x ∈ [gd11], x ∉ M := fun x hx hy => absurd (hM x (mr (mr (mr (hy))))) (Nat.not_lt.2 ((hN49.ge1) x hx))
   have e_iD011 : ∀ x ∈ [gd11], w.heap.size ≤ x := fun x hx => Nat.le_trans hC.size ((hN49.ge1) x hx)
   have hM : MS ([gd11] ++ (blkL ao18 ++ ([g11] ++ ([g3] ++ (M))))) w48 := (MS.app hN49.ms (hM.chg hN49.chg))
   have hC := hC.trans hN49.chg (Ok.nil _ _)
   have d_iD011 : Ok ([gd11]) [] w17.heap.size := fun x hx => .inr (Nat.le_trans hS.size ((hN49.ge1) x hx))
   have hS := hS.trans hN49.chg (Ok.nil _ _)
   have hBgd11 : Box w48 gd11 (cS_api_Prefix (⟨(⟨(0 : Int), (List.replicate 16 (0 : Int))⟩ : S_api_Addr), (0 : Int)⟩ : S_api_Prefix)) := hN49.box
   refine ae hK47 hS ?_; clear hK47 K47
   refine ac 6 (by kernel_rfl) (by rfl) fun K50 hK50 => ?_
   refine stA (l := (cS_api_Prefix (⟨t9.1, rd t17.1 (0 : Int)⟩ : S_api_Prefix))) ha rfl rfl rfl (by kernel_rfl) rfl rfl hBgd11 rfl fun a w51 ha hb2 hc52 _ => ?_
   have o1 : Ok [gd11] ([gd11] ++ (blkL ao18 ++ ([g11] ++ ([g3] ++ (M))))) w48.heap.size := (fun _ h => .inl (ml h))
   have o2 : Ok ([gd11] ++ (blkL ao18 ++ ([g11] ++ ([g3] ++ (M))))) ([gd11] ++ (blkL ao18 ++ ([g11] ++ ([g3] ++ (M))))) w48.heap.size := (Ok.refl _ _)
   have hG := hG.chg hc52 o1 o2
   have f18 := f18.chg hc52 o1 o2 p_i18_iD011 (fun _ h => mr (ml h))
   have hBg3 := hBg3.chg hc52 ((fun x (hx : x ∈ [g3]) (hy : x ∈ [gd11]) => p_iD011_i5 x hy hx) g3 (by simp))
   have hBg11 := hBg11.chg hc52 (p_i13_iD011 g11 (by simp))
   have hM : MS ([gd11] ++ (blkL ao18 ++ ([g11] ++ ([g3] ++ (M))))) w51 := (hM.chg hc52)
   have hC := hC.trans hc52 (fun x h => .inr (e_iD011 x h))
   have hS := hS.trans hc52 d_iD011
   have hBgd11 : Box w51 gd11 (cS_api_Prefix (⟨t9.1, rd t17.1 (0 : Int)⟩ : S_api_Prefix)) := hb2
   refine ae hK50 hS ?_; clear hK50 K50
   refine dn (by kernel_rfl) ?_
   obtain rfl := Option.some.inj H
   have o1 : Ok [] ([gd11] ++ (blkL ao18 ++ ([g11] ++ ([g3] ++ (M))))) w51.heap.size := Ok.nil _ _
   have o2 : Ok ([gd11] ++ ([g11] ++ ([g3] ++ (M)))) ([gd11] ++ (blkL ao18 ++ ([g11] ++ ([g3] ++ (M))))) w51.heap.size := (Ok.app (fun _ h => .inl (ml h)) (fun _ h => .inl (mr (mr (h)))))
   have hG := hG.chg (Chg.refl [] _) o1 o2
   have hBg3 := hBg3.chg (Chg.refl [] _) (fun h => nomatch h)
   have hBg11 := hBg11.chg (Chg.refl [] _) (fun h => nomatch h)
   have hBgd11 := hBgd11.chg (Chg.refl [] _) (fun h => nomatch h)
   have hM : MS ([gd11] ++ ([g11] ++ ([g3] ++ (M)))) w51 := (MS.app (fun x h => hM.chg (Chg.refl [] _) x (ml h)) (fun x h => hM.chg (Chg.refl [] _) x (mr (mr (h)))))
   have hC := hC.trans (Chg.refl [] _) (Ok.nil _ _)
   exact J28 _ _ gd11 (ha.sel (by kernel_rfl)) hBg3 hBg11 hBgd11 e_iD011 (fun x hx hy => p_i13_iD011 x hy hx) p_iD011_i5 p_iD011_M hG hC hM
  ·refine ⟨_, rfl, fun K53 hK53 => ?_⟩
   refine al (cs := (cS_api_Prefix (⟨(⟨(0 : Int), (List.replicate 16 (0 : Int))⟩ : S_api_Addr), (0 : Int)⟩ : S_api_Prefix))) (z := .agg (cS_api_Prefix (⟨(⟨(0 : Int), (List.replicate 16 (0 : Int))⟩ : S_api_Addr), (0 : Int)⟩ : S_api_Prefix)).toArray) ha (fun w => by kernel_rfl) rfl rfl rfl rfl fun a w54 gd11 hN55 ha => ?_
   have o1 : Ok [] (blkL ao18 ++ ([g11] ++ ([g3] ++ (M)))) w26.heap.size := Ok.nil _ _
   have o2 : Ok ([gd11] ++ (blkL ao18 ++ ([g11] ++ ([g3] ++ (M))))) (blkL ao18 ++ ([g11] ++ ([g3] ++ (M)))) w26.heap.size := (Ok.app (hN55.ok _) (Ok.refl _ _))
   have hG := hG.chg hN55.chg o1 o2
   have f18 := f18.chg hN55.chg o1 o2 (fun _ _ h => nomatch h) (fun _ h => mr (ml h))
   have hBg3 := hBg3.chg hN55.chg (fun h => nomatch h)
   have hBg11 := hBg11.chg hN55.chg (fun h => nomatch h)
   have p_i18_iD011 : ∀ x ∈ blkL ao18, x ∉ ([gd11]) := fun x hy hx => absurd (hM x (ml hy)) (Nat.not_lt.2 ((hN55.ge1) x hx))
   have p_i13_iD011 : ∀ x ∈ [g11], x ∉ ([gd11]) := fun x hy hx => absurd (hM x (mr (ml hy))) (Nat.not_lt.2 ((hN55.ge1) x hx))
   have p_iD011_i5 : ∀ x ∈ [gd11], x ∉ ([g3]) := fun x hx hy => absurd (hM x (mr (mr (ml hy)))) (Nat.not_lt.2 ((hN55.ge1) x hx))
   have p_iD011_M : ∀ x ∈ [gd11], x ∉ M := fun x hx hy => absurd (hM x (mr (mr (mr (hy))))) (Nat.not_lt.2 ((hN55.ge1) x hx))
   have e_iD011 : ∀ x ∈ [gd11], w.heap.size ≤ x := fun x hx => Nat.le_trans hC.size ((hN55.ge1) x hx)
   have hM : MS ([gd11] ++ (blkL ao18 ++ ([g11] ++ ([g3] ++ (M))))) w54 := (MS.app hN55.ms (hM.chg hN55.chg))
   have hC := hC.trans hN55.chg (Ok.nil _ _)
   have d_iD011 : Ok ([gd11]) [] w17.heap.size := fun x hx => .inr (Nat.le_trans hS.size ((hN55.ge1) x hx))
   have hS := hS.trans hN55.chg (Ok.nil _ _)
   have hBgd11 : Box w54 gd11 (cS_api_Prefix (⟨(⟨(0 : Int), (List.replicate 16 (0 : Int))⟩ : S_api_Addr), (0 : Int)⟩ : S_api_Prefix)) := hN55.box
   refine ae hK53 hS ?_; clear hK53 K53
   refine ac 4 (by kernel_rfl) (by rfl) fun K56 hK56 => ?_
   refine opk (v := .agg (cS_api_Prefix (⟨t9.1, rd t17.1 (0 : Int)⟩ : S_api_Prefix)).toArray) ha rfl rfl rfl rfl rfl (fun w => by kernel_rfl) fun a ha => ?_
   refine ae hK56 hS ?_; clear hK56 K56
   refine ac 6 (by kernel_rfl) (by rfl) fun K57 hK57 => ?_
   refine stA (l := (cS_api_Prefix (⟨t9.1, rd t17.1 (0 : Int)⟩ : S_api_Prefix))) ha rfl rfl rfl (by kernel_rfl) rfl rfl hBgd11 rfl fun a w58 ha hb2 hc59 _ => ?_
   have o1 : Ok [gd11] ([gd11] ++ (blkL ao18 ++ ([g11] ++ ([g3] ++ (M))))) w54.heap.size := (fun _ h => .inl (ml h))
   have o2 : Ok ([gd11] ++ (blkL ao18 ++ ([g11] ++ ([g3] ++ (M))))) ([gd11] ++ (blkL ao18 ++ ([g11] ++ ([g3] ++ (M))))) w54.heap.size := (Ok.refl _ _)
   have hG := hG.chg hc59 o1 o2
   have f18 := f18.chg hc59 o1 o2 p_i18_iD011 (fun _ h => mr (ml h))
   have hBg3 := hBg3.chg hc59 ((fun x (hx : x ∈ [g3]) (hy : x ∈ [gd11]) => p_iD011_i5 x hy hx) g3 (by simp))
   have hBg11 := hBg11.chg hc59 (p_i13_iD011 g11 (by simp))
   have hM : MS ([gd11] ++ (blkL ao18 ++ ([g11] ++ ([g3] ++ (M))))) w58 := (hM.chg hc59)
   have hC := hC.trans hc59 (fun x h => .inr (e_iD011 x h))
   have hS := hS.trans hc59 d_iD011
   have hBgd11 : Box w58 gd11 (cS_api_Prefix (⟨t9.1, rd t17.1 (0 : Int)⟩ : S_api_Prefix)) := hb2
   refine ae hK57 hS ?_; clear hK57 K57
   refine dn (by kernel_rfl) ?_
   obtain rfl := Option.some.inj H
   have o1 : Ok [] ([gd11] ++ (blkL ao18 ++ ([g11] ++ ([g3] ++ (M))))) w58.heap.size := Ok.nil _ _
   have o2 : Ok ([gd11] ++ ([g11] ++ ([g3] ++ (M)))) ([gd11] ++ (blkL ao18 ++ ([g11] ++ ([g3] ++ (M))))) w58.heap.size := (Ok.app (fun _ h => .inl (ml h)) (fun _ h => .inl (mr (mr (h)))))
   have hG := hG.chg (Chg.refl [] _) o1 o2
   have hBg3 := hBg3.chg (Chg.refl [] _) (fun h => nomatch h)
   have hBg11 := hBg11.chg (Chg.refl [] _) (fun h => nomatch h)
   have hBgd11 := hBgd11.chg (Chg.refl [] _) (fun h => nomatch h)
   have hM : MS ([gd11] ++ ([g11] ++ ([g3] ++ (M)))) w58 := (MS.app (fun x h => hM.chg (Chg.refl [] _) x (ml h)) (fun x h => hM.chg (Chg.refl [] _) x (mr (mr (h)))))
   have hC := hC.trans (Chg.refl [] _) (Ok.nil _ _)
   exact J28 _ _ gd11 (ha.sel (by kernel_rfl)) hBg3 hBg11 hBgd11 e_iD011 (fun x hx hy => p_i13_iD011 x hy hx) p_iD011_i5 p_iD011_M hG hC hM
def vineryref02_split.l0 (a0 : List UInt8) (a1 : Int) : Nat → (List (List UInt8)) → Int → Option (List (List UInt8))
  | 0, _, _ => none
  | kk + 1, x12, x13 => (if (decide (x13 < ((bstr a0).size : Int))) = true then (if 0 ≤ x13 ∧ x13 < (a0.length : Int) then (if (((a0.getD (Int.toNat x13) 0).toNat : Int) == a1) = true then (if (x12.length + ([([] : List UInt8)] : List (List UInt8)).length) * 16 ≤ 140737488355328 then vineryref02_split.l0 a0 a1 kk (x12 ++ ([([] : List UInt8)] : List (List UInt8))) (IntKind.i64.wrap (x13 + (1 : Int))) else none) else (if 0 ≤ (IntKind.i64.wrap ((x12.length : Int) - (1 : Int))) ∧ (IntKind.i64.wrap ((x12.length : Int) - (1 : Int))) < (x12.length : Int) then (if 0 ≤ x13 ∧ x13 ≤ (IntKind.i64.wrap (x13 + (1 : Int))) ∧ (IntKind.i64.wrap (x13 + (1 : Int))) ≤ (a0.length : Int) then (if ((rd x12 (IntKind.i64.wrap ((x12.length : Int) - (1 : Int)))) ++ ((a0.take (Int.toNat (IntKind.i64.wrap (x13 + (1 : Int))))).drop (Int.toNat x13))).length ≤ 9223372036854775807 then (if 0 ≤ (IntKind.i64.wrap ((x12.length : Int) - (1 : Int))) ∧ (IntKind.i64.wrap ((x12.length : Int) - (1 : Int))) < (x12.length : Int) then vineryref02_split.l0 a0 a1 kk (x12.set (Int.toNat (IntKind.i64.wrap ((x12.length : Int) - (1 : Int)))) ((rd x12 (IntKind.i64.wrap ((x12.length : Int) - (1 : Int)))) ++ ((a0.take (Int.toNat (IntKind.i64.wrap (x13 + (1 : Int))))).drop (Int.toNat x13)))) (IntKind.i64.wrap (x13 + (1 : Int))) else none) else none) else none) else none)) else none) else some (x12 : List (List UInt8)))
def vineryref02_split.f (k : Nat) (a0 : List UInt8) (a1 : Int) : Option (List (List UInt8)) := (vineryref02_split.l0 a0 a1 k ([([] : List UInt8)] : List (List UInt8)) (0 : Int)).bind fun s10 => some ((s10 : List (List UInt8)))
set_option maxRecDepth 100000 in
theorem vineryref02_split.walk (w : World) (M : List Nat) (hM : MS M w) (a0 : List UInt8) (a1 : Int) (k : Nat) (r : List (List UInt8)) (H : vineryref02_split.f k a0 a1 = some r) :
    To Tryd.prog 50 [.string (bstr a0), .int .u8 a1] w fun v w' => ∃ (ao46 : Option Addr) (cap46 : Nat), v = .slice ao46 r.length cap46 ∧ (Own rStr 9 w' (blkL ao46 ++ (M)) ao46 cap46 r) ∧ (∀ x ∈ blkL ao46, w.heap.size ≤ x) ∧ Chg [] w w' ∧ MS (blkL ao46 ++ (M)) w' := by
 unfold vineryref02_split.f at H
 refine ent Tryd.func50 rfl [(0, .string (bstr a0)), (1, .int .u8 a1)] rfl (by rfl) fun a ha => ?_
 have hC : Chg [] w w := Chg.refl _ _
 refine wp_seq_k fun K1 hK1 => ?_
 refine wp_region_lit ?_
 refine seg ha 1 [(0, .string (bstr a0)), (1, .int .u8 a1)] (by kernel_rfl) fun a ha => ?_
 refine hK1 _ _ ?_; try clear hK1 K1
 refine wp_seq_k fun K2 hK2 => ?_
 refine wp_region_lit ?_
 refine bsl (vals := ([.string (bstr ([] : List UInt8))] : List Value)) (T := 9) ha rfl (([.string (bstr ([] : List UInt8))] : List Value) ++ ([] : List Value)) (fun w => by kernel_rfl) rfl rfl rfl fun a w3 g4 hN5 ha => ?_
 have p_i6_M : ∀ x ∈ [g4], x ∉ M := fun x hx hy => absurd (hM x (hy)) (Nat.not_lt.2 ((hN5.ge1) x hx))
 have e_i6 : ∀ x ∈ [g4], w.heap.size ≤ x := fun x hx => Nat.le_trans hC.size ((hN5.ge1) x hx)
 have hM : MS ([g4] ++ (M)) w3 := (MS.app hN5.ms (hM.chg hN5.chg))
 have hC := hC.trans hN5.chg (Ok.nil _ _)
 have f7 : Own rStr 9 w3 ([g4] ++ (M)) (some ⟨g4, 0, none⟩) 1 ([([] : List UInt8)] : List (List UInt8)) := hN5.own ⟨([.string (bstr ([] : List UInt8))] : List Value), _, rfl, rfl, rfl⟩ (Nat.le_of_ble_eq_true rfl)
 refine seg ha 1 [(0, .string (bstr a0)), (1, .int .u8 a1), (5, .slice (some ⟨g4, 0, none⟩) ([([] : List UInt8)] : List (List UInt8)).length 1)] (by kernel_rfl) fun a ha => ?_
 refine hK2 _ _ ?_; try clear hK2 K2
 refine wp_seq_k fun K8 hK8 => ?_
 refine wp_seq_k fun K9 hK9 => ?_
 refine wp_region_lit ?_
 refine seg ha 1 [(0, .string (bstr a0)), (1, .int .u8 a1), (5, .slice (some ⟨g4, 0, none⟩) ([([] : List UInt8)] : List (List UInt8)).length 1), (6, .int .i64 (0 : Int))] (by kernel_rfl) fun a ha => ?_
 refine hK9 _ _ ?_; try clear hK9 K9
 refine wp_block ?_
 obtain ⟨s10, H10, H⟩ := bind_some H
 have J10 : ∀ (a : Act) (wx10 : World) (ao14 : Option Addr) (cap14 : Nat), Has a Tryd.f50.ntmps [(5, .slice ao14 s10.length cap14)] → (Own rStr 9 wx10 (blkL ao14 ++ (M)) ao14 cap14 s10) → (∀ x ∈ blkL ao14, w.heap.size ≤ x) → (∀ x ∈ blkL ao14, x ∉ M) → (Chg [] w wx10) → (MS (blkL ao14 ++ (M)) wx10) → K8 a wx10 := by
  intro a wx10 ao14 cap14 ha f14 e_i14 p_i14_M hC hM
  refine hK8 _ _ ?_; try clear hK8 K8
  refine wp_seq_k fun K15 hK15 => ?_
  refine wp_region_lit ?_
  refine seg ha 2 [(4, .slice ao14 s10.length cap14)] (by kernel_rfl) fun a ha => ?_
  refine hK15 _ _ ?_; try clear hK15 K15
  refine wp_ret ?_
  try simp only [Exit.then, Exit.inBlock]
  obtain rfl := Option.some.inj H
  refine rt1 ha rfl rfl ?_
  exact ⟨ao14, cap14, rfl, f14, e_i14, hC, hM⟩
 have Hc10 := H
 have H := H10
 refine wp_loop_ghost (fun kk a w10 => ∃ (x12 : List (List UInt8)) (x13 : Int) (ao11 : Option Addr) (cap11 : Nat), vineryref02_split.l0 a0 a1 kk x12 x13 = some s10 ∧ Has a Tryd.f50.ntmps [(0, .string (bstr a0)), (1, .int .u8 a1), (5, .slice ao11 x12.length cap11), (6, .int .i64 x13)] ∧ (Own rStr 9 w10 (blkL ao11 ++ (M)) ao11 cap11 x12) ∧ (∀ x ∈ blkL ao11, w.heap.size ≤ x) ∧ (∀ x ∈ blkL ao11, x ∉ M) ∧ (Chg [] w w10) ∧ (MS (blkL ao11 ++ (M)) w10)) k ?_ ?_
 ·skip
  exact ⟨([([] : List UInt8)] : List (List UInt8)), (0 : Int), (some ⟨g4, 0, none⟩), 1, H, (ha.sel (by kernel_rfl)), f7, e_i6, p_i6_M, hC, hM⟩
 ·rintro kk a w10 ⟨x12, x13, ao11, cap11, H, ha, f11, e_i11, p_i11_M, hC, hM⟩
  obtain _ | kk := kk
  ·exact nomatch (show none = some _ from H)
  rw [vineryref02_split.l0] at H
  refine wp_seq_k fun K16 hK16 => ?_
  refine wp_seq_k fun K17 hK17 => ?_
  refine wp_region_lit ?_
  refine seg ha 4 [(0, .string (bstr a0)), (1, .int .u8 a1), (5, .slice ao11 x12.length cap11), (6, .int .i64 x13), (11, .bool (decide (x13 < ((bstr a0).size : Int))))] (by kernel_rfl) fun a ha => ?_
  refine hK17 _ _ ?_; try clear hK17 K17
  refine cnd ha rfl (fun hc18 => ?_) (fun hc18 => ?_)
  ·have H := ite_t hc18 H
   refine wp_skip ?_
   refine hK16 _ _ ?_; try clear hK16 K16
   refine wp_seq_k fun K19 hK19 => ?_
   refine wp_block ?_
   refine wp_seq_k fun K20 hK20 => ?_
   refine wp_region_lit ?_
   refine seg ha 2 [(0, .string (bstr a0)), (1, .int .u8 a1), (5, .slice ao11 x12.length cap11), (6, .int .i64 x13), (14, .string (bstr a0)), (15, .int .i64 x13)] (by kernel_rfl) fun a ha => ?_
   obtain ⟨⟨hx21, hx21'⟩, H⟩ := ite_some H
   refine hop (v := .int .u8 ((a0.getD (Int.toNat x13) 0).toNat : Int)) (w' := w10) ha rfl rfl rfl (sidx_run (l := a0) (k := .i64) (i := x13) ha (by kernel_rfl) (by rfl) (by rfl) hx21 hx21' _) fun a ha => ?_
   refine seg ha 2 [(0, .string (bstr a0)), (1, .int .u8 a1), (5, .slice ao11 x12.length cap11), (6, .int .i64 x13), (18, .bool (((a0.getD (Int.toNat x13) 0).toNat : Int) == a1))] (by kernel_rfl) fun a ha => ?_
   refine hK20 _ _ ?_; try clear hK20 K20
   refine cnd ha rfl (fun hc22 => ?_) (fun hc22 => ?_)
   ·have H := ite_t hc22 H
    refine wp_region_lit ?_
    refine seg ha 1 [(0, .string (bstr a0)), (1, .int .u8 a1), (6, .int .i64 x13), (19, .slice ao11 x12.length cap11)] (by kernel_rfl) fun a ha => ?_
    refine bsl (vals := ([.string (bstr ([] : List UInt8))] : List Value)) (T := 9) ha rfl (([.string (bstr ([] : List UInt8))] : List Value) ++ ([] : List Value)) (fun w => by kernel_rfl) rfl rfl rfl fun a w23 g24 hN25 ha => ?_
    have o1 : Ok [] (blkL ao11 ++ (M)) w10.heap.size := Ok.nil _ _
    have o2 : Ok ([g24] ++ (blkL ao11 ++ (M))) (blkL ao11 ++ (M)) w10.heap.size := (Ok.app (hN25.ok _) (Ok.refl _ _))
    have f11 := f11.chg hN25.chg o1 o2 (fun _ _ h => nomatch h) (fun _ h => mr (ml h))
    have p_i26_i11 : ∀ x ∈ [g24], x ∉ (blkL ao11) := fun x hx hy => absurd (hM x (ml hy)) (Nat.not_lt.2 ((hN25.ge1) x hx))
    have p_i26_M : ∀ x ∈ [g24], x ∉ M := fun x hx hy => absurd (hM x (mr (hy))) (Nat.not_lt.2 ((hN25.ge1) x hx))
    have e_i26 : ∀ x ∈ [g24], w.heap.size ≤ x := fun x hx => Nat.le_trans hC.size ((hN25.ge1) x hx)
    have hM : MS ([g24] ++ (blkL ao11 ++ (M))) w23 := (MS.app hN25.ms (hM.chg hN25.chg))
    have hC := hC.trans hN25.chg (Ok.nil _ _)
    have f27 : Own rStr 9 w23 ([g24] ++ (blkL ao11 ++ (M))) (some ⟨g24, 0, none⟩) 1 ([([] : List UInt8)] : List (List UInt8)) := hN25.own ⟨([.string (bstr ([] : List UInt8))] : List Value), _, rfl, rfl, rfl⟩ (Nat.le_of_ble_eq_true rfl)
    obtain ⟨hx28, H⟩ := ite_some H
    refine app (r := rStr) (xs := x12) (ys := ([([] : List UInt8)] : List (List UInt8))) ha (ElemT.mk' (bytes := 16) (by kernel_rfl)) rfl rfl rfl rfl rfl f11 f27.src hx28 (by decide) fun a w29 ao30 cap30 hO30 hc30 hk30 hl30 ha => ?_
    have o1 : Ok (blkL ao11) ([g24] ++ (blkL ao11 ++ (M))) w23.heap.size := (fun _ h => .inl (mr (ml h)))
    have o2 : Ok (blkL ao30 ++ ([g24] ++ (M))) ([g24] ++ (blkL ao11 ++ (M))) w23.heap.size := (Ok.app (Ok.to hk30 (fun _ h => mr (ml h))) (Ok.app (fun _ h => .inl (ml h)) (fun _ h => .inl (mr (mr (h))))))
    have f27 := f27.chg hc30 o1 o2 p_i26_i11 (fun _ h => mr (ml h))
    have p_i30_i26 : ∀ x ∈ blkL ao30, x ∉ ([g24]) := fun x hx hy => (hk30 x hx).elim (fun h => (fun x hx hy => p_i26_i11 x hy hx) x h hy) (fun h => absurd (hM x (ml hy)) (Nat.not_lt.2 h))
    have p_i30_M : ∀ x ∈ blkL ao30, x ∉ M := fun x hx hy => (hk30 x hx).elim (fun h => p_i11_M x h hy) (fun h => absurd (hM x (mr (mr (hy)))) (Nat.not_lt.2 h))
    have e_i30 : ∀ x ∈ blkL ao30, w.heap.size ≤ x := fun x hx => (hk30 x hx).elim (e_i11 x) (Nat.le_trans hC.size)
    have hM : MS (blkL ao30 ++ ([g24] ++ (M))) w29 := (MS.app hl30 (MS.app (fun x h => hM.chg hc30 x (ml h)) (fun x h => hM.chg hc30 x (mr (mr (h))))))
    have hC := hC.trans hc30 (fun x h => .inr (e_i11 x h))
    have f30 := hO30.chg (M' := blkL ao30 ++ ([g24] ++ (M))) (Chg.refl [] _) (Ok.nil _ _) (Ok.app (fun _ h => .inl (ml h)) (Ok.to (Ok.app (fun _ h => .inl (ml h)) (fun _ h => .inl (mr (mr (h))))) (fun _ h => mr h))) (fun _ _ h => nomatch h) (fun _ h => ml h)
    refine seg ha 1 [(0, .string (bstr a0)), (1, .int .u8 a1), (5, .slice ao30 (x12 ++ ([([] : List UInt8)] : List (List UInt8))).length cap30), (6, .int .i64 x13)] (by kernel_rfl) fun a ha => ?_
    refine hK19 _ _ ?_; try clear hK19 K19
    refine wp_region_lit ?_
    refine seg ha 3 [(0, .string (bstr a0)), (1, .int .u8 a1), (5, .slice ao30 (x12 ++ ([([] : List UInt8)] : List (List UInt8))).length cap30), (6, .int .i64 (IntKind.i64.wrap (x13 + (1 : Int))))] (by kernel_rfl) fun a ha => ?_
    have o1 : Ok [] (blkL ao30 ++ ([g24] ++ (M))) w29.heap.size := Ok.nil _ _
    have o2 : Ok (blkL ao30 ++ (M)) (blkL ao30 ++ ([g24] ++ (M))) w29.heap.size := (Ok.app (fun _ h => .inl (ml h)) (fun _ h => .inl (mr (mr (h)))))
    have f30 := f30.chg (Chg.refl [] _) o1 o2 (fun _ _ h => nomatch h) (fun _ h => ml h)
    have hM : MS (blkL ao30 ++ (M)) w29 := (MS.app (fun x h => hM.chg (Chg.refl [] _) x (ml h)) (fun x h => hM.chg (Chg.refl [] _) x (mr (mr (h)))))
    have hC := hC.trans (Chg.refl [] _) (Ok.nil _ _)
    exact ⟨kk, Nat.lt_succ_self _, ⟨(x12 ++ ([([] : List UInt8)] : List (List UInt8))), IntKind.i64.wrap (x13 + (1 : Int)), ao30, cap30, H, (ha.sel (by kernel_rfl)), f30, e_i30, p_i30_M, hC, hM⟩⟩
   ·have H := ite_f hc22 H
    refine drq 17 (fun w' => Chg [] w10 w') (by kernel_rfl) (by kernel_rfl) (fun _ h => h) ?_
    refine qp 0 (.slice ao11 x12.length cap11) ha rfl rfl rfl (by kernel_rfl) fun a ha => ?_
    refine qp 0 (.slice ao11 x12.length cap11) ha rfl rfl rfl (by kernel_rfl) fun a ha => ?_
    refine qp 0 (.int .i64 (x12.length : Int)) ha rfl rfl rfl (by kernel_rfl) fun a ha => ?_
    refine qp 0 (.int .i64 (IntKind.i64.wrap ((x12.length : Int) - (1 : Int)))) ha rfl rfl rfl (by kernel_rfl) fun a ha => ?_
    refine qp 0 (.slice ao11 x12.length cap11) ha rfl rfl rfl (by kernel_rfl) fun a ha => ?_
    refine qp 0 (.slice ao11 x12.length cap11) ha rfl rfl rfl (by kernel_rfl) fun a ha => ?_
    refine qp 0 (.int .i64 (x12.length : Int)) ha rfl rfl rfl (by kernel_rfl) fun a ha => ?_
    refine qp 0 (.int .i64 (IntKind.i64.wrap ((x12.length : Int) - (1 : Int)))) ha rfl rfl rfl (by kernel_rfl) fun a ha => ?_
    obtain ⟨⟨hx31, hx31'⟩, H⟩ := ite_some H
    obtain ⟨ge32, oe330, cs34, hx31eq, hn37, hR35, hE36⟩ := RSl.elem (Own.toRSl (M' := []) f11 (Ok.nil _ _) (fun _ _ h => nomatch h)) (Int.toNat (IntKind.i64.wrap ((x12.length : Int) - (1 : Int)))) (by omega)
    rw [rd_get] at hR35
    obtain rfl := hR35
    have hE36 : ∀ j v, ([.string (bstr (rd x12 (IntKind.i64.wrap ((x12.length : Int) - (1 : Int)))))] : List Value)[j]? = some v → w10.cell? ⟨ge32, (oe330 + (Int.toNat (IntKind.i64.wrap ((x12.length : Int) - (1 : Int)))) * rStr.sz) + j, none⟩ = some v := hE36
    refine qv (v := .pointer (some ⟨ge32, (oe330 + (Int.toNat (IntKind.i64.wrap ((x12.length : Int) - (1 : Int)))) * rStr.sz), none⟩)) ha rfl rfl rfl (fun w' hs => ix_run (r := rStr) (T := 9) ha (by kernel_rfl) (by kernel_rfl) (by rfl) (by rfl) hx31eq hx31 hx31') fun a ha => ?_
    refine qv (v := .string (bstr (rd x12 (IntKind.i64.wrap ((x12.length : Int) - (1 : Int)))))) ha rfl rfl rfl (fun w' hs => ld_run ha rfl (by kernel_rfl) (hs.keep (hE36 0 (.string (bstr (rd x12 (IntKind.i64.wrap ((x12.length : Int) - (1 : Int)))))) (by kernel_rfl)))) fun a ha => ?_
    refine qp 0 (.string (bstr a0)) ha rfl rfl rfl (by kernel_rfl) fun a ha => ?_
    refine qp 0 (.int .i64 x13) ha rfl rfl rfl (by kernel_rfl) fun a ha => ?_
    refine qp 0 (.int .i64 x13) ha rfl rfl rfl (by kernel_rfl) fun a ha => ?_
    refine qp 0 (.int .i64 (IntKind.i64.wrap (x13 + (1 : Int)))) ha rfl rfl rfl (by kernel_rfl) fun a ha => ?_
    obtain ⟨⟨hx38, hx38', hx38''⟩, H⟩ := ite_some H
    refine qv (v := .string (bstr ((a0.take (Int.toNat (IntKind.i64.wrap (x13 + (1 : Int))))).drop (Int.toNat x13)))) ha rfl rfl rfl (fun w' hs => ssl_run (s := a0) (l := x13) (h := (IntKind.i64.wrap (x13 + (1 : Int)))) ha (by kernel_rfl) (by rfl) (by rfl) (by rfl) hx38 hx38' hx38'' w') fun a ha => ?_
    obtain ⟨hx39, H⟩ := ite_some H
    refine qv (v := .string (bstr ((rd x12 (IntKind.i64.wrap ((x12.length : Int) - (1 : Int)))) ++ ((a0.take (Int.toNat (IntKind.i64.wrap (x13 + (1 : Int))))).drop (Int.toNat x13))))) ha rfl rfl rfl (fun w' hs => sadd_run ha rfl rfl hx39 w') fun a ha => ?_
    obtain ⟨⟨hx40, hx40'⟩, H⟩ := ite_some H
    have hi40 : (Int.toNat (IntKind.i64.wrap ((x12.length : Int) - (1 : Int)))) < x12.length := by omega
    obtain ⟨ge40, ee40⟩ := Own.addr f11 hi40
    refine qv (v := .pointer (some ⟨ge40, (Int.toNat (IntKind.i64.wrap ((x12.length : Int) - (1 : Int)))), none⟩)) ha rfl rfl rfl (fun w' hs => ixO_run (r := rStr) (T := 9) (k := .i64) (i := IntKind.i64.wrap ((x12.length : Int) - (1 : Int))) rfl ha (by kernel_rfl) (by kernel_rfl) (by rfl) (by rfl) ee40 hx40 hx40' w') fun a ha => ?_
    refine wpQuiet_nil ?_
    intro w41 hc42
    have o1 : Ok [] (blkL ao11 ++ (M)) w10.heap.size := Ok.nil _ _
    have o2 : Ok (blkL ao11 ++ (M)) (blkL ao11 ++ (M)) w10.heap.size := (Ok.refl _ _)
    have f11 := f11.chg hc42 o1 o2 (fun _ _ h => nomatch h) (fun _ h => ml h)
    have hM : MS (blkL ao11 ++ (M)) w41 := (hM.chg hc42)
    have hC := hC.trans hc42 (Ok.nil _ _)
    refine stO (r := rStr) (z := (rd x12 (IntKind.i64.wrap ((x12.length : Int) - (1 : Int)))) ++ ((a0.take (Int.toNat (IntKind.i64.wrap (x13 + (1 : Int))))).drop (Int.toNat x13))) ha rfl rfl (by kernel_rfl) rfl rfl f11 rfl ee40 hi40 (fun _ _ => rfl) fun a w43 ha hO45 hc44 => ?_
    have hM : MS (blkL ao11 ++ (M)) w43 := (hM.chg hc44)
    have hC := hC.trans hc44 (fun x h => .inr (e_i11 x h))
    have f45 := hO45
    have hl45 : (x12.set (Int.toNat (IntKind.i64.wrap ((x12.length : Int) - (1 : Int)))) ((rd x12 (IntKind.i64.wrap ((x12.length : Int) - (1 : Int)))) ++ ((a0.take (Int.toNat (IntKind.i64.wrap (x13 + (1 : Int))))).drop (Int.toNat x13)))).length = x12.length := List.length_set
    have ha : Has a Tryd.f50.ntmps [(0, .string (bstr a0)), (1, .int .u8 a1), (5, .slice ao11 (x12.set (Int.toNat (IntKind.i64.wrap ((x12.length : Int) - (1 : Int)))) ((rd x12 (IntKind.i64.wrap ((x12.length : Int) - (1 : Int)))) ++ ((a0.take (Int.toNat (IntKind.i64.wrap (x13 + (1 : Int))))).drop (Int.toNat x13)))).length cap11), (6, .int .i64 x13), (37, .string (bstr ((rd x12 (IntKind.i64.wrap ((x12.length : Int) - (1 : Int)))) ++ ((a0.take (Int.toNat (IntKind.i64.wrap (x13 + (1 : Int))))).drop (Int.toNat x13)))))] := by rw [hl45]; exact ha.sel (by kernel_rfl)
    refine hK19 _ _ ?_; try clear hK19 K19
    refine wp_region_lit ?_
    refine seg ha 3 [(0, .string (bstr a0)), (1, .int .u8 a1), (5, .slice ao11 (x12.set (Int.toNat (IntKind.i64.wrap ((x12.length : Int) - (1 : Int)))) ((rd x12 (IntKind.i64.wrap ((x12.length : Int) - (1 : Int)))) ++ ((a0.take (Int.toNat (IntKind.i64.wrap (x13 + (1 : Int))))).drop (Int.toNat x13)))).length cap11), (6, .int .i64 (IntKind.i64.wrap (x13 + (1 : Int))))] (by kernel_rfl) fun a ha => ?_
    exact ⟨kk, Nat.lt_succ_self _, ⟨(x12.set (Int.toNat (IntKind.i64.wrap ((x12.length : Int) - (1 : Int)))) ((rd x12 (IntKind.i64.wrap ((x12.length : Int) - (1 : Int)))) ++ ((a0.take (Int.toNat (IntKind.i64.wrap (x13 + (1 : Int))))).drop (Int.toNat x13)))), IntKind.i64.wrap (x13 + (1 : Int)), ao11, cap11, H, (ha.sel (by kernel_rfl)), f45, e_i11, p_i11_M, hC, hM⟩⟩
  ·have H := ite_f hc18 H
   refine wp_exit ?_
   simp only [Exit.then, Exit.inBlock, ↓reduceIte, Nat.reduceEqDiff]
   obtain rfl := Option.some.inj H
   exact J10 _ _ ao11 cap11 (ha.sel (by kernel_rfl)) f11 e_i11 p_i11_M hC hM
end Go.E
