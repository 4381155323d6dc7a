/- What the functions that the law reaches compute, and the walks that show it. -/
import Derived.Test.YtildkadbjkfgfaaGreatDoorEngU
import Derived.Test.YtildkadbjkfgfaaGreatDoorShelf
import Derived.Test.YtildkadbjkfgfaaGreatDoorEngX
import Derived.Test.YtildkadbjkfgfaaGreatDoorEngQ
import Derived.Test.YtildkadbjkfgfaaGreatDoorEngY
import Derived.Test.YtildkadbjkfgfaaGreatDoorEngZ
import Derived.Test.YtildkadbjkfgfaaGreatDoorProg
import Derived.Test.YtildkadbjkfgfaaGreatDoorGenJoinsKeepsP1
set_option linter.unusedVariables false
set_option linter.unusedSimpArgs false
namespace Go.E
open Go.RowKit Go.Proofs
def vinerylaw20_JoinsKeeps.l2 (a1 : S_api_Join) (t67 : Int × S_joins_Joins) (t70 : List S_api_Join) : Nat → Int → Int → Option (S_joins_Joins × Int)
  | 0, _, _ => none
  | kk + 1, x74, x75 => (if (decide (x75 < (t70.length : Int))) = true then (if 0 ≤ x75 ∧ x75 < (t70.length : Int) then (if (((bstr ((rd t70 x75).Vrf)).toList == (bstr a1.Vrf).toList) && (((bstr ((rd t70 x75).Iface)).toList == (bstr a1.Iface).toList) && ((((((rd t70 x75).Source).Size) == a1.Source.Size) && ((eqA 16 (((rd t70 x75).Source).B) a1.Source.B) && true)) && ((((((rd t70 x75).Group).Size) == a1.Group.Size) && ((eqA 16 (((rd t70 x75).Group).B) a1.Group.B) && true)) && true)))) = true then vinerylaw20_JoinsKeeps.l2 a1 t67 t70 kk (IntKind.i64.wrap (x74 + (1 : Int))) (IntKind.i64.wrap (x75 + (1 : Int))) else vinerylaw20_JoinsKeeps.l2 a1 t67 t70 kk x74 (IntKind.i64.wrap (x75 + (1 : Int)))) else none) else some ((t67.2 : S_joins_Joins), (x74 : Int)))
def vinerylaw20_JoinsKeeps.l3 (a1 : S_api_Join) (t97 : Bool × S_joins_Joins) (t100 : List S_api_Join) : Nat → Int → Int → Option (S_joins_Joins × Int)
  | 0, _, _ => none
  | kk + 1, x104, x105 => (if (decide (x105 < (t100.length : Int))) = true then (if 0 ≤ x105 ∧ x105 < (t100.length : Int) then (if (((bstr ((rd t100 x105).Vrf)).toList == (bstr a1.Vrf).toList) && (((bstr ((rd t100 x105).Iface)).toList == (bstr a1.Iface).toList) && ((((((rd t100 x105).Source).Size) == a1.Source.Size) && ((eqA 16 (((rd t100 x105).Source).B) a1.Source.B) && true)) && ((((((rd t100 x105).Group).Size) == a1.Group.Size) && ((eqA 16 (((rd t100 x105).Group).B) a1.Group.B) && true)) && true)))) = true then vinerylaw20_JoinsKeeps.l3 a1 t97 t100 kk (IntKind.i64.wrap (x104 + (1 : Int))) (IntKind.i64.wrap (x105 + (1 : Int))) else vinerylaw20_JoinsKeeps.l3 a1 t97 t100 kk x104 (IntKind.i64.wrap (x105 + (1 : Int)))) else none) else some ((t97.2 : S_joins_Joins), (x104 : Int)))
def vinerylaw20_JoinsKeeps.l4 (a1 : S_api_Join) (t127 : Int × S_joins_Joins) (t130 : List S_api_Join) : Nat → Int → Int → Option (S_joins_Joins × Int)
  | 0, _, _ => none
  | kk + 1, x134, x135 => (if (decide (x135 < (t130.length : Int))) = true then (if 0 ≤ x135 ∧ x135 < (t130.length : Int) then (if (((bstr ((rd t130 x135).Vrf)).toList == (bstr a1.Vrf).toList) && (((bstr ((rd t130 x135).Iface)).toList == (bstr a1.Iface).toList) && ((((((rd t130 x135).Source).Size) == a1.Source.Size) && ((eqA 16 (((rd t130 x135).Source).B) a1.Source.B) && true)) && ((((((rd t130 x135).Group).Size) == a1.Group.Size) && ((eqA 16 (((rd t130 x135).Group).B) a1.Group.B) && true)) && true)))) = true then vinerylaw20_JoinsKeeps.l4 a1 t127 t130 kk (IntKind.i64.wrap (x134 + (1 : Int))) (IntKind.i64.wrap (x135 + (1 : Int))) else vinerylaw20_JoinsKeeps.l4 a1 t127 t130 kk x134 (IntKind.i64.wrap (x135 + (1 : Int)))) else none) else some ((t127.2 : S_joins_Joins), (x134 : Int)))
def vinerylaw20_JoinsKeeps.l5 (a1 : S_api_Join) (x33 : S_joins_Joins) (t157 : List S_api_Join) : Nat → Int → Int → Option (S_joins_Joins × Int)
  | 0, _, _ => none
  | kk + 1, x161, x162 => (if (decide (x162 < (t157.length : Int))) = true then (if 0 ≤ x162 ∧ x162 < (t157.length : Int) then (if (((bstr ((rd t157 x162).Vrf)).toList == (bstr a1.Vrf).toList) && (((bstr ((rd t157 x162).Iface)).toList == (bstr a1.Iface).toList) && ((((((rd t157 x162).Source).Size) == a1.Source.Size) && ((eqA 16 (((rd t157 x162).Source).B) a1.Source.B) && true)) && ((((((rd t157 x162).Group).Size) == a1.Group.Size) && ((eqA 16 (((rd t157 x162).Group).B) a1.Group.B) && true)) && true)))) = true then vinerylaw20_JoinsKeeps.l5 a1 x33 t157 kk (IntKind.i64.wrap (x161 + (1 : Int))) (IntKind.i64.wrap (x162 + (1 : Int))) else vinerylaw20_JoinsKeeps.l5 a1 x33 t157 kk x161 (IntKind.i64.wrap (x162 + (1 : Int)))) else none) else some ((x33 : S_joins_Joins), (x161 : Int)))
def vinerylaw20_JoinsKeeps.l1 (k : Nat) (a1 : S_api_Join) (a2 : List S_vinerylaw20_Act) : Nat → S_joins_Joins → Int → Option ((Bool) ⊕ (S_joins_Joins))
  | 0, _, _ => none
  | kk + 1, x33, x34 => (if (if (decide (x34 < (a2.length : Int))) = true then (decide (x34 < (60 : Int))) else false) = true then (if 0 ≤ x34 ∧ x34 < (a2.length : Int) then ((if (((rd a2 x34).Do) == (1 : Int)) = true then (if (((bstr (((rd a2 x34).J).Vrf)).toList == (bstr a1.Vrf).toList) && (((bstr (((rd a2 x34).J).Iface)).toList == (bstr a1.Iface).toList) && (((((((rd a2 x34).J).Source).Size) == a1.Source.Size) && ((eqA 16 ((((rd a2 x34).J).Source).B) a1.Source.B) && true)) && (((((((rd a2 x34).J).Group).Size) == a1.Group.Size) && ((eqA 16 ((((rd a2 x34).J).Group).B) a1.Group.B) && true)) && true)))) = true then some (true : Bool) else (if (((rd a2 x34).Do) == (2 : Int)) = true then some ((bstr (((rd a2 x34).J).Vrf)).toList == (bstr a1.Vrf).toList : Bool) else some (false : Bool))) else (if (((rd a2 x34).Do) == (2 : Int)) = true then some ((bstr (((rd a2 x34).J).Vrf)).toList == (bstr a1.Vrf).toList : Bool) else some (false : Bool)))).bind fun s61 => (if s61 = true then vinerylaw20_JoinsKeeps.l1 k a1 a2 kk x33 (IntKind.i64.wrap (x34 + (1 : Int))) else (if (((rd a2 x34).Do) == (0 : Int)) = true then (Jn_Add.f k x33 ((rd a2 x34).J)).bind fun t67 => (Jn_All.f t67.2).bind fun t70 => (vinerylaw20_JoinsKeeps.l2 a1 t67 t70 k (0 : Int) (0 : Int)).bind fun s73 => (if (s73.2 != (1 : Int)) = true then some (.inl ((false : Bool))) else vinerylaw20_JoinsKeeps.l1 k a1 a2 kk s73.1 (IntKind.i64.wrap (x34 + (1 : Int)))) else (if (((rd a2 x34).Do) == (1 : Int)) = true then (Jn_Drop.f k x33 ((rd a2 x34).J)).bind fun t97 => (Jn_All.f t97.2).bind fun t100 => (vinerylaw20_JoinsKeeps.l3 a1 t97 t100 k (0 : Int) (0 : Int)).bind fun s103 => (if (s103.2 != (1 : Int)) = true then some (.inl ((false : Bool))) else vinerylaw20_JoinsKeeps.l1 k a1 a2 kk s103.1 (IntKind.i64.wrap (x34 + (1 : Int)))) else (if (((rd a2 x34).Do) == (2 : Int)) = true then (Jn_Clear.f k x33 (((rd a2 x34).J).Vrf)).bind fun t127 => (Jn_All.f t127.2).bind fun t130 => (vinerylaw20_JoinsKeeps.l4 a1 t127 t130 k (0 : Int) (0 : Int)).bind fun s133 => (if (s133.2 != (1 : Int)) = true then some (.inl ((false : Bool))) else vinerylaw20_JoinsKeeps.l1 k a1 a2 kk s133.1 (IntKind.i64.wrap (x34 + (1 : Int)))) else (Jn_All.f x33).bind fun t157 => (vinerylaw20_JoinsKeeps.l5 a1 x33 t157 k (0 : Int) (0 : Int)).bind fun s160 => (if (s160.2 != (1 : Int)) = true then some (.inl ((false : Bool))) else vinerylaw20_JoinsKeeps.l1 k a1 a2 kk s160.1 (IntKind.i64.wrap (x34 + (1 : Int)))))))) else none) else some (.inr (x33 : S_joins_Joins)))
def vinerylaw20_JoinsKeeps.l0 (k : Nat) (a0 : List S_vinerylaw20_Act) : Nat → S_joins_Joins → Int → Option (S_joins_Joins)
  | 0, _, _ => none
  | kk + 1, x21, x22 => (if (if (decide (x22 < (a0.length : Int))) = true then (decide (x22 < (60 : Int))) else false) = true then (if 0 ≤ x22 ∧ x22 < (a0.length : Int) then (if (((rd a0 x22).Do) == (0 : Int)) = true then (if 0 ≤ x22 ∧ x22 < (a0.length : Int) then (Jn_Add.f k x21 ((rd a0 x22).J)).bind fun t206 => vinerylaw20_JoinsKeeps.l0 k a0 kk t206.2 (IntKind.i64.wrap (x22 + (1 : Int))) else none) else vinerylaw20_JoinsKeeps.l0 k a0 kk x21 (IntKind.i64.wrap (x22 + (1 : Int)))) else none) else some (x21 : S_joins_Joins))
def vinerylaw20_JoinsKeeps.f (k : Nat) (a0 : List S_vinerylaw20_Act) (a1 : S_api_Join) (a2 : List S_vinerylaw20_Act) : Option (Bool) := (vinerylaw20_small.f k ).bind fun t10 => (Jn_New.f ).bind fun t12 => (if (if (!t10) = true then true else false) = true then some ((false : Bool)) else (vinerylaw20_JoinsKeeps.l0 k a0 k t12 (0 : Int)).bind fun s19 => (Jn_Add.f k s19 a1).bind fun t26 => (if (t26.1 != (0 : Int)) = true then some ((true : Bool)) else (vinerylaw20_JoinsKeeps.l1 k a1 a2 k t26.2 (0 : Int)).bind fun s31 => match s31 with | .inl r => some r | .inr s31' => ((Jn_Drop.f k s31' a1).bind fun t38 => (if t38.1 = true then (Jn_Drop.f k t38.2 a1).bind fun t40 => some (!t40.1 : Bool) else some (false : Bool))).bind fun s37 => some ((s37 : Bool))))
set_option maxRecDepth 100000 in
theorem vinerylaw20_JoinsKeeps.walk (w : World) (M : List Nat) (hM : MS M w) (a0 : List S_vinerylaw20_Act) (ao1 : Option Addr) (cap1 : Nat) (f1 : RSl rS_vinerylaw20_Act 46 w M ao1 cap1 a0) (a1 : S_api_Join) (a2 : List S_vinerylaw20_Act) (ao2 : Option Addr) (cap2 : Nat) (f2 : RSl rS_vinerylaw20_Act 46 w M ao2 cap2 a2) (k : Nat) (r : Bool) (H : vinerylaw20_JoinsKeeps.f k a0 a1 a2 = some r) :
    To Tryz.prog 6 [.slice ao1 a0.length cap1, .agg (cS_api_Join a1).toArray, .slice ao2 a2.length cap2] w fun v w' => v = .bool r ∧ Chg [] w w' ∧ MS (M) w' := by
 unfold vinerylaw20_JoinsKeeps.f at H
 refine ent Tryz.func6 rfl [(0, .slice ao1 a0.length cap1), (1, .agg (cS_api_Join a1).toArray), (2, .slice ao2 a2.length cap2)] rfl (by rfl) fun a ha => ?_
 have hC : Chg [] w w := Chg.refl _ _
 refine wp_seq_k fun K3 hK3 => ?_
 refine wp_region_lit ?_
 refine bx (cs := (cS_api_Join a1)) ha rfl rfl rfl rfl rfl fun a w4 g5 hN6 ha => ?_
 have hn8 := hN6.notin hM
 have o1 : Ok [] (M) w.heap.size := Ok.nil _ _
 have o2 : Ok (M) (M) w.heap.size := (Ok.refl _ _)
 have f1 := f1.chg hN6.chg o1 o2
 have f2 := f2.chg hN6.chg o1 o2
 have hM : MS (M) w4 := (hM.chg hN6.chg)
 have hC := hC.trans hN6.chg (Ok.nil _ _)
 have hE7 : ∀ j v, (cS_api_Join a1)[j]? = some v → w4.cell? ⟨g5, 0 + j, none⟩ = some v := Box.cells (New.box hN6)
 refine seg ha 1 [(0, .slice ao1 a0.length cap1), (2, .slice ao2 a2.length cap2), (4, .pointer (some ⟨g5, 0, none⟩))] (by kernel_rfl) fun a ha => ?_
 refine hK3 _ _ ?_; try clear hK3 K3
 refine wp_seq_k fun K9 hK9 => ?_
 refine wp_region_lit ?_
 obtain ⟨t10, H10, H⟩ := bind_some H
 refine cl ha (by rfl) (by kernel_rfl) (by rfl) (by rfl) (by rfl) (vinerylaw20_small.walk w4 _ hM  k _ H10) ?_
 rintro _ w10 ⟨rfl, hc10, hMn⟩ a ha
 have o1 : Ok [] (M) w4.heap.size := Ok.nil _ _
 have o2 : Ok (M) (M) w4.heap.size := (Ok.refl _ _)
 have f1 := f1.chg hc10 o1 o2
 have f2 := f2.chg hc10 o1 o2
 have q_hn8 : g5 ∉ M := fun h => (o2 g5 h).elim hn8 (fun h => absurd (lt_cell (hE7 0 _ rfl)) (Nat.not_lt.2 h))
 have hE7 : ∀ j v, (cS_api_Join a1)[j]? = some v → w10.cell? ⟨g5, 0 + j, none⟩ = some v := fun j v hv => (cell_keep hc10 o1 hn8 (hE7 j v hv))
 have hn8 := q_hn8
 have hM : MS (M) w10 := (hM.chg hc10)
 have hC := hC.trans hc10 (Ok.nil _ _)
 refine seg ha 1 [(0, .slice ao1 a0.length cap1), (2, .slice ao2 a2.length cap2), (4, .pointer (some ⟨g5, 0, none⟩)), (7, .bool t10)] (by kernel_rfl) fun a ha => ?_
 refine hK9 _ _ ?_; try clear hK9 K9
 refine wp_seq_k fun K11 hK11 => ?_
 refine wp_region_lit ?_
 obtain ⟨t12, H12, H⟩ := bind_some H
 refine cl ha (by rfl) (by kernel_rfl) (by rfl) (by rfl) (by rfl) (Jn_New.walk w10 _ hM  _ H12) ?_
 rintro _ w12 ⟨gO12, rfl, fO12, ne_i12, hc12, hMn⟩ a ha
 have o1 : Ok [] (M) w10.heap.size := Ok.nil _ _
 have o2 : Ok (([gO12] ++ blkL none) ++ (M)) (M) w10.heap.size := (Ok.app (fun x h => .inr (ne_i12 x h)) (Ok.refl _ _))
 have f1 := f1.chg hc12 o1 o2
 have f2 := f2.chg hc12 o1 o2
 have q_hn8 : g5 ∉ ([gO12] ++ blkL none) ++ (M) := fun h => (o2 g5 h).elim hn8 (fun h => absurd (lt_cell (hE7 0 _ rfl)) (Nat.not_lt.2 h))
 have hE7 : ∀ j v, (cS_api_Join a1)[j]? = some v → w12.cell? ⟨g5, 0 + j, none⟩ = some v := fun j v hv => (cell_keep hc12 o1 hn8 (hE7 j v hv))
 have hn8 := q_hn8
 have p_i12_M : ∀ x ∈ ([gO12] ++ blkL none), x ∉ M := fun x hx hy => absurd (hM x (hy)) (Nat.not_lt.2 (ne_i12 x hx))
 have e_i12 : ∀ x ∈ ([gO12] ++ blkL none), w.heap.size ≤ x := fun x hx => Nat.le_trans hC.size (ne_i12 x hx)
 have hM : MS (([gO12] ++ blkL none) ++ (M)) w12 := (MS.app (fun x h => hMn x (ml h)) (hM.chg hc12))
 have hC := hC.trans hc12 (Ok.nil _ _)
 refine seg ha 1 [(0, .slice ao1 a0.length cap1), (2, .slice ao2 a2.length cap2), (4, .pointer (some ⟨g5, 0, none⟩)), (7, .bool t10), (8, .pointer (some ⟨gO12, 0, none⟩))] (by kernel_rfl) fun a ha => ?_
 refine hK11 _ _ ?_; try clear hK11 K11
 refine wp_seq_k fun K13 hK13 => ?_
 refine wp_seq_k fun K14 hK14 => ?_
 refine wp_region_lit ?_
 refine seg ha 6 [(0, .slice ao1 a0.length cap1), (2, .slice ao2 a2.length cap2), (4, .pointer (some ⟨g5, 0, none⟩)), (8, .pointer (some ⟨gO12, 0, none⟩)), (22, .bool (if (!t10) = true then true else false))] (by kernel_rfl) fun a ha => ?_
 refine hK14 _ _ ?_; try clear hK14 K14
 refine cnd ha rfl (fun hc15 => ?_) (fun hc15 => ?_)
 ·have H := ite_t hc15 H
  refine wp_seq_k fun K16 hK16 => ?_
  refine wp_region_lit ?_
  refine seg ha 1 [(6, .bool false)] (by kernel_rfl) fun a ha => ?_
  refine hK16 _ _ ?_; try clear hK16 K16
  refine wp_ret ?_
  try simp only [Exit.then, Exit.inBlock]
  have hM : MS (M) w12 := (fun x h => hM.chg (Chg.refl [] _) x (mr (h)))
  obtain rfl := Option.some.inj H
  refine rt1 ha rfl rfl ?_
  exact ⟨rfl, hC, hM⟩
 ·have H := ite_f hc15 H
  refine wp_skip ?_
  refine hK13 _ _ ?_; try clear hK13 K13
  refine wp_seq_k fun K17 hK17 => ?_
  refine wp_seq_k fun K18 hK18 => ?_
  refine wp_region_lit ?_
  refine seg ha 1 [(0, .slice ao1 a0.length cap1), (2, .slice ao2 a2.length cap2), (4, .pointer (some ⟨g5, 0, none⟩)), (8, .pointer (some ⟨gO12, 0, none⟩)), (9, .int .i64 (0 : Int))] (by kernel_rfl) fun a ha => ?_
  refine hK18 _ _ ?_; try clear hK18 K18
  refine wp_block ?_
  obtain ⟨s19, H19, H⟩ := bind_some H
  have J19 : ∀ (a : Act) (wx19 : World) (ao23 : Option Addr) (cap23 : Nat), Has a Tryz.f6.ntmps [(2, .slice ao2 a2.length cap2), (4, .pointer (some ⟨g5, 0, none⟩)), (8, .pointer (some ⟨gO12, 0, none⟩))] → (RSl rS_vinerylaw20_Act 46 wx19 (([gO12] ++ blkL ao23) ++ (M)) ao2 cap2 a2) → (JAt wx19 gO12 ao23 s19) → (∀ j v, (cS_api_Join a1)[j]? = some v → wx19.cell? ⟨g5, 0 + j, none⟩ = some v) → (g5 ∉ (([gO12] ++ blkL ao23) ++ (M))) → (∀ x ∈ ([gO12] ++ blkL ao23), w.heap.size ≤ x) → (∀ x ∈ ([gO12] ++ blkL ao23), x ∉ M) → (Chg [] w wx19) → (MS (([gO12] ++ blkL ao23) ++ (M)) wx19) → K17 a wx19 := by
   intro a wx19 ao23 cap23 ha f2 f23 hE7 hn8 e_i23 p_i23_M hC hM
   refine hK17 _ _ ?_; try clear hK17 K17
   refine wp_seq_k fun K24 hK24 => ?_
   refine wp_seq_k fun K25 hK25 => ?_
   refine wp_region_lit ?_
   refine seg ha 1 [(2, .slice ao2 a2.length cap2), (4, .pointer (some ⟨g5, 0, none⟩)), (8, .pointer (some ⟨gO12, 0, none⟩)), (46, .pointer (some ⟨gO12, 0, none⟩))] (by kernel_rfl) fun a ha => ?_
   refine ldA (cs := (cS_api_Join a1)) ha rfl (by kernel_rfl) rfl rfl rfl (cells_sub hE7 (all := (cS_api_Join a1)) [] [] (by kernel_rfl)) fun a ha => ?_
   obtain ⟨t26, H26, H⟩ := bind_some H
   refine cl ha (by rfl) (by kernel_rfl) (by rfl) (by rfl) (by rfl) (Jn_Add.walk wx19 _ hM gO12 ao23 s19 f23 (fun _ h => ml h) a1 k _ H26) ?_
   rintro _ w26 ⟨ao26, rfl, nf26, hc26, hk26, hl26⟩ a ha
   have o1 : Ok ([gO12] ++ blkL ao23) (([gO12] ++ blkL ao23) ++ (M)) wx19.heap.size := (fun _ h => .inl (ml h))
   have o2 : Ok (([gO12] ++ blkL ao26) ++ (M)) (([gO12] ++ blkL ao23) ++ (M)) wx19.heap.size := (Ok.app (Ok.to hk26 (fun _ h => ml h)) (fun _ h => .inl (mr (h))))
   have f2 := f2.chg hc26 o1 o2
   have q_hn8 : g5 ∉ ([gO12] ++ blkL ao26) ++ (M) := fun h => (o2 g5 h).elim hn8 (fun h => absurd (lt_cell (hE7 0 _ rfl)) (Nat.not_lt.2 h))
   have hE7 : ∀ j v, (cS_api_Join a1)[j]? = some v → w26.cell? ⟨g5, 0 + j, none⟩ = some v := fun j v hv => (cell_keep hc26 o1 hn8 (hE7 j v hv))
   have hn8 := q_hn8
   have p_i26_M : ∀ x ∈ ([gO12] ++ blkL ao26), x ∉ M := fun x hx hy => (hk26 x hx).elim (fun h => p_i23_M x h hy) (fun h => absurd (hM x (mr (hy))) (Nat.not_lt.2 h))
   have e_i26 : ∀ x ∈ ([gO12] ++ blkL ao26), w.heap.size ≤ x := fun x hx => (hk26 x hx).elim (e_i23 x) (Nat.le_trans hC.size)
   have hM : MS (([gO12] ++ blkL ao26) ++ (M)) w26 := (MS.app (fun x h => hl26 x (ml h)) (fun x h => hM.chg hc26 x (mr (h))))
   have hC := hC.trans hc26 (fun x h => .inr (e_i23 x h))
   have fO26 := nf26
   refine seg ha 1 [(2, .slice ao2 a2.length cap2), (4, .pointer (some ⟨g5, 0, none⟩)), (8, .pointer (some ⟨gO12, 0, none⟩)), (49, .bool (t26.1 != (0 : Int)))] (by kernel_rfl) fun a ha => ?_
   refine hK25 _ _ ?_; try clear hK25 K25
   refine cnd ha rfl (fun hc27 => ?_) (fun hc27 => ?_)
   ·have H := ite_t hc27 H
    refine wp_seq_k fun K28 hK28 => ?_
    refine wp_region_lit ?_
    refine seg ha 1 [(6, .bool true)] (by kernel_rfl) fun a ha => ?_
    refine hK28 _ _ ?_; try clear hK28 K28
    refine wp_ret ?_
    try simp only [Exit.then, Exit.inBlock]
    have hM : MS (M) w26 := (fun x h => hM.chg (Chg.refl [] _) x (mr (h)))
    obtain rfl := Option.some.inj H
    refine rt1 ha rfl rfl ?_
    exact ⟨rfl, hC, hM⟩
   ·have H := ite_f hc27 H
    refine wp_skip ?_
    refine hK24 _ _ ?_; try clear hK24 K24
    refine wp_seq_k fun K29 hK29 => ?_
    refine wp_seq_k fun K30 hK30 => ?_
    refine wp_region_lit ?_
    refine seg ha 1 [(2, .slice ao2 a2.length cap2), (4, .pointer (some ⟨g5, 0, none⟩)), (8, .pointer (some ⟨gO12, 0, none⟩)), (10, .int .i64 (0 : Int))] (by kernel_rfl) fun a ha => ?_
    refine hK30 _ _ ?_; try clear hK30 K30
    refine wp_block ?_
    obtain ⟨s31, H31, H⟩ := bind_some H
    have J31 : ∀ s31' (a : Act) (wx31 : World) (ao35 : Option Addr) (cap35 : Nat), s31 = .inr s31' → Has a Tryz.f6.ntmps [(4, .pointer (some ⟨g5, 0, none⟩)), (8, .pointer (some ⟨gO12, 0, none⟩))] → (JAt wx31 gO12 ao35 s31') → (∀ j v, (cS_api_Join a1)[j]? = some v → wx31.cell? ⟨g5, 0 + j, none⟩ = some v) → (g5 ∉ (([gO12] ++ blkL ao35) ++ (M))) → (∀ x ∈ ([gO12] ++ blkL ao35), w.heap.size ≤ x) → (∀ x ∈ ([gO12] ++ blkL ao35), x ∉ M) → (Chg [] w wx31) → (MS (([gO12] ++ blkL ao35) ++ (M)) wx31) → K29 a wx31 := by
     intro s31' a wx31 ao35 cap35 hs ha f35 hE7 hn8 e_i35 p_i35_M hC hM
     subst hs
     refine hK29 _ _ ?_; try clear hK29 K29
     refine wp_seq_k fun K36 hK36 => ?_
     refine wp_region_lit ?_
     obtain ⟨s37, H37, H⟩ := bind_some H
     have J37 : ∀ (a : Act) (w37 : World), Has a Tryz.f6.ntmps [(6, .bool s37)] → (Chg [] w w37) → (MS (M) w37) → K36 a w37 := by
      intro a w37 ha hC hM
      refine hK36 _ _ ?_; try clear hK36 K36
      refine wp_ret ?_
      try simp only [Exit.then, Exit.inBlock]
      obtain rfl := Option.some.inj H
      refine rt1 ha rfl rfl ?_
      exact ⟨rfl, hC, hM⟩
     have H := H37
     refine seg ha 1 [(4, .pointer (some ⟨g5, 0, none⟩)), (8, .pointer (some ⟨gO12, 0, none⟩)), (125, .pointer (some ⟨gO12, 0, none⟩))] (by kernel_rfl) fun a ha => ?_
     refine ldA (cs := (cS_api_Join a1)) ha rfl (by kernel_rfl) rfl rfl rfl (cells_sub hE7 (all := (cS_api_Join a1)) [] [] (by kernel_rfl)) fun a ha => ?_
     obtain ⟨t38, H38, H⟩ := bind_some H
     refine cl ha (by rfl) (by kernel_rfl) (by rfl) (by rfl) (by rfl) (Jn_Drop.walk wx31 _ hM gO12 ao35 s31' f35 (fun _ h => ml h) a1 k _ H38) ?_
     rintro _ w38 ⟨ao38, rfl, nf38, hc38, hk38, hl38⟩ a ha
     have o1 : Ok ([gO12] ++ blkL ao35) (([gO12] ++ blkL ao35) ++ (M)) wx31.heap.size := (fun _ h => .inl (ml h))
     have o2 : Ok (([gO12] ++ blkL ao38) ++ (M)) (([gO12] ++ blkL ao35) ++ (M)) wx31.heap.size := (Ok.app (Ok.to hk38 (fun _ h => ml h)) (fun _ h => .inl (mr (h))))
     have q_hn8 : g5 ∉ ([gO12] ++ blkL ao38) ++ (M) := fun h => (o2 g5 h).elim hn8 (fun h => absurd (lt_cell (hE7 0 _ rfl)) (Nat.not_lt.2 h))
     have hE7 : ∀ j v, (cS_api_Join a1)[j]? = some v → w38.cell? ⟨g5, 0 + j, none⟩ = some v := fun j v hv => (cell_keep hc38 o1 hn8 (hE7 j v hv))
     have hn8 := q_hn8
     have p_i38_M : ∀ x ∈ ([gO12] ++ blkL ao38), x ∉ M := fun x hx hy => (hk38 x hx).elim (fun h => p_i35_M x h hy) (fun h => absurd (hM x (mr (hy))) (Nat.not_lt.2 h))
     have e_i38 : ∀ x ∈ ([gO12] ++ blkL ao38), w.heap.size ≤ x := fun x hx => (hk38 x hx).elim (e_i35 x) (Nat.le_trans hC.size)
     have hM : MS (([gO12] ++ blkL ao38) ++ (M)) w38 := (MS.app (fun x h => hl38 x (ml h)) (fun x h => hM.chg hc38 x (mr (h))))
     have hC := hC.trans hc38 (fun x h => .inr (e_i35 x h))
     have fO38 := nf38
     refine seg ha 1 [(128, .bool t38.1), (4, .pointer (some ⟨g5, 0, none⟩)), (8, .pointer (some ⟨gO12, 0, none⟩))] (by kernel_rfl) fun a ha => ?_
     rcases Bool.eq_false_or_eq_true (t38.1) with hb39 | hb39
     ·have ha := ha.lit hb39
      have H := ite_t hb39 H
      refine sgh ha 1 [2] [(4, .pointer (some ⟨g5, 0, none⟩)), (128, .bool true), (129, .pointer (some ⟨gO12, 0, none⟩))] (by kernel_rfl) fun a ha => ?_
      refine ldA (cs := (cS_api_Join a1)) ha rfl (by kernel_rfl) rfl rfl rfl (cells_sub hE7 (all := (cS_api_Join a1)) [] [] (by kernel_rfl)) fun a ha => ?_
      obtain ⟨t40, H40, H⟩ := bind_some H
      refine cl ha (by rfl) (by kernel_rfl) (by rfl) (by rfl) (by rfl) (Jn_Drop.walk w38 _ hM gO12 ao38 t38.2 fO38 (fun _ h => ml h) a1 k _ H40) ?_
      rintro _ w40 ⟨ao40, rfl, nf40, hc40, hk40, hl40⟩ a ha
      have p_i40_M : ∀ x ∈ ([gO12] ++ blkL ao40), x ∉ M := fun x hx hy => (hk40 x hx).elim (fun h => p_i38_M x h hy) (fun h => absurd (hM x (mr (hy))) (Nat.not_lt.2 h))
      have e_i40 : ∀ x ∈ ([gO12] ++ blkL ao40), w.heap.size ≤ x := fun x hx => (hk40 x hx).elim (e_i38 x) (Nat.le_trans hC.size)
      have hM : MS (([gO12] ++ blkL ao40) ++ (M)) w40 := (MS.app (fun x h => hl40 x (ml h)) (fun x h => hM.chg hc40 x (mr (h))))
      have hC := hC.trans hc40 (fun x h => .inr (e_i38 x h))
      have fO40 := nf40
      refine sgh ha 3 [2, 3, 0] [(6, .bool (!t40.1))] (by kernel_rfl) fun a ha => ?_
      obtain rfl := Option.some.inj H
      have hM : MS (M) w40 := (fun x h => hM.chg (Chg.refl [] _) x (mr (h)))
      exact J37 _ _ (ha.sel (by kernel_rfl)) hC hM
     ·have ha := ha.lit hb39
      have H := ite_f hb39 H
      refine sgh ha 6 [1, 1, 1, 1, 4, 0] [(6, .bool false)] (by kernel_rfl) fun a ha => ?_
      obtain rfl := Option.some.inj H
      have hM : MS (M) w38 := (fun x h => hM.chg (Chg.refl [] _) x (mr (h)))
      exact J37 _ _ (ha.sel (by kernel_rfl)) hC hM
    have Hc31 := H
    have H := H31
    refine wp_loop_ghost (fun kk a w31 => ∃ (x33 : S_joins_Joins) (x34 : Int) (ao32 : Option Addr) (cap32 : Nat), vinerylaw20_JoinsKeeps.l1 k a1 a2 kk x33 x34 = some s31 ∧ Has a Tryz.f6.ntmps [(2, .slice ao2 a2.length cap2), (4, .pointer (some ⟨g5, 0, none⟩)), (8, .pointer (some ⟨gO12, 0, none⟩)), (10, .int .i64 x34)] ∧ (RSl rS_vinerylaw20_Act 46 w31 (([gO12] ++ blkL ao32) ++ (M)) ao2 cap2 a2) ∧ (JAt w31 gO12 ao32 x33) ∧ (∀ j v, (cS_api_Join a1)[j]? = some v → w31.cell? ⟨g5, 0 + j, none⟩ = some v) ∧ (g5 ∉ (([gO12] ++ blkL ao32) ++ (M))) ∧ (∀ x ∈ ([gO12] ++ blkL ao32), w.heap.size ≤ x) ∧ (∀ x ∈ ([gO12] ++ blkL ao32), x ∉ M) ∧ (Chg [] w w31) ∧ (MS (([gO12] ++ blkL ao32) ++ (M)) w31)) k ?_ ?_
    ·skip
     exact ⟨t26.2, (0 : Int), ao26, cap23, H, (ha.sel (by kernel_rfl)), f2, fO26, hE7, hn8, e_i26, p_i26_M, hC, hM⟩
    ·rintro kk a w31 ⟨x33, x34, ao32, cap32, H, ha, f2, f32, hE7, hn8, e_i32, p_i32_M, hC, hM⟩
     obtain _ | kk := kk
     ·exact nomatch (show none = some _ from H)
     rw [vinerylaw20_JoinsKeeps.l1] at H
     refine wp_seq_k fun K41 hK41 => ?_
     refine wp_seq_k fun K42 hK42 => ?_
     refine wp_region_lit ?_
     refine seg ha 8 [(2, .slice ao2 a2.length cap2), (4, .pointer (some ⟨g5, 0, none⟩)), (8, .pointer (some ⟨gO12, 0, none⟩)), (10, .int .i64 x34), (57, .bool (if (decide (x34 < (a2.length : Int))) = true then (decide (x34 < (60 : Int))) else false))] (by kernel_rfl) fun a ha => ?_
     refine hK42 _ _ ?_; try clear hK42 K42
     refine cnd ha rfl (fun hc43 => ?_) (fun hc43 => ?_)
     ·have H := ite_t hc43 H
      refine wp_skip ?_
      refine hK41 _ _ ?_; try clear hK41 K41
      refine wp_seq_k fun K44 hK44 => ?_
      refine wp_block ?_
      refine wp_seq_k fun K45 hK45 => ?_
      refine wp_region_lit ?_
      refine seg ha 2 [(2, .slice ao2 a2.length cap2), (4, .pointer (some ⟨g5, 0, none⟩)), (8, .pointer (some ⟨gO12, 0, none⟩)), (10, .int .i64 x34), (60, .slice ao2 a2.length cap2), (61, .int .i64 x34)] (by kernel_rfl) fun a ha => ?_
      obtain ⟨⟨hx46, hx46'⟩, H⟩ := ite_some H
      refine ix (r := rS_vinerylaw20_Act) ha (by kernel_rfl) (by kernel_rfl) rfl rfl rfl rfl rfl f2 hx46 hx46' fun a ge47 oe48 cs49 hn52 hR50 hE51 ha => ?_
      rw [rd_get] at hR50
      obtain rfl := rS_vinerylaw20_Act.open hR50
      refine ldA (cs := (cS_vinerylaw20_Act (rd a2 x34))) ha rfl (by kernel_rfl) rfl rfl rfl (cells_sub hE51 (all := (cS_vinerylaw20_Act (rd a2 x34))) [] [] (by kernel_rfl)) fun a ha => ?_
      refine al (cs := (cS_vinerylaw20_Act (⟨(0 : Int), (⟨([] : List UInt8), ([] : List UInt8), (⟨(0 : Int), (List.replicate 16 (0 : Int))⟩ : S_api_Addr), (⟨(0 : Int), (List.replicate 16 (0 : Int))⟩ : S_api_Addr)⟩ : S_api_Join)⟩ : S_vinerylaw20_Act))) (z := .agg (cS_vinerylaw20_Act (⟨(0 : Int), (⟨([] : List UInt8), ([] : List UInt8), (⟨(0 : Int), (List.replicate 16 (0 : Int))⟩ : S_api_Addr), (⟨(0 : Int), (List.replicate 16 (0 : Int))⟩ : S_api_Addr)⟩ : S_api_Join)⟩ : S_vinerylaw20_Act)).toArray) ha (fun w => by kernel_rfl) rfl rfl rfl rfl fun a w53 g54 hN55 ha => ?_
      have o1 : Ok [] (([gO12] ++ blkL ao32) ++ (M)) w31.heap.size := Ok.nil _ _
      have o2 : Ok ([g54] ++ (([gO12] ++ blkL ao32) ++ (M))) (([gO12] ++ blkL ao32) ++ (M)) w31.heap.size := (Ok.app (hN55.ok _) (Ok.refl _ _))
      have f2 := f2.chg hN55.chg o1 o2
      have f32 := f32.chg hN55.chg (fun _ _ h => nomatch h)
      have q_hn8 : g5 ∉ [g54] ++ (([gO12] ++ blkL ao32) ++ (M)) := fun h => (o2 g5 h).elim hn8 (fun h => absurd (lt_cell (hE7 0 _ rfl)) (Nat.not_lt.2 h))
      have hE7 : ∀ j v, (cS_api_Join a1)[j]? = some v → w53.cell? ⟨g5, 0 + j, none⟩ = some v := fun j v hv => (cell_keep hN55.chg o1 hn8 (hE7 j v hv))
      have hn8 := q_hn8
      have p_i56_i32 : ∀ x ∈ [g54], x ∉ ([gO12] ++ blkL ao32) := fun x hx hy => absurd (hM x (ml hy)) (Nat.not_lt.2 ((hN55.ge1) x hx))
      have p_i56_M : ∀ x ∈ [g54], x ∉ M := fun x hx hy => absurd (hM x (mr (hy))) (Nat.not_lt.2 ((hN55.ge1) x hx))
      have e_i56 : ∀ x ∈ [g54], w.heap.size ≤ x := fun x hx => Nat.le_trans hC.size ((hN55.ge1) x hx)
      have hM : MS ([g54] ++ (([gO12] ++ blkL ao32) ++ (M))) w53 := (MS.app hN55.ms (hM.chg hN55.chg))
      have hC := hC.trans hN55.chg (Ok.nil _ _)
      have hBg54 : Box w53 g54 (cS_vinerylaw20_Act (⟨(0 : Int), (⟨([] : List UInt8), ([] : List UInt8), (⟨(0 : Int), (List.replicate 16 (0 : Int))⟩ : S_api_Addr), (⟨(0 : Int), (List.replicate 16 (0 : Int))⟩ : S_api_Addr)⟩ : S_api_Join)⟩ : S_vinerylaw20_Act)) := hN55.box
      refine stA (l := (cS_vinerylaw20_Act (rd a2 x34))) ha rfl rfl rfl (by kernel_rfl) rfl rfl hBg54 rfl fun a w57 ha hb2 hc58 _ => ?_
      have o1 : Ok [g54] ([g54] ++ (([gO12] ++ blkL ao32) ++ (M))) w53.heap.size := (fun _ h => .inl (ml h))
      have o2 : Ok ([g54] ++ (([gO12] ++ blkL ao32) ++ (M))) ([g54] ++ (([gO12] ++ blkL ao32) ++ (M))) w53.heap.size := (Ok.refl _ _)
      have f2 := f2.chg hc58 o1 o2
      have f32 := f32.chg hc58 (fun x (hx : x ∈ ([gO12] ++ blkL ao32)) (hy : x ∈ [g54]) => p_i56_i32 x hy hx)
      have q_hn8 : g5 ∉ [g54] ++ (([gO12] ++ blkL ao32) ++ (M)) := fun h => (o2 g5 h).elim hn8 (fun h => absurd (lt_cell (hE7 0 _ rfl)) (Nat.not_lt.2 h))
      have hE7 : ∀ j v, (cS_api_Join a1)[j]? = some v → w57.cell? ⟨g5, 0 + j, none⟩ = some v := fun j v hv => (cell_keep hc58 o1 hn8 (hE7 j v hv))
      have hn8 := q_hn8
      have hM : MS ([g54] ++ (([gO12] ++ blkL ao32) ++ (M))) w57 := (hM.chg hc58)
      have hC := hC.trans hc58 (fun x h => .inr (e_i56 x h))
      have hBg54 : Box w57 g54 (cS_vinerylaw20_Act (rd a2 x34)) := hb2
      refine hK45 _ _ ?_; try clear hK45 K45
      refine wp_seq_k fun K59 hK59 => ?_
      refine wp_seq_k fun K60 hK60 => ?_
      refine wp_region_lit ?_
      obtain ⟨s61, H61, H⟩ := bind_some H
      have J61 : ∀ (a : Act) (w61 : World), Has a Tryz.f6.ntmps [(2, .slice ao2 a2.length cap2), (4, .pointer (some ⟨g5, 0, none⟩)), (8, .pointer (some ⟨gO12, 0, none⟩)), (10, .int .i64 x34), (11, .pointer (some ⟨g54, 0, none⟩)), (85, .bool s61)] → (RSl rS_vinerylaw20_Act 46 w61 ([g54] ++ (([gO12] ++ blkL ao32) ++ (M))) ao2 cap2 a2) → (Box w61 g54 (cS_vinerylaw20_Act (rd a2 x34))) → (JAt w61 gO12 ao32 x33) → (∀ j v, (cS_api_Join a1)[j]? = some v → w61.cell? ⟨g5, 0 + j, none⟩ = some v) → (g5 ∉ ([g54] ++ (([gO12] ++ blkL ao32) ++ (M)))) → (Chg [] w w61) → (MS ([g54] ++ (([gO12] ++ blkL ao32) ++ (M))) w61) → K60 a w61 := by
       intro a w61 ha f2 hBg54 f32 hE7 hn8 hC hM
       refine hK60 _ _ ?_; try clear hK60 K60
       refine cnd ha rfl (fun hc62 => ?_) (fun hc62 => ?_)
       ·have H := ite_t hc62 H
        refine wp_exit ?_
        simp only [Exit.then, Exit.inBlock, ↓reduceIte, Nat.reduceEqDiff]
        refine hK44 _ _ ?_; try clear hK44 K44
        refine wp_region_lit ?_
        refine seg ha 3 [(2, .slice ao2 a2.length cap2), (4, .pointer (some ⟨g5, 0, none⟩)), (8, .pointer (some ⟨gO12, 0, none⟩)), (10, .int .i64 (IntKind.i64.wrap (x34 + (1 : Int))))] (by kernel_rfl) fun a ha => ?_
        have o1 : Ok [] ([g54] ++ (([gO12] ++ blkL ao32) ++ (M))) w61.heap.size := Ok.nil _ _
        have o2 : Ok (([gO12] ++ blkL ao32) ++ (M)) ([g54] ++ (([gO12] ++ blkL ao32) ++ (M))) w61.heap.size := (fun _ h => .inl (mr (h)))
        have f2 := f2.chg (Chg.refl [] _) o1 o2
        have q_hn8 : g5 ∉ ([gO12] ++ blkL ao32) ++ (M) := fun h => (o2 g5 h).elim hn8 (fun h => absurd (lt_cell (hE7 0 _ rfl)) (Nat.not_lt.2 h))
        have hn8 := q_hn8
        have hM : MS (([gO12] ++ blkL ao32) ++ (M)) w61 := (fun x h => hM.chg (Chg.refl [] _) x (mr (h)))
        exact ⟨kk, Nat.lt_succ_self _, ⟨x33, IntKind.i64.wrap (x34 + (1 : Int)), ao32, cap32, H, (ha.sel (by kernel_rfl)), f2, f32, hE7, hn8, e_i32, p_i32_M, hC, hM⟩⟩
       ·have H := ite_f hc62 H
        refine wp_skip ?_
        refine hK59 _ _ ?_; try clear hK59 K59
        refine wp_seq_k fun K63 hK63 => ?_
        refine wp_seq_k fun K64 hK64 => ?_
        refine wp_region_lit ?_
        refine seg ha 1 [(2, .slice ao2 a2.length cap2), (4, .pointer (some ⟨g5, 0, none⟩)), (8, .pointer (some ⟨gO12, 0, none⟩)), (10, .int .i64 x34), (11, .pointer (some ⟨g54, 0, none⟩)), (86, .pointer (some ⟨g54, 0, none⟩))] (by kernel_rfl) fun a ha => ?_
        refine ld (v := .int .i64 ((rd a2 x34).Do)) ha rfl (by kernel_rfl) rfl rfl rfl (hBg54.cell' (o := 0) rfl (by kernel_rfl)) fun a ha => ?_
        refine hK64 _ _ ?_; try clear hK64 K64
        refine wp_block ?_
        refine wp_seq_k fun K65 hK65 => ?_
        refine wp_region_lit ?_
        refine seg ha 2 [(2, .slice ao2 a2.length cap2), (4, .pointer (some ⟨g5, 0, none⟩)), (8, .pointer (some ⟨gO12, 0, none⟩)), (10, .int .i64 x34), (11, .pointer (some ⟨g54, 0, none⟩)), (87, .int .i64 ((rd a2 x34).Do)), (88, .bool (((rd a2 x34).Do) == (0 : Int)))] (by kernel_rfl) fun a ha => ?_
        refine hK65 _ _ ?_; try clear hK65 K65
        refine cnd ha rfl (fun hc66 => ?_) (fun hc66 => ?_)
        ·have H := ite_t hc66 H
         refine wp_region_lit ?_
         refine seg ha 2 [(2, .slice ao2 a2.length cap2), (4, .pointer (some ⟨g5, 0, none⟩)), (8, .pointer (some ⟨gO12, 0, none⟩)), (10, .int .i64 x34), (90, .pointer (some ⟨gO12, 0, none⟩)), (91, .pointer (some ⟨g54, 1, none⟩))] (by kernel_rfl) fun a ha => ?_
         refine ldA (cs := (cS_api_Join ((rd a2 x34).J))) ha rfl (by kernel_rfl) rfl rfl rfl (cells_sub (Box.cells hBg54) (all := (cS_vinerylaw20_Act (rd a2 x34))) [.int .i64 ((rd a2 x34).Do)] [] (by kernel_rfl)) fun a ha => ?_
         obtain ⟨t67, H67, H⟩ := bind_some H
         refine cl ha (by rfl) (by kernel_rfl) (by rfl) (by rfl) (by rfl) (Jn_Add.walk w61 _ hM gO12 ao32 x33 f32 (fun _ h => mr (ml h)) ((rd a2 x34).J) k _ H67) ?_
         rintro _ w67 ⟨ao67, rfl, nf67, hc67, hk67, hl67⟩ a ha
         have o1 : Ok ([gO12] ++ blkL ao32) ([g54] ++ (([gO12] ++ blkL ao32) ++ (M))) w61.heap.size := (fun _ h => .inl (mr (ml h)))
         have o2 : Ok (([gO12] ++ blkL ao67) ++ ([g54] ++ (M))) ([g54] ++ (([gO12] ++ blkL ao32) ++ (M))) w61.heap.size := (Ok.app (Ok.to hk67 (fun _ h => mr (ml h))) (Ok.app (fun _ h => .inl (ml h)) (fun _ h => .inl (mr (mr (h))))))
         have f2 := f2.chg hc67 o1 o2
         have hBg54 := hBg54.chg hc67 (p_i56_i32 g54 (by simp))
         have q_hn8 : g5 ∉ ([gO12] ++ blkL ao67) ++ ([g54] ++ (M)) := fun h => (o2 g5 h).elim hn8 (fun h => absurd (lt_cell (hE7 0 _ rfl)) (Nat.not_lt.2 h))
         have hE7 : ∀ j v, (cS_api_Join a1)[j]? = some v → w67.cell? ⟨g5, 0 + j, none⟩ = some v := fun j v hv => (cell_keep hc67 o1 hn8 (hE7 j v hv))
         have hn8 := q_hn8
         have p_i67_i56 : ∀ x ∈ ([gO12] ++ blkL ao67), x ∉ ([g54]) := fun x hx hy => (hk67 x hx).elim (fun h => (fun x hx hy => p_i56_i32 x hy hx) x h hy) (fun h => absurd (hM x (ml hy)) (Nat.not_lt.2 h))
         have p_i67_M : ∀ x ∈ ([gO12] ++ blkL ao67), x ∉ M := fun x hx hy => (hk67 x hx).elim (fun h => p_i32_M x h hy) (fun h => absurd (hM x (mr (mr (hy)))) (Nat.not_lt.2 h))
         have e_i67 : ∀ x ∈ ([gO12] ++ blkL ao67), w.heap.size ≤ x := fun x hx => (hk67 x hx).elim (e_i32 x) (Nat.le_trans hC.size)
         have hM : MS (([gO12] ++ blkL ao67) ++ ([g54] ++ (M))) w67 := (MS.app (fun x h => hl67 x (ml h)) (MS.app (fun x h => hM.chg hc67 x (ml h)) (fun x h => hM.chg hc67 x (mr (mr (h))))))
         have hC := hC.trans hc67 (fun x h => .inr (e_i32 x h))
         have fO67 := nf67
         refine hK63 _ _ ?_; try clear hK63 K63
         refine wp_seq_k fun K68 hK68 => ?_
         refine wp_region_lit ?_
         refine seg ha 1 [(2, .slice ao2 a2.length cap2), (4, .pointer (some ⟨g5, 0, none⟩)), (8, .pointer (some ⟨gO12, 0, none⟩)), (10, .int .i64 x34), (12, .int .i64 (0 : Int))] (by kernel_rfl) fun a ha => ?_
         refine hK68 _ _ ?_; try clear hK68 K68
         refine wp_seq_k fun K69 hK69 => ?_
         refine wp_region_lit ?_
         refine seg ha 1 [(2, .slice ao2 a2.length cap2), (4, .pointer (some ⟨g5, 0, none⟩)), (8, .pointer (some ⟨gO12, 0, none⟩)), (10, .int .i64 x34), (12, .int .i64 (0 : Int)), (107, .pointer (some ⟨gO12, 0, none⟩))] (by kernel_rfl) fun a ha => ?_
         obtain ⟨t70, H70, H⟩ := bind_some H
         refine cl ha (by rfl) (by kernel_rfl) (by rfl) (by rfl) (by rfl) (Jn_All.walk w67 _ hM gO12 ao67 t67.2 fO67 (fun _ h => ml h) _ H70) ?_
         rintro _ w70 ⟨ao70, cap70, rfl, f70, ne_i70, hc70, hMn⟩ a ha
         have o1 : Ok [] (([gO12] ++ blkL ao67) ++ ([g54] ++ (M))) w67.heap.size := Ok.nil _ _
         have o2 : Ok (blkL ao70 ++ (([gO12] ++ blkL ao67) ++ ([g54] ++ (M)))) (([gO12] ++ blkL ao67) ++ ([g54] ++ (M))) w67.heap.size := (Ok.app (fun x h => .inr (ne_i70 x h)) (Ok.refl _ _))
         have f2 := f2.chg hc70 o1 o2
         have hBg54 := hBg54.chg hc70 (fun h => nomatch h)
         have fO67 := fO67.chg hc70 (fun _ _ h => nomatch h)
         have q_hn8 : g5 ∉ blkL ao70 ++ (([gO12] ++ blkL ao67) ++ ([g54] ++ (M))) := fun h => (o2 g5 h).elim hn8 (fun h => absurd (lt_cell (hE7 0 _ rfl)) (Nat.not_lt.2 h))
         have hE7 : ∀ j v, (cS_api_Join a1)[j]? = some v → w70.cell? ⟨g5, 0 + j, none⟩ = some v := fun j v hv => (cell_keep hc70 o1 hn8 (hE7 j v hv))
         have hn8 := q_hn8
         have p_i70_i67 : ∀ x ∈ blkL ao70, x ∉ ([gO12] ++ blkL ao67) := fun x hx hy => absurd (hM x (ml hy)) (Nat.not_lt.2 (ne_i70 x hx))
         have p_i70_i56 : ∀ x ∈ blkL ao70, x ∉ ([g54]) := fun x hx hy => absurd (hM x (mr (ml hy))) (Nat.not_lt.2 (ne_i70 x hx))
         have p_i70_M : ∀ x ∈ blkL ao70, x ∉ M := fun x hx hy => absurd (hM x (mr (mr (hy)))) (Nat.not_lt.2 (ne_i70 x hx))
         have e_i70 : ∀ x ∈ blkL ao70, w.heap.size ≤ x := fun x hx => Nat.le_trans hC.size (ne_i70 x hx)
         have hM : MS (blkL ao70 ++ (([gO12] ++ blkL ao67) ++ ([g54] ++ (M)))) w70 := (MS.app (fun x h => hMn x (ml h)) (hM.chg hc70))
         have hC := hC.trans hc70 (Ok.nil _ _)
         refine seg ha 1 [(2, .slice ao2 a2.length cap2), (4, .pointer (some ⟨g5, 0, none⟩)), (8, .pointer (some ⟨gO12, 0, none⟩)), (10, .int .i64 x34), (12, .int .i64 (0 : Int)), (13, .slice ao70 t70.length cap70)] (by kernel_rfl) fun a ha => ?_
         refine hK69 _ _ ?_; try clear hK69 K69
         refine wp_seq_k fun K71 hK71 => ?_
         refine wp_seq_k fun K72 hK72 => ?_
         refine wp_region_lit ?_
         refine seg ha 1 [(2, .slice ao2 a2.length cap2), (4, .pointer (some ⟨g5, 0, none⟩)), (8, .pointer (some ⟨gO12, 0, none⟩)), (10, .int .i64 x34), (12, .int .i64 (0 : Int)), (13, .slice ao70 t70.length cap70), (14, .int .i64 (0 : Int))] (by kernel_rfl) fun a ha => ?_
         refine hK72 _ _ ?_; try clear hK72 K72
         refine wp_block ?_
         obtain ⟨s73, H73, H⟩ := bind_some H
         have J73 : ∀ (a : Act) (wx73 : World) (ao76 : Option Addr) (cap76 : Nat), Has a Tryz.f6.ntmps [(2, .slice ao2 a2.length cap2), (4, .pointer (some ⟨g5, 0, none⟩)), (8, .pointer (some ⟨gO12, 0, none⟩)), (10, .int .i64 x34), (12, .int .i64 s73.2)] → (RSl rS_vinerylaw20_Act 46 wx73 (([gO12] ++ blkL ao76) ++ ([g54] ++ (M))) ao2 cap2 a2) → (Box wx73 g54 (cS_vinerylaw20_Act (rd a2 x34))) → (JAt wx73 gO12 ao76 s73.1) → (∀ j v, (cS_api_Join a1)[j]? = some v → wx73.cell? ⟨g5, 0 + j, none⟩ = some v) → (g5 ∉ (([gO12] ++ blkL ao76) ++ ([g54] ++ (M)))) → (∀ x ∈ ([gO12] ++ blkL ao76), w.heap.size ≤ x) → (∀ x ∈ ([gO12] ++ blkL ao76), x ∉ [g54]) → (∀ x ∈ ([gO12] ++ blkL ao76), x ∉ M) → (Chg [] w wx73) → (MS (([gO12] ++ blkL ao76) ++ ([g54] ++ (M))) wx73) → K71 a wx73 := by
          intro a wx73 ao76 cap76 ha f2 hBg54 f76 hE7 hn8 e_i76 p_i76_i56 p_i76_M hC hM
          refine hK71 _ _ ?_; try clear hK71 K71
          refine wp_seq_k fun K77 hK77 => ?_
          refine wp_region_lit ?_
          refine seg ha 2 [(2, .slice ao2 a2.length cap2), (4, .pointer (some ⟨g5, 0, none⟩)), (8, .pointer (some ⟨gO12, 0, none⟩)), (10, .int .i64 x34), (124, .bool (s73.2 != (1 : Int)))] (by kernel_rfl) fun a ha => ?_
          refine hK77 _ _ ?_; try clear hK77 K77
          refine cnd ha rfl (fun hc78 => ?_) (fun hc78 => ?_)
          ·have H := ite_t hc78 H
           refine wp_seq_k fun K79 hK79 => ?_
           refine wp_region_lit ?_
           refine seg ha 1 [(6, .bool false)] (by kernel_rfl) fun a ha => ?_
           refine hK79 _ _ ?_; try clear hK79 K79
           refine wp_ret ?_
           try simp only [Exit.then, Exit.inBlock]
           have hM : MS (M) wx73 := (fun x h => hM.chg (Chg.refl [] _) x (mr (mr (h))))
           obtain rfl := Option.some.inj H
           have H := (show some _ = some _ from Hc31)
           obtain rfl := Option.some.inj H
           refine rt1 ha rfl rfl ?_
           exact ⟨rfl, hC, hM⟩
          ·have H := ite_f hc78 H
           refine wp_skip ?_
           refine hK44 _ _ ?_; try clear hK44 K44
           refine wp_region_lit ?_
           refine seg ha 3 [(2, .slice ao2 a2.length cap2), (4, .pointer (some ⟨g5, 0, none⟩)), (8, .pointer (some ⟨gO12, 0, none⟩)), (10, .int .i64 (IntKind.i64.wrap (x34 + (1 : Int))))] (by kernel_rfl) fun a ha => ?_
           have o1 : Ok [] (([gO12] ++ blkL ao76) ++ ([g54] ++ (M))) wx73.heap.size := Ok.nil _ _
           have o2 : Ok (([gO12] ++ blkL ao76) ++ (M)) (([gO12] ++ blkL ao76) ++ ([g54] ++ (M))) wx73.heap.size := (Ok.app (fun _ h => .inl (ml h)) (fun _ h => .inl (mr (mr (h)))))
           have f2 := f2.chg (Chg.refl [] _) o1 o2
           have q_hn8 : g5 ∉ ([gO12] ++ blkL ao76) ++ (M) := fun h => (o2 g5 h).elim hn8 (fun h => absurd (lt_cell (hE7 0 _ rfl)) (Nat.not_lt.2 h))
           have hn8 := q_hn8
           have hM : MS (([gO12] ++ blkL ao76) ++ (M)) wx73 := (MS.app (fun x h => hM.chg (Chg.refl [] _) x (ml h)) (fun x h => hM.chg (Chg.refl [] _) x (mr (mr (h)))))
           exact ⟨kk, Nat.lt_succ_self _, ⟨s73.1, IntKind.i64.wrap (x34 + (1 : Int)), ao76, cap76, H, (ha.sel (by kernel_rfl)), f2, f76, hE7, hn8, e_i76, p_i76_M, hC, hM⟩⟩
         have Hc73 := H
         have H := H73
         refine wp_loop_ghost (fun kk a w73 => ∃ (x74 : Int) (x75 : Int), vinerylaw20_JoinsKeeps.l2 a1 t67 t70 kk x74 x75 = some s73 ∧ Has a Tryz.f6.ntmps [(2, .slice ao2 a2.length cap2), (4, .pointer (some ⟨g5, 0, none⟩)), (8, .pointer (some ⟨gO12, 0, none⟩)), (10, .int .i64 x34), (12, .int .i64 x74), (13, .slice ao70 t70.length cap70), (14, .int .i64 x75)] ∧ (RSl rS_vinerylaw20_Act 46 w73 (blkL ao70 ++ (([gO12] ++ blkL ao67) ++ ([g54] ++ (M)))) ao2 cap2 a2) ∧ (Own rS_api_Join 38 w73 (blkL ao70 ++ (([gO12] ++ blkL ao67) ++ ([g54] ++ (M)))) ao70 cap70 t70) ∧ (Box w73 g54 (cS_vinerylaw20_Act (rd a2 x34))) ∧ (JAt w73 gO12 ao67 t67.2) ∧ (∀ j v, (cS_api_Join a1)[j]? = some v → w73.cell? ⟨g5, 0 + j, none⟩ = some v) ∧ (g5 ∉ (blkL ao70 ++ (([gO12] ++ blkL ao67) ++ ([g54] ++ (M))))) ∧ (Chg [] w w73) ∧ (MS (blkL ao70 ++ (([gO12] ++ blkL ao67) ++ ([g54] ++ (M)))) w73)) k ?_ ?_
         ·skip
          exact ⟨(0 : Int), (0 : Int), H, (ha.sel (by kernel_rfl)), f2, f70, hBg54, fO67, hE7, hn8, hC, hM⟩
         ·rintro kk a w73 ⟨x74, x75, H, ha, f2, f70, hBg54, fO67, hE7, hn8, hC, hM⟩
          obtain _ | kk := kk
          ·exact nomatch (show none = some _ from H)
          rw [vinerylaw20_JoinsKeeps.l2] at H
          refine wp_seq_k fun K80 hK80 => ?_
          refine wp_seq_k fun K81 hK81 => ?_
          refine wp_region_lit ?_
          refine seg ha 4 [(2, .slice ao2 a2.length cap2), (4, .pointer (some ⟨g5, 0, none⟩)), (8, .pointer (some ⟨gO12, 0, none⟩)), (10, .int .i64 x34), (12, .int .i64 x74), (13, .slice ao70 t70.length cap70), (14, .int .i64 x75), (112, .bool (decide (x75 < (t70.length : Int))))] (by kernel_rfl) fun a ha => ?_
          refine hK81 _ _ ?_; try clear hK81 K81
          refine cnd ha rfl (fun hc82 => ?_) (fun hc82 => ?_)
          ·have H := ite_t hc82 H
           refine wp_skip ?_
           refine hK80 _ _ ?_; try clear hK80 K80
           refine wp_seq_k fun K83 hK83 => ?_
           refine wp_block ?_
           refine wp_seq_k fun K84 hK84 => ?_
           refine drq0 (fun w' => Chg [] w73 w') (by kernel_rfl) (by kernel_rfl) (fun _ h => h) ?_
           refine qp 0 (.slice ao70 t70.length cap70) ha rfl rfl rfl (by kernel_rfl) fun a ha => ?_
           refine qp 0 (.int .i64 x75) ha rfl rfl rfl (by kernel_rfl) fun a ha => ?_
           obtain ⟨⟨hx85, hx85'⟩, H⟩ := ite_some H
           obtain ⟨ge86, oe870, cs88, hx85eq, hn91, hR89, hE90⟩ := RSl.elem (Own.toRSl (M' := []) f70 (Ok.nil _ _) (fun _ _ h => nomatch h)) (Int.toNat x75) (by omega)
           rw [rd_get] at hR89
           obtain rfl := rS_api_Join.open hR89
           refine qv (v := .pointer (some ⟨ge86, (oe870 + (Int.toNat x75) * rS_api_Join.sz), none⟩)) ha rfl rfl rfl (fun w' hs => ix_run (r := rS_api_Join) (T := 38) ha (by kernel_rfl) (by kernel_rfl) (by rfl) (by rfl) hx85eq hx85 hx85') fun a ha => ?_
           refine qv (v := .agg (cS_api_Join (rd t70 x75)).toArray) ha rfl rfl rfl (fun w' hs => ldA_run (cs := (cS_api_Join (rd t70 x75))) ha rfl (by kernel_rfl) (cells_sub (fun j v hv => hs.keep (hE90 j v hv)) (all := (cS_api_Join (rd t70 x75))) [] [] (by kernel_rfl))) fun a ha => ?_
           refine qv (v := .agg (cS_api_Join a1).toArray) ha rfl rfl rfl (fun w' hs => ldA_run (cs := (cS_api_Join a1)) ha rfl (by kernel_rfl) (cells_sub (fun j v hv => hs.keep (hE7 j v hv)) (all := (cS_api_Join a1)) [] [] (by kernel_rfl))) fun a ha => ?_
           refine qv (v := .bool (((bstr ((rd t70 x75).Vrf)).toList == (bstr a1.Vrf).toList) && (((bstr ((rd t70 x75).Iface)).toList == (bstr a1.Iface).toList) && ((((((rd t70 x75).Source).Size) == a1.Source.Size) && ((eqA 16 (((rd t70 x75).Source).B) a1.Source.B) && true)) && ((((((rd t70 x75).Group).Size) == a1.Group.Size) && ((eqA 16 (((rd t70 x75).Group).B) a1.Group.B) && true)) && true))))) ha rfl rfl rfl (fun w' hs => eqs_run (r := (((bstr ((rd t70 x75).Vrf)).toList == (bstr a1.Vrf).toList) && (((bstr ((rd t70 x75).Iface)).toList == (bstr a1.Iface).toList) && ((((((rd t70 x75).Source).Size) == a1.Source.Size) && ((eqA 16 (((rd t70 x75).Source).B) a1.Source.B) && true)) && ((((((rd t70 x75).Group).Size) == a1.Group.Size) && ((eqA 16 (((rd t70 x75).Group).B) a1.Group.B) && true)) && true))))) (m := 9) ha rfl rfl (by kernel_rfl) rfl (by kernel_rfl) w') fun a ha => ?_
           refine wpQuiet_nil ?_
           intro w92 hc93
           have o1 : Ok [] (blkL ao70 ++ (([gO12] ++ blkL ao67) ++ ([g54] ++ (M)))) w73.heap.size := Ok.nil _ _
           have o2 : Ok (blkL ao70 ++ (([gO12] ++ blkL ao67) ++ ([g54] ++ (M)))) (blkL ao70 ++ (([gO12] ++ blkL ao67) ++ ([g54] ++ (M)))) w73.heap.size := (Ok.refl _ _)
           have f2 := f2.chg hc93 o1 o2
           have f70 := f70.chg hc93 o1 o2 (fun _ _ h => nomatch h) (fun _ h => ml h)
           have hBg54 := hBg54.chg hc93 (fun h => nomatch h)
           have fO67 := fO67.chg hc93 (fun _ _ h => nomatch h)
           have q_hn8 : g5 ∉ blkL ao70 ++ (([gO12] ++ blkL ao67) ++ ([g54] ++ (M))) := fun h => (o2 g5 h).elim hn8 (fun h => absurd (lt_cell (hE7 0 _ rfl)) (Nat.not_lt.2 h))
           have hE7 : ∀ j v, (cS_api_Join a1)[j]? = some v → w92.cell? ⟨g5, 0 + j, none⟩ = some v := fun j v hv => (cell_keep hc93 o1 hn8 (hE7 j v hv))
           have hn8 := q_hn8
           have hM : MS (blkL ao70 ++ (([gO12] ++ blkL ao67) ++ ([g54] ++ (M)))) w92 := (hM.chg hc93)
           have hC := hC.trans hc93 (Ok.nil _ _)
           refine wpl_end ?_
           refine hK84 _ _ ?_; try clear hK84 K84
           refine cnd ha rfl (fun hc94 => ?_) (fun hc94 => ?_)
           ·have H := ite_t hc94 H
            refine wp_region_lit ?_
            refine seg ha 3 [(2, .slice ao2 a2.length cap2), (4, .pointer (some ⟨g5, 0, none⟩)), (8, .pointer (some ⟨gO12, 0, none⟩)), (10, .int .i64 x34), (12, .int .i64 (IntKind.i64.wrap (x74 + (1 : Int)))), (13, .slice ao70 t70.length cap70), (14, .int .i64 x75)] (by kernel_rfl) fun a ha => ?_
            refine hK83 _ _ ?_; try clear hK83 K83
            refine wp_region_lit ?_
            refine seg ha 3 [(2, .slice ao2 a2.length cap2), (4, .pointer (some ⟨g5, 0, none⟩)), (8, .pointer (some ⟨gO12, 0, none⟩)), (10, .int .i64 x34), (12, .int .i64 (IntKind.i64.wrap (x74 + (1 : Int)))), (13, .slice ao70 t70.length cap70), (14, .int .i64 (IntKind.i64.wrap (x75 + (1 : Int))))] (by kernel_rfl) fun a ha => ?_
            exact ⟨kk, Nat.lt_succ_self _, ⟨IntKind.i64.wrap (x74 + (1 : Int)), IntKind.i64.wrap (x75 + (1 : Int)), H, (ha.sel (by kernel_rfl)), f2, f70, hBg54, fO67, hE7, hn8, hC, hM⟩⟩
           ·have H := ite_f hc94 H
            refine wp_skip ?_
            refine hK83 _ _ ?_; try clear hK83 K83
            refine wp_region_lit ?_
            refine seg ha 3 [(2, .slice ao2 a2.length cap2), (4, .pointer (some ⟨g5, 0, none⟩)), (8, .pointer (some ⟨gO12, 0, none⟩)), (10, .int .i64 x34), (12, .int .i64 x74), (13, .slice ao70 t70.length cap70), (14, .int .i64 (IntKind.i64.wrap (x75 + (1 : Int))))] (by kernel_rfl) fun a ha => ?_
            exact ⟨kk, Nat.lt_succ_self _, ⟨x74, IntKind.i64.wrap (x75 + (1 : Int)), H, (ha.sel (by kernel_rfl)), f2, f70, hBg54, fO67, hE7, hn8, hC, hM⟩⟩
          ·have H := ite_f hc82 H
           refine wp_exit ?_
           simp only [Exit.then, Exit.inBlock, ↓reduceIte, Nat.reduceEqDiff]
           obtain rfl := Option.some.inj H
           have o1 : Ok [] (blkL ao70 ++ (([gO12] ++ blkL ao67) ++ ([g54] ++ (M)))) w73.heap.size := Ok.nil _ _
           have o2 : Ok (([gO12] ++ blkL ao67) ++ ([g54] ++ (M))) (blkL ao70 ++ (([gO12] ++ blkL ao67) ++ ([g54] ++ (M)))) w73.heap.size := (fun _ h => .inl (mr (h)))
           have f2 := f2.chg (Chg.refl [] _) o1 o2
           have q_hn8 : g5 ∉ ([gO12] ++ blkL ao67) ++ ([g54] ++ (M)) := fun h => (o2 g5 h).elim hn8 (fun h => absurd (lt_cell (hE7 0 _ rfl)) (Nat.not_lt.2 h))
           have hn8 := q_hn8
           have hM : MS (([gO12] ++ blkL ao67) ++ ([g54] ++ (M))) w73 := (fun x h => hM.chg (Chg.refl [] _) x (mr (h)))
           exact J73 _ _ ao67 cap32 (ha.sel (by kernel_rfl)) f2 hBg54 fO67 hE7 hn8 e_i67 p_i67_i56 p_i67_M hC hM
        ·have H := ite_f hc66 H
         refine wp_seq_k fun K95 hK95 => ?_
         refine wp_region_lit ?_
         refine seg ha 2 [(2, .slice ao2 a2.length cap2), (4, .pointer (some ⟨g5, 0, none⟩)), (8, .pointer (some ⟨gO12, 0, none⟩)), (10, .int .i64 x34), (11, .pointer (some ⟨g54, 0, none⟩)), (87, .int .i64 ((rd a2 x34).Do)), (94, .bool (((rd a2 x34).Do) == (1 : Int)))] (by kernel_rfl) fun a ha => ?_
         refine hK95 _ _ ?_; try clear hK95 K95
         refine cnd ha rfl (fun hc96 => ?_) (fun hc96 => ?_)
         ·have H := ite_t hc96 H
          refine wp_region_lit ?_
          refine seg ha 2 [(2, .slice ao2 a2.length cap2), (4, .pointer (some ⟨g5, 0, none⟩)), (8, .pointer (some ⟨gO12, 0, none⟩)), (10, .int .i64 x34), (96, .pointer (some ⟨gO12, 0, none⟩)), (97, .pointer (some ⟨g54, 1, none⟩))] (by kernel_rfl) fun a ha => ?_
          refine ldA (cs := (cS_api_Join ((rd a2 x34).J))) ha rfl (by kernel_rfl) rfl rfl rfl (cells_sub (Box.cells hBg54) (all := (cS_vinerylaw20_Act (rd a2 x34))) [.int .i64 ((rd a2 x34).Do)] [] (by kernel_rfl)) fun a ha => ?_
          obtain ⟨t97, H97, H⟩ := bind_some H
          refine cl ha (by rfl) (by kernel_rfl) (by rfl) (by rfl) (by rfl) (Jn_Drop.walk w61 _ hM gO12 ao32 x33 f32 (fun _ h => mr (ml h)) ((rd a2 x34).J) k _ H97) ?_
          rintro _ w97 ⟨ao97, rfl, nf97, hc97, hk97, hl97⟩ a ha
          have o1 : Ok ([gO12] ++ blkL ao32) ([g54] ++ (([gO12] ++ blkL ao32) ++ (M))) w61.heap.size := (fun _ h => .inl (mr (ml h)))
          have o2 : Ok (([gO12] ++ blkL ao97) ++ ([g54] ++ (M))) ([g54] ++ (([gO12] ++ blkL ao32) ++ (M))) w61.heap.size := (Ok.app (Ok.to hk97 (fun _ h => mr (ml h))) (Ok.app (fun _ h => .inl (ml h)) (fun _ h => .inl (mr (mr (h))))))
          have f2 := f2.chg hc97 o1 o2
          have hBg54 := hBg54.chg hc97 (p_i56_i32 g54 (by simp))
          have q_hn8 : g5 ∉ ([gO12] ++ blkL ao97) ++ ([g54] ++ (M)) := fun h => (o2 g5 h).elim hn8 (fun h => absurd (lt_cell (hE7 0 _ rfl)) (Nat.not_lt.2 h))
          have hE7 : ∀ j v, (cS_api_Join a1)[j]? = some v → w97.cell? ⟨g5, 0 + j, none⟩ = some v := fun j v hv => (cell_keep hc97 o1 hn8 (hE7 j v hv))
          have hn8 := q_hn8
          have p_i97_i56 : ∀ x ∈ ([gO12] ++ blkL ao97), x ∉ ([g54]) := fun x hx hy => (hk97 x hx).elim (fun h => (fun x hx hy => p_i56_i32 x hy hx) x h hy) (fun h => absurd (hM x (ml hy)) (Nat.not_lt.2 h))
          have p_i97_M : ∀ x ∈ ([gO12] ++ blkL ao97), x ∉ M := fun x hx hy => (hk97 x hx).elim (fun h => p_i32_M x h hy) (fun h => absurd (hM x (mr (mr (hy)))) (Nat.not_lt.2 h))
          have e_i97 : ∀ x ∈ ([gO12] ++ blkL ao97), w.heap.size ≤ x := fun x hx => (hk97 x hx).elim (e_i32 x) (Nat.le_trans hC.size)
          have hM : MS (([gO12] ++ blkL ao97) ++ ([g54] ++ (M))) w97 := (MS.app (fun x h => hl97 x (ml h)) (MS.app (fun x h => hM.chg hc97 x (ml h)) (fun x h => hM.chg hc97 x (mr (mr (h))))))
          have hC := hC.trans hc97 (fun x h => .inr (e_i32 x h))
          have fO97 := nf97
          refine hK63 _ _ ?_; try clear hK63 K63
          refine wp_seq_k fun K98 hK98 => ?_
          refine wp_region_lit ?_
          refine seg ha 1 [(2, .slice ao2 a2.length cap2), (4, .pointer (some ⟨g5, 0, none⟩)), (8, .pointer (some ⟨gO12, 0, none⟩)), (10, .int .i64 x34), (12, .int .i64 (0 : Int))] (by kernel_rfl) fun a ha => ?_
          refine hK98 _ _ ?_; try clear hK98 K98
          refine wp_seq_k fun K99 hK99 => ?_
          refine wp_region_lit ?_
          refine seg ha 1 [(2, .slice ao2 a2.length cap2), (4, .pointer (some ⟨g5, 0, none⟩)), (8, .pointer (some ⟨gO12, 0, none⟩)), (10, .int .i64 x34), (12, .int .i64 (0 : Int)), (107, .pointer (some ⟨gO12, 0, none⟩))] (by kernel_rfl) fun a ha => ?_
          obtain ⟨t100, H100, H⟩ := bind_some H
          refine cl ha (by rfl) (by kernel_rfl) (by rfl) (by rfl) (by rfl) (Jn_All.walk w97 _ hM gO12 ao97 t97.2 fO97 (fun _ h => ml h) _ H100) ?_
          rintro _ w100 ⟨ao100, cap100, rfl, f100, ne_i100, hc100, hMn⟩ a ha
          have o1 : Ok [] (([gO12] ++ blkL ao97) ++ ([g54] ++ (M))) w97.heap.size := Ok.nil _ _
          have o2 : Ok (blkL ao100 ++ (([gO12] ++ blkL ao97) ++ ([g54] ++ (M)))) (([gO12] ++ blkL ao97) ++ ([g54] ++ (M))) w97.heap.size := (Ok.app (fun x h => .inr (ne_i100 x h)) (Ok.refl _ _))
          have f2 := f2.chg hc100 o1 o2
          have hBg54 := hBg54.chg hc100 (fun h => nomatch h)
          have fO97 := fO97.chg hc100 (fun _ _ h => nomatch h)
          have q_hn8 : g5 ∉ blkL ao100 ++ (([gO12] ++ blkL ao97) ++ ([g54] ++ (M))) := fun h => (o2 g5 h).elim hn8 (fun h => absurd (lt_cell (hE7 0 _ rfl)) (Nat.not_lt.2 h))
          have hE7 : ∀ j v, (cS_api_Join a1)[j]? = some v → w100.cell? ⟨g5, 0 + j, none⟩ = some v := fun j v hv => (cell_keep hc100 o1 hn8 (hE7 j v hv))
          have hn8 := q_hn8
          have p_i100_i97 : ∀ x ∈ blkL ao100, x ∉ ([gO12] ++ blkL ao97) := fun x hx hy => absurd (hM x (ml hy)) (Nat.not_lt.2 (ne_i100 x hx))
          have p_i100_i56 : ∀ x ∈ blkL ao100, x ∉ ([g54]) := fun x hx hy => absurd (hM x (mr (ml hy))) (Nat.not_lt.2 (ne_i100 x hx))
          have p_i100_M : ∀ x ∈ blkL ao100, x ∉ M := fun x hx hy => absurd (hM x (mr (mr (hy)))) (Nat.not_lt.2 (ne_i100 x hx))
          have e_i100 : ∀ x ∈ blkL ao100, w.heap.size ≤ x := fun x hx => Nat.le_trans hC.size (ne_i100 x hx)
          have hM : MS (blkL ao100 ++ (([gO12] ++ blkL ao97) ++ ([g54] ++ (M)))) w100 := (MS.app (fun x h => hMn x (ml h)) (hM.chg hc100))
          have hC := hC.trans hc100 (Ok.nil _ _)
          refine seg ha 1 [(2, .slice ao2 a2.length cap2), (4, .pointer (some ⟨g5, 0, none⟩)), (8, .pointer (some ⟨gO12, 0, none⟩)), (10, .int .i64 x34), (12, .int .i64 (0 : Int)), (13, .slice ao100 t100.length cap100)] (by kernel_rfl) fun a ha => ?_
          refine hK99 _ _ ?_; try clear hK99 K99
          refine wp_seq_k fun K101 hK101 => ?_
          refine wp_seq_k fun K102 hK102 => ?_
          refine wp_region_lit ?_
          refine seg ha 1 [(2, .slice ao2 a2.length cap2), (4, .pointer (some ⟨g5, 0, none⟩)), (8, .pointer (some ⟨gO12, 0, none⟩)), (10, .int .i64 x34), (12, .int .i64 (0 : Int)), (13, .slice ao100 t100.length cap100), (14, .int .i64 (0 : Int))] (by kernel_rfl) fun a ha => ?_
          refine hK102 _ _ ?_; try clear hK102 K102
          refine wp_block ?_
          obtain ⟨s103, H103, H⟩ := bind_some H
          have J103 : ∀ (a : Act) (wx103 : World) (ao106 : Option Addr) (cap106 : Nat), Has a Tryz.f6.ntmps [(2, .slice ao2 a2.length cap2), (4, .pointer (some ⟨g5, 0, none⟩)), (8, .pointer (some ⟨gO12, 0, none⟩)), (10, .int .i64 x34), (12, .int .i64 s103.2)] → (RSl rS_vinerylaw20_Act 46 wx103 (([gO12] ++ blkL ao106) ++ ([g54] ++ (M))) ao2 cap2 a2) → (Box wx103 g54 (cS_vinerylaw20_Act (rd a2 x34))) → (JAt wx103 gO12 ao106 s103.1) → (∀ j v, (cS_api_Join a1)[j]? = some v → wx103.cell? ⟨g5, 0 + j, none⟩ = some v) → (g5 ∉ (([gO12] ++ blkL ao106) ++ ([g54] ++ (M)))) → (∀ x ∈ ([gO12] ++ blkL ao106), w.heap.size ≤ x) → (∀ x ∈ ([gO12] ++ blkL ao106), x ∉ [g54]) → (∀ x ∈ ([gO12] ++ blkL ao106), x ∉ M) → (Chg [] w wx103) → (MS (([gO12] ++ blkL ao106) ++ ([g54] ++ (M))) wx103) → K101 a wx103 := by
           intro a wx103 ao106 cap106 ha f2 hBg54 f106 hE7 hn8 e_i106 p_i106_i56 p_i106_M hC hM
           refine hK101 _ _ ?_; try clear hK101 K101
           refine wp_seq_k fun K107 hK107 => ?_
           refine wp_region_lit ?_
           refine seg ha 2 [(2, .slice ao2 a2.length cap2), (4, .pointer (some ⟨g5, 0, none⟩)), (8, .pointer (some ⟨gO12, 0, none⟩)), (10, .int .i64 x34), (124, .bool (s103.2 != (1 : Int)))] (by kernel_rfl) fun a ha => ?_
           refine hK107 _ _ ?_; try clear hK107 K107
           refine cnd ha rfl (fun hc108 => ?_) (fun hc108 => ?_)
           ·have H := ite_t hc108 H
            refine wp_seq_k fun K109 hK109 => ?_
            refine wp_region_lit ?_
            refine seg ha 1 [(6, .bool false)] (by kernel_rfl) fun a ha => ?_
            refine hK109 _ _ ?_; try clear hK109 K109
            refine wp_ret ?_
            try simp only [Exit.then, Exit.inBlock]
            have hM : MS (M) wx103 := (fun x h => hM.chg (Chg.refl [] _) x (mr (mr (h))))
            obtain rfl := Option.some.inj H
            have H := (show some _ = some _ from Hc31)
            obtain rfl := Option.some.inj H
            refine rt1 ha rfl rfl ?_
            exact ⟨rfl, hC, hM⟩
           ·have H := ite_f hc108 H
            refine wp_skip ?_
            refine hK44 _ _ ?_; try clear hK44 K44
            refine wp_region_lit ?_
            refine seg ha 3 [(2, .slice ao2 a2.length cap2), (4, .pointer (some ⟨g5, 0, none⟩)), (8, .pointer (some ⟨gO12, 0, none⟩)), (10, .int .i64 (IntKind.i64.wrap (x34 + (1 : Int))))] (by kernel_rfl) fun a ha => ?_
            have o1 : Ok [] (([gO12] ++ blkL ao106) ++ ([g54] ++ (M))) wx103.heap.size := Ok.nil _ _
            have o2 : Ok (([gO12] ++ blkL ao106) ++ (M)) (([gO12] ++ blkL ao106) ++ ([g54] ++ (M))) wx103.heap.size := (Ok.app (fun _ h => .inl (ml h)) (fun _ h => .inl (mr (mr (h)))))
            have f2 := f2.chg (Chg.refl [] _) o1 o2
            have q_hn8 : g5 ∉ ([gO12] ++ blkL ao106) ++ (M) := fun h => (o2 g5 h).elim hn8 (fun h => absurd (lt_cell (hE7 0 _ rfl)) (Nat.not_lt.2 h))
            have hn8 := q_hn8
            have hM : MS (([gO12] ++ blkL ao106) ++ (M)) wx103 := (MS.app (fun x h => hM.chg (Chg.refl [] _) x (ml h)) (fun x h => hM.chg (Chg.refl [] _) x (mr (mr (h)))))
            exact ⟨kk, Nat.lt_succ_self _, ⟨s103.1, IntKind.i64.wrap (x34 + (1 : Int)), ao106, cap106, H, (ha.sel (by kernel_rfl)), f2, f106, hE7, hn8, e_i106, p_i106_M, hC, hM⟩⟩
          have Hc103 := H
          have H := H103
          refine wp_loop_ghost (fun kk a w103 => ∃ (x104 : Int) (x105 : Int), vinerylaw20_JoinsKeeps.l3 a1 t97 t100 kk x104 x105 = some s103 ∧ Has a Tryz.f6.ntmps [(2, .slice ao2 a2.length cap2), (4, .pointer (some ⟨g5, 0, none⟩)), (8, .pointer (some ⟨gO12, 0, none⟩)), (10, .int .i64 x34), (12, .int .i64 x104), (13, .slice ao100 t100.length cap100), (14, .int .i64 x105)] ∧ (RSl rS_vinerylaw20_Act 46 w103 (blkL ao100 ++ (([gO12] ++ blkL ao97) ++ ([g54] ++ (M)))) ao2 cap2 a2) ∧ (Own rS_api_Join 38 w103 (blkL ao100 ++ (([gO12] ++ blkL ao97) ++ ([g54] ++ (M)))) ao100 cap100 t100) ∧ (Box w103 g54 (cS_vinerylaw20_Act (rd a2 x34))) ∧ (JAt w103 gO12 ao97 t97.2) ∧ (∀ j v, (cS_api_Join a1)[j]? = some v → w103.cell? ⟨g5, 0 + j, none⟩ = some v) ∧ (g5 ∉ (blkL ao100 ++ (([gO12] ++ blkL ao97) ++ ([g54] ++ (M))))) ∧ (Chg [] w w103) ∧ (MS (blkL ao100 ++ (([gO12] ++ blkL ao97) ++ ([g54] ++ (M)))) w103)) k ?_ ?_
          ·skip
           exact ⟨(0 : Int), (0 : Int), H, (ha.sel (by kernel_rfl)), f2, f100, hBg54, fO97, hE7, hn8, hC, hM⟩
          ·rintro kk a w103 ⟨x104, x105, H, ha, f2, f100, hBg54, fO97, hE7, hn8, hC, hM⟩
           obtain _ | kk := kk
           ·exact nomatch (show none = some _ from H)
           rw [vinerylaw20_JoinsKeeps.l3] at H
           refine wp_seq_k fun K110 hK110 => ?_
           refine wp_seq_k fun K111 hK111 => ?_
           refine wp_region_lit ?_
           refine seg ha 4 [(2, .slice ao2 a2.length cap2), (4, .pointer (some ⟨g5, 0, none⟩)), (8, .pointer (some ⟨gO12, 0, none⟩)), (10, .int .i64 x34), (12, .int .i64 x104), (13, .slice ao100 t100.length cap100), (14, .int .i64 x105), (112, .bool (decide (x105 < (t100.length : Int))))] (by kernel_rfl) fun a ha => ?_
           refine hK111 _ _ ?_; try clear hK111 K111
           refine cnd ha rfl (fun hc112 => ?_) (fun hc112 => ?_)
           ·have H := ite_t hc112 H
            refine wp_skip ?_
            refine hK110 _ _ ?_; try clear hK110 K110
            refine wp_seq_k fun K113 hK113 => ?_
            refine wp_block ?_
            refine wp_seq_k fun K114 hK114 => ?_
            refine drq0 (fun w' => Chg [] w103 w') (by kernel_rfl) (by kernel_rfl) (fun _ h => h) ?_
            refine qp 0 (.slice ao100 t100.length cap100) ha rfl rfl rfl (by kernel_rfl) fun a ha => ?_
            refine qp 0 (.int .i64 x105) ha rfl rfl rfl (by kernel_rfl) fun a ha => ?_
            obtain ⟨⟨hx115, hx115'⟩, H⟩ := ite_some H
            obtain ⟨ge116, oe1170, cs118, hx115eq, hn121, hR119, hE120⟩ := RSl.elem (Own.toRSl (M' := []) f100 (Ok.nil _ _) (fun _ _ h => nomatch h)) (Int.toNat x105) (by omega)
            rw [rd_get] at hR119
            obtain rfl := rS_api_Join.open hR119
            refine qv (v := .pointer (some ⟨ge116, (oe1170 + (Int.toNat x105) * rS_api_Join.sz), none⟩)) ha rfl rfl rfl (fun w' hs => ix_run (r := rS_api_Join) (T := 38) ha (by kernel_rfl) (by kernel_rfl) (by rfl) (by rfl) hx115eq hx115 hx115') fun a ha => ?_
            refine qv (v := .agg (cS_api_Join (rd t100 x105)).toArray) ha rfl rfl rfl (fun w' hs => ldA_run (cs := (cS_api_Join (rd t100 x105))) ha rfl (by kernel_rfl) (cells_sub (fun j v hv => hs.keep (hE120 j v hv)) (all := (cS_api_Join (rd t100 x105))) [] [] (by kernel_rfl))) fun a ha => ?_
            refine qv (v := .agg (cS_api_Join a1).toArray) ha rfl rfl rfl (fun w' hs => ldA_run (cs := (cS_api_Join a1)) ha rfl (by kernel_rfl) (cells_sub (fun j v hv => hs.keep (hE7 j v hv)) (all := (cS_api_Join a1)) [] [] (by kernel_rfl))) fun a ha => ?_
            refine qv (v := .bool (((bstr ((rd t100 x105).Vrf)).toList == (bstr a1.Vrf).toList) && (((bstr ((rd t100 x105).Iface)).toList == (bstr a1.Iface).toList) && ((((((rd t100 x105).Source).Size) == a1.Source.Size) && ((eqA 16 (((rd t100 x105).Source).B) a1.Source.B) && true)) && ((((((rd t100 x105).Group).Size) == a1.Group.Size) && ((eqA 16 (((rd t100 x105).Group).B) a1.Group.B) && true)) && true))))) ha rfl rfl rfl (fun w' hs => eqs_run (r := (((bstr ((rd t100 x105).Vrf)).toList == (bstr a1.Vrf).toList) && (((bstr ((rd t100 x105).Iface)).toList == (bstr a1.Iface).toList) && ((((((rd t100 x105).Source).Size) == a1.Source.Size) && ((eqA 16 (((rd t100 x105).Source).B) a1.Source.B) && true)) && ((((((rd t100 x105).Group).Size) == a1.Group.Size) && ((eqA 16 (((rd t100 x105).Group).B) a1.Group.B) && true)) && true))))) (m := 9) ha rfl rfl (by kernel_rfl) rfl (by kernel_rfl) w') fun a ha => ?_
            refine wpQuiet_nil ?_
            intro w122 hc123
            have o1 : Ok [] (blkL ao100 ++ (([gO12] ++ blkL ao97) ++ ([g54] ++ (M)))) w103.heap.size := Ok.nil _ _
            have o2 : Ok (blkL ao100 ++ (([gO12] ++ blkL ao97) ++ ([g54] ++ (M)))) (blkL ao100 ++ (([gO12] ++ blkL ao97) ++ ([g54] ++ (M)))) w103.heap.size := (Ok.refl _ _)
            have f2 := f2.chg hc123 o1 o2
            have f100 := f100.chg hc123 o1 o2 (fun _ _ h => nomatch h) (fun _ h => ml h)
            have hBg54 := hBg54.chg hc123 (fun h => nomatch h)
            have fO97 := fO97.chg hc123 (fun _ _ h => nomatch h)
            have q_hn8 : g5 ∉ blkL ao100 ++ (([gO12] ++ blkL ao97) ++ ([g54] ++ (M))) := fun h => (o2 g5 h).elim hn8 (fun h => absurd (lt_cell (hE7 0 _ rfl)) (Nat.not_lt.2 h))
            have hE7 : ∀ j v, (cS_api_Join a1)[j]? = some v → w122.cell? ⟨g5, 0 + j, none⟩ = some v := fun j v hv => (cell_keep hc123 o1 hn8 (hE7 j v hv))
            have hn8 := q_hn8
            have hM : MS (blkL ao100 ++ (([gO12] ++ blkL ao97) ++ ([g54] ++ (M)))) w122 := (hM.chg hc123)
            have hC := hC.trans hc123 (Ok.nil _ _)
            refine wpl_end ?_
            refine hK114 _ _ ?_; try clear hK114 K114
            refine cnd ha rfl (fun hc124 => ?_) (fun hc124 => ?_)
            ·have H := ite_t hc124 H
             refine wp_region_lit ?_
             refine seg ha 3 [(2, .slice ao2 a2.length cap2), (4, .pointer (some ⟨g5, 0, none⟩)), (8, .pointer (some ⟨gO12, 0, none⟩)), (10, .int .i64 x34), (12, .int .i64 (IntKind.i64.wrap (x104 + (1 : Int)))), (13, .slice ao100 t100.length cap100), (14, .int .i64 x105)] (by kernel_rfl) fun a ha => ?_
             refine hK113 _ _ ?_; try clear hK113 K113
             refine wp_region_lit ?_
             refine seg ha 3 [(2, .slice ao2 a2.length cap2), (4, .pointer (some ⟨g5, 0, none⟩)), (8, .pointer (some ⟨gO12, 0, none⟩)), (10, .int .i64 x34), (12, .int .i64 (IntKind.i64.wrap (x104 + (1 : Int)))), (13, .slice ao100 t100.length cap100), (14, .int .i64 (IntKind.i64.wrap (x105 + (1 : Int))))] (by kernel_rfl) fun a ha => ?_
             exact ⟨kk, Nat.lt_succ_self _, ⟨IntKind.i64.wrap (x104 + (1 : Int)), IntKind.i64.wrap (x105 + (1 : Int)), H, (ha.sel (by kernel_rfl)), f2, f100, hBg54, fO97, hE7, hn8, hC, hM⟩⟩
            ·have H := ite_f hc124 H
             refine wp_skip ?_
             refine hK113 _ _ ?_; try clear hK113 K113
             refine wp_region_lit ?_
             refine seg ha 3 [(2, .slice ao2 a2.length cap2), (4, .pointer (some ⟨g5, 0, none⟩)), (8, .pointer (some ⟨gO12, 0, none⟩)), (10, .int .i64 x34), (12, .int .i64 x104), (13, .slice ao100 t100.length cap100), (14, .int .i64 (IntKind.i64.wrap (x105 + (1 : Int))))] (by kernel_rfl) fun a ha => ?_
             exact ⟨kk, Nat.lt_succ_self _, ⟨x104, IntKind.i64.wrap (x105 + (1 : Int)), H, (ha.sel (by kernel_rfl)), f2, f100, hBg54, fO97, hE7, hn8, hC, hM⟩⟩
           ·have H := ite_f hc112 H
            refine wp_exit ?_
            simp only [Exit.then, Exit.inBlock, ↓reduceIte, Nat.reduceEqDiff]
            obtain rfl := Option.some.inj H
            have o1 : Ok [] (blkL ao100 ++ (([gO12] ++ blkL ao97) ++ ([g54] ++ (M)))) w103.heap.size := Ok.nil _ _
            have o2 : Ok (([gO12] ++ blkL ao97) ++ ([g54] ++ (M))) (blkL ao100 ++ (([gO12] ++ blkL ao97) ++ ([g54] ++ (M)))) w103.heap.size := (fun _ h => .inl (mr (h)))
            have f2 := f2.chg (Chg.refl [] _) o1 o2
            have q_hn8 : g5 ∉ ([gO12] ++ blkL ao97) ++ ([g54] ++ (M)) := fun h => (o2 g5 h).elim hn8 (fun h => absurd (lt_cell (hE7 0 _ rfl)) (Nat.not_lt.2 h))
            have hn8 := q_hn8
            have hM : MS (([gO12] ++ blkL ao97) ++ ([g54] ++ (M))) w103 := (fun x h => hM.chg (Chg.refl [] _) x (mr (h)))
            exact J103 _ _ ao97 cap32 (ha.sel (by kernel_rfl)) f2 hBg54 fO97 hE7 hn8 e_i97 p_i97_i56 p_i97_M hC hM
         ·have H := ite_f hc96 H
          refine wp_seq_k fun K125 hK125 => ?_
          refine wp_region_lit ?_
          refine seg ha 2 [(2, .slice ao2 a2.length cap2), (4, .pointer (some ⟨g5, 0, none⟩)), (8, .pointer (some ⟨gO12, 0, none⟩)), (10, .int .i64 x34), (11, .pointer (some ⟨g54, 0, none⟩)), (100, .bool (((rd a2 x34).Do) == (2 : Int)))] (by kernel_rfl) fun a ha => ?_
          refine hK125 _ _ ?_; try clear hK125 K125
          refine cnd ha rfl (fun hc126 => ?_) (fun hc126 => ?_)
          ·have H := ite_t hc126 H
           refine wp_region_lit ?_
           refine seg ha 3 [(2, .slice ao2 a2.length cap2), (4, .pointer (some ⟨g5, 0, none⟩)), (8, .pointer (some ⟨gO12, 0, none⟩)), (10, .int .i64 x34), (102, .pointer (some ⟨gO12, 0, none⟩)), (104, .pointer (some ⟨g54, 1, none⟩))] (by kernel_rfl) fun a ha => ?_
           refine ld (v := .string (bstr (((rd a2 x34).J).Vrf))) ha rfl (by kernel_rfl) rfl rfl rfl (hBg54.cell' (o := 1) rfl (by kernel_rfl)) fun a ha => ?_
           obtain ⟨t127, H127, H⟩ := bind_some H
           refine cl ha (by rfl) (by kernel_rfl) (by rfl) (by rfl) (by rfl) (Jn_Clear.walk w61 _ hM gO12 ao32 x33 f32 (fun _ h => mr (ml h)) (((rd a2 x34).J).Vrf) k _ H127) ?_
           rintro _ w127 ⟨ao127, rfl, nf127, hc127, hk127, hl127⟩ a ha
           have o1 : Ok ([gO12] ++ blkL ao32) ([g54] ++ (([gO12] ++ blkL ao32) ++ (M))) w61.heap.size := (fun _ h => .inl (mr (ml h)))
           have o2 : Ok (([gO12] ++ blkL ao127) ++ ([g54] ++ (M))) ([g54] ++ (([gO12] ++ blkL ao32) ++ (M))) w61.heap.size := (Ok.app (Ok.to hk127 (fun _ h => mr (ml h))) (Ok.app (fun _ h => .inl (ml h)) (fun _ h => .inl (mr (mr (h))))))
           have f2 := f2.chg hc127 o1 o2
           have hBg54 := hBg54.chg hc127 (p_i56_i32 g54 (by simp))
           have q_hn8 : g5 ∉ ([gO12] ++ blkL ao127) ++ ([g54] ++ (M)) := fun h => (o2 g5 h).elim hn8 (fun h => absurd (lt_cell (hE7 0 _ rfl)) (Nat.not_lt.2 h))
           have hE7 : ∀ j v, (cS_api_Join a1)[j]? = some v → w127.cell? ⟨g5, 0 + j, none⟩ = some v := fun j v hv => (cell_keep hc127 o1 hn8 (hE7 j v hv))
           have hn8 := q_hn8
           have p_i127_i56 : ∀ x ∈ ([gO12] ++ blkL ao127), x ∉ ([g54]) := fun x hx hy => (hk127 x hx).elim (fun h => (fun x hx hy => p_i56_i32 x hy hx) x h hy) (fun h => absurd (hM x (ml hy)) (Nat.not_lt.2 h))
           have p_i127_M : ∀ x ∈ ([gO12] ++ blkL ao127), x ∉ M := fun x hx hy => (hk127 x hx).elim (fun h => p_i32_M x h hy) (fun h => absurd (hM x (mr (mr (hy)))) (Nat.not_lt.2 h))
           have e_i127 : ∀ x ∈ ([gO12] ++ blkL ao127), w.heap.size ≤ x := fun x hx => (hk127 x hx).elim (e_i32 x) (Nat.le_trans hC.size)
           have hM : MS (([gO12] ++ blkL ao127) ++ ([g54] ++ (M))) w127 := (MS.app (fun x h => hl127 x (ml h)) (MS.app (fun x h => hM.chg hc127 x (ml h)) (fun x h => hM.chg hc127 x (mr (mr (h))))))
           have hC := hC.trans hc127 (fun x h => .inr (e_i32 x h))
           have fO127 := nf127
           refine hK63 _ _ ?_; try clear hK63 K63
           refine wp_seq_k fun K128 hK128 => ?_
           refine wp_region_lit ?_
           refine seg ha 1 [(2, .slice ao2 a2.length cap2), (4, .pointer (some ⟨g5, 0, none⟩)), (8, .pointer (some ⟨gO12, 0, none⟩)), (10, .int .i64 x34), (12, .int .i64 (0 : Int))] (by kernel_rfl) fun a ha => ?_
           refine hK128 _ _ ?_; try clear hK128 K128
           refine wp_seq_k fun K129 hK129 => ?_
           refine wp_region_lit ?_
           refine seg ha 1 [(2, .slice ao2 a2.length cap2), (4, .pointer (some ⟨g5, 0, none⟩)), (8, .pointer (some ⟨gO12, 0, none⟩)), (10, .int .i64 x34), (12, .int .i64 (0 : Int)), (107, .pointer (some ⟨gO12, 0, none⟩))] (by kernel_rfl) fun a ha => ?_
           obtain ⟨t130, H130, H⟩ := bind_some H
           refine cl ha (by rfl) (by kernel_rfl) (by rfl) (by rfl) (by rfl) (Jn_All.walk w127 _ hM gO12 ao127 t127.2 fO127 (fun _ h => ml h) _ H130) ?_
           rintro _ w130 ⟨ao130, cap130, rfl, f130, ne_i130, hc130, hMn⟩ a ha
           have o1 : Ok [] (([gO12] ++ blkL ao127) ++ ([g54] ++ (M))) w127.heap.size := Ok.nil _ _
           have o2 : Ok (blkL ao130 ++ (([gO12] ++ blkL ao127) ++ ([g54] ++ (M)))) (([gO12] ++ blkL ao127) ++ ([g54] ++ (M))) w127.heap.size := (Ok.app (fun x h => .inr (ne_i130 x h)) (Ok.refl _ _))
           have f2 := f2.chg hc130 o1 o2
           have hBg54 := hBg54.chg hc130 (fun h => nomatch h)
           have fO127 := fO127.chg hc130 (fun _ _ h => nomatch h)
           have q_hn8 : g5 ∉ blkL ao130 ++ (([gO12] ++ blkL ao127) ++ ([g54] ++ (M))) := fun h => (o2 g5 h).elim hn8 (fun h => absurd (lt_cell (hE7 0 _ rfl)) (Nat.not_lt.2 h))
           have hE7 : ∀ j v, (cS_api_Join a1)[j]? = some v → w130.cell? ⟨g5, 0 + j, none⟩ = some v := fun j v hv => (cell_keep hc130 o1 hn8 (hE7 j v hv))
           have hn8 := q_hn8
           have p_i130_i127 : ∀ x ∈ blkL ao130, x ∉ ([gO12] ++ blkL ao127) := fun x hx hy => absurd (hM x (ml hy)) (Nat.not_lt.2 (ne_i130 x hx))
           have p_i130_i56 : ∀ x ∈ blkL ao130, x ∉ ([g54]) := fun x hx hy => absurd (hM x (mr (ml hy))) (Nat.not_lt.2 (ne_i130 x hx))
           have p_i130_M : ∀ x ∈ blkL ao130, x ∉ M := fun x hx hy => absurd (hM x (mr (mr (hy)))) (Nat.not_lt.2 (ne_i130 x hx))
           have e_i130 : ∀ x ∈ blkL ao130, w.heap.size ≤ x := fun x hx => Nat.le_trans hC.size (ne_i130 x hx)
           have hM : MS (blkL ao130 ++ (([gO12] ++ blkL ao127) ++ ([g54] ++ (M)))) w130 := (MS.app (fun x h => hMn x (ml h)) (hM.chg hc130))
           have hC := hC.trans hc130 (Ok.nil _ _)
           refine seg ha 1 [(2, .slice ao2 a2.length cap2), (4, .pointer (some ⟨g5, 0, none⟩)), (8, .pointer (some ⟨gO12, 0, none⟩)), (10, .int .i64 x34), (12, .int .i64 (0 : Int)), (13, .slice ao130 t130.length cap130)] (by kernel_rfl) fun a ha => ?_
           refine hK129 _ _ ?_; try clear hK129 K129
           refine wp_seq_k fun K131 hK131 => ?_
           refine wp_seq_k fun K132 hK132 => ?_
           refine wp_region_lit ?_
           refine seg ha 1 [(2, .slice ao2 a2.length cap2), (4, .pointer (some ⟨g5, 0, none⟩)), (8, .pointer (some ⟨gO12, 0, none⟩)), (10, .int .i64 x34), (12, .int .i64 (0 : Int)), (13, .slice ao130 t130.length cap130), (14, .int .i64 (0 : Int))] (by kernel_rfl) fun a ha => ?_
           refine hK132 _ _ ?_; try clear hK132 K132
           refine wp_block ?_
           obtain ⟨s133, H133, H⟩ := bind_some H
           have J133 : ∀ (a : Act) (wx133 : World) (ao136 : Option Addr) (cap136 : Nat), Has a Tryz.f6.ntmps [(2, .slice ao2 a2.length cap2), (4, .pointer (some ⟨g5, 0, none⟩)), (8, .pointer (some ⟨gO12, 0, none⟩)), (10, .int .i64 x34), (12, .int .i64 s133.2)] → (RSl rS_vinerylaw20_Act 46 wx133 (([gO12] ++ blkL ao136) ++ ([g54] ++ (M))) ao2 cap2 a2) → (Box wx133 g54 (cS_vinerylaw20_Act (rd a2 x34))) → (JAt wx133 gO12 ao136 s133.1) → (∀ j v, (cS_api_Join a1)[j]? = some v → wx133.cell? ⟨g5, 0 + j, none⟩ = some v) → (g5 ∉ (([gO12] ++ blkL ao136) ++ ([g54] ++ (M)))) → (∀ x ∈ ([gO12] ++ blkL ao136), w.heap.size ≤ x) → (∀ x ∈ ([gO12] ++ blkL ao136), x ∉ [g54]) → (∀ x ∈ ([gO12] ++ blkL ao136), x ∉ M) → (Chg [] w wx133) → (MS (([gO12] ++ blkL ao136) ++ ([g54] ++ (M))) wx133) → K131 a wx133 := by
            intro a wx133 ao136 cap136 ha f2 hBg54 f136 hE7 hn8 e_i136 p_i136_i56 p_i136_M hC hM
            refine hK131 _ _ ?_; try clear hK131 K131
            refine wp_seq_k fun K137 hK137 => ?_
            refine wp_region_lit ?_
            refine seg ha 2 [(2, .slice ao2 a2.length cap2), (4, .pointer (some ⟨g5, 0, none⟩)), (8, .pointer (some ⟨gO12, 0, none⟩)), (10, .int .i64 x34), (124, .bool (s133.2 != (1 : Int)))] (by kernel_rfl) fun a ha => ?_
            refine hK137 _ _ ?_; try clear hK137 K137
            refine cnd ha rfl (fun hc138 => ?_) (fun hc138 => ?_)
            ·have H := ite_t hc138 H
             refine wp_seq_k fun K139 hK139 => ?_
             refine wp_region_lit ?_
             refine seg ha 1 [(6, .bool false)] (by kernel_rfl) fun a ha => ?_
             refine hK139 _ _ ?_; try clear hK139 K139
             refine wp_ret ?_
             try simp only [Exit.then, Exit.inBlock]
             have hM : MS (M) wx133 := (fun x h => hM.chg (Chg.refl [] _) x (mr (mr (h))))
             obtain rfl := Option.some.inj H
             have H := (show some _ = some _ from Hc31)
             obtain rfl := Option.some.inj H
             refine rt1 ha rfl rfl ?_
             exact ⟨rfl, hC, hM⟩
            ·have H := ite_f hc138 H
             refine wp_skip ?_
             refine hK44 _ _ ?_; try clear hK44 K44
             refine wp_region_lit ?_
             refine seg ha 3 [(2, .slice ao2 a2.length cap2), (4, .pointer (some ⟨g5, 0, none⟩)), (8, .pointer (some ⟨gO12, 0, none⟩)), (10, .int .i64 (IntKind.i64.wrap (x34 + (1 : Int))))] (by kernel_rfl) fun a ha => ?_
             have o1 : Ok [] (([gO12] ++ blkL ao136) ++ ([g54] ++ (M))) wx133.heap.size := Ok.nil _ _
             have o2 : Ok (([gO12] ++ blkL ao136) ++ (M)) (([gO12] ++ blkL ao136) ++ ([g54] ++ (M))) wx133.heap.size := (Ok.app (fun _ h => .inl (ml h)) (fun _ h => .inl (mr (mr (h)))))
             have f2 := f2.chg (Chg.refl [] _) o1 o2
             have q_hn8 : g5 ∉ ([gO12] ++ blkL ao136) ++ (M) := fun h => (o2 g5 h).elim hn8 (fun h => absurd (lt_cell (hE7 0 _ rfl)) (Nat.not_lt.2 h))
             have hn8 := q_hn8
             have hM : MS (([gO12] ++ blkL ao136) ++ (M)) wx133 := (MS.app (fun x h => hM.chg (Chg.refl [] _) x (ml h)) (fun x h => hM.chg (Chg.refl [] _) x (mr (mr (h)))))
             exact ⟨kk, Nat.lt_succ_self _, ⟨s133.1, IntKind.i64.wrap (x34 + (1 : Int)), ao136, cap136, H, (ha.sel (by kernel_rfl)), f2, f136, hE7, hn8, e_i136, p_i136_M, hC, hM⟩⟩
           have Hc133 := H
           have H := H133
           refine wp_loop_ghost (fun kk a w133 => ∃ (x134 : Int) (x135 : Int), vinerylaw20_JoinsKeeps.l4 a1 t127 t130 kk x134 x135 = some s133 ∧ Has a Tryz.f6.ntmps [(2, .slice ao2 a2.length cap2), (4, .pointer (some ⟨g5, 0, none⟩)), (8, .pointer (some ⟨gO12, 0, none⟩)), (10, .int .i64 x34), (12, .int .i64 x134), (13, .slice ao130 t130.length cap130), (14, .int .i64 x135)] ∧ (RSl rS_vinerylaw20_Act 46 w133 (blkL ao130 ++ (([gO12] ++ blkL ao127) ++ ([g54] ++ (M)))) ao2 cap2 a2) ∧ (Own rS_api_Join 38 w133 (blkL ao130 ++ (([gO12] ++ blkL ao127) ++ ([g54] ++ (M)))) ao130 cap130 t130) ∧ (Box w133 g54 (cS_vinerylaw20_Act (rd a2 x34))) ∧ (JAt w133 gO12 ao127 t127.2) ∧ (∀ j v, (cS_api_Join a1)[j]? = some v → w133.cell? ⟨g5, 0 + j, none⟩ = some v) ∧ (g5 ∉ (blkL ao130 ++ (([gO12] ++ blkL ao127) ++ ([g54] ++ (M))))) ∧ (Chg [] w w133) ∧ (MS (blkL ao130 ++ (([gO12] ++ blkL ao127) ++ ([g54] ++ (M)))) w133)) k ?_ ?_
           ·skip
            exact ⟨(0 : Int), (0 : Int), H, (ha.sel (by kernel_rfl)), f2, f130, hBg54, fO127, hE7, hn8, hC, hM⟩
           ·rintro kk a w133 ⟨x134, x135, H, ha, f2, f130, hBg54, fO127, hE7, hn8, hC, hM⟩
            obtain _ | kk := kk
            ·exact nomatch (show none = some _ from H)
            rw [vinerylaw20_JoinsKeeps.l4] at H
            refine wp_seq_k fun K140 hK140 => ?_
            refine wp_seq_k fun K141 hK141 => ?_
            refine wp_region_lit ?_
            refine seg ha 4 [(2, .slice ao2 a2.length cap2), (4, .pointer (some ⟨g5, 0, none⟩)), (8, .pointer (some ⟨gO12, 0, none⟩)), (10, .int .i64 x34), (12, .int .i64 x134), (13, .slice ao130 t130.length cap130), (14, .int .i64 x135), (112, .bool (decide (x135 < (t130.length : Int))))] (by kernel_rfl) fun a ha => ?_
            refine hK141 _ _ ?_; try clear hK141 K141
            refine cnd ha rfl (fun hc142 => ?_) (fun hc142 => ?_)
            ·have H := ite_t hc142 H
             refine wp_skip ?_
             refine hK140 _ _ ?_; try clear hK140 K140
             refine wp_seq_k fun K143 hK143 => ?_
             refine wp_block ?_
             refine wp_seq_k fun K144 hK144 => ?_
             refine drq0 (fun w' => Chg [] w133 w') (by kernel_rfl) (by kernel_rfl) (fun _ h => h) ?_
             refine qp 0 (.slice ao130 t130.length cap130) ha rfl rfl rfl (by kernel_rfl) fun a ha => ?_
             refine qp 0 (.int .i64 x135) ha rfl rfl rfl (by kernel_rfl) fun a ha => ?_
             obtain ⟨⟨hx145, hx145'⟩, H⟩ := ite_some H
             obtain ⟨ge146, oe1470, cs148, hx145eq, hn151, hR149, hE150⟩ := RSl.elem (Own.toRSl (M' := []) f130 (Ok.nil _ _) (fun _ _ h => nomatch h)) (Int.toNat x135) (by omega)
             rw [rd_get] at hR149
             obtain rfl := rS_api_Join.open hR149
             refine qv (v := .pointer (some ⟨ge146, (oe1470 + (Int.toNat x135) * rS_api_Join.sz), none⟩)) ha rfl rfl rfl (fun w' hs => ix_run (r := rS_api_Join) (T := 38) ha (by kernel_rfl) (by kernel_rfl) (by rfl) (by rfl) hx145eq hx145 hx145') fun a ha => ?_
             refine qv (v := .agg (cS_api_Join (rd t130 x135)).toArray) ha rfl rfl rfl (fun w' hs => ldA_run (cs := (cS_api_Join (rd t130 x135))) ha rfl (by kernel_rfl) (cells_sub (fun j v hv => hs.keep (hE150 j v hv)) (all := (cS_api_Join (rd t130 x135))) [] [] (by kernel_rfl))) fun a ha => ?_
             refine qv (v := .agg (cS_api_Join a1).toArray) ha rfl rfl rfl (fun w' hs => ldA_run (cs := (cS_api_Join a1)) ha rfl (by kernel_rfl) (cells_sub (fun j v hv => hs.keep (hE7 j v hv)) (all := (cS_api_Join a1)) [] [] (by kernel_rfl))) fun a ha => ?_
             refine qv (v := .bool (((bstr ((rd t130 x135).Vrf)).toList == (bstr a1.Vrf).toList) && (((bstr ((rd t130 x135).Iface)).toList == (bstr a1.Iface).toList) && ((((((rd t130 x135).Source).Size) == a1.Source.Size) && ((eqA 16 (((rd t130 x135).Source).B) a1.Source.B) && true)) && ((((((rd t130 x135).Group).Size) == a1.Group.Size) && ((eqA 16 (((rd t130 x135).Group).B) a1.Group.B) && true)) && true))))) ha rfl rfl rfl (fun w' hs => eqs_run (r := (((bstr ((rd t130 x135).Vrf)).toList == (bstr a1.Vrf).toList) && (((bstr ((rd t130 x135).Iface)).toList == (bstr a1.Iface).toList) && ((((((rd t130 x135).Source).Size) == a1.Source.Size) && ((eqA 16 (((rd t130 x135).Source).B) a1.Source.B) && true)) && ((((((rd t130 x135).Group).Size) == a1.Group.Size) && ((eqA 16 (((rd t130 x135).Group).B) a1.Group.B) && true)) && true))))) (m := 9) ha rfl rfl (by kernel_rfl) rfl (by kernel_rfl) w') fun a ha => ?_
             refine wpQuiet_nil ?_
             intro w152 hc153
             have o1 : Ok [] (blkL ao130 ++ (([gO12] ++ blkL ao127) ++ ([g54] ++ (M)))) w133.heap.size := Ok.nil _ _
             have o2 : Ok (blkL ao130 ++ (([gO12] ++ blkL ao127) ++ ([g54] ++ (M)))) (blkL ao130 ++ (([gO12] ++ blkL ao127) ++ ([g54] ++ (M)))) w133.heap.size := (Ok.refl _ _)
             have f2 := f2.chg hc153 o1 o2
             have f130 := f130.chg hc153 o1 o2 (fun _ _ h => nomatch h) (fun _ h => ml h)
             have hBg54 := hBg54.chg hc153 (fun h => nomatch h)
             have fO127 := fO127.chg hc153 (fun _ _ h => nomatch h)
             have q_hn8 : g5 ∉ blkL ao130 ++ (([gO12] ++ blkL ao127) ++ ([g54] ++ (M))) := fun h => (o2 g5 h).elim hn8 (fun h => absurd (lt_cell (hE7 0 _ rfl)) (Nat.not_lt.2 h))
             have hE7 : ∀ j v, (cS_api_Join a1)[j]? = some v → w152.cell? ⟨g5, 0 + j, none⟩ = some v := fun j v hv => (cell_keep hc153 o1 hn8 (hE7 j v hv))
             have hn8 := q_hn8
             have hM : MS (blkL ao130 ++ (([gO12] ++ blkL ao127) ++ ([g54] ++ (M)))) w152 := (hM.chg hc153)
             have hC := hC.trans hc153 (Ok.nil _ _)
             refine wpl_end ?_
             refine hK144 _ _ ?_; try clear hK144 K144
             refine cnd ha rfl (fun hc154 => ?_) (fun hc154 => ?_)
             ·have H := ite_t hc154 H
              refine wp_region_lit ?_
              refine seg ha 3 [(2, .slice ao2 a2.length cap2), (4, .pointer (some ⟨g5, 0, none⟩)), (8, .pointer (some ⟨gO12, 0, none⟩)), (10, .int .i64 x34), (12, .int .i64 (IntKind.i64.wrap (x134 + (1 : Int)))), (13, .slice ao130 t130.length cap130), (14, .int .i64 x135)] (by kernel_rfl) fun a ha => ?_
              refine hK143 _ _ ?_; try clear hK143 K143
              refine wp_region_lit ?_
              refine seg ha 3 [(2, .slice ao2 a2.length cap2), (4, .pointer (some ⟨g5, 0, none⟩)), (8, .pointer (some ⟨gO12, 0, none⟩)), (10, .int .i64 x34), (12, .int .i64 (IntKind.i64.wrap (x134 + (1 : Int)))), (13, .slice ao130 t130.length cap130), (14, .int .i64 (IntKind.i64.wrap (x135 + (1 : Int))))] (by kernel_rfl) fun a ha => ?_
              exact ⟨kk, Nat.lt_succ_self _, ⟨IntKind.i64.wrap (x134 + (1 : Int)), IntKind.i64.wrap (x135 + (1 : Int)), H, (ha.sel (by kernel_rfl)), f2, f130, hBg54, fO127, hE7, hn8, hC, hM⟩⟩
             ·have H := ite_f hc154 H
              refine wp_skip ?_
              refine hK143 _ _ ?_; try clear hK143 K143
              refine wp_region_lit ?_
              refine seg ha 3 [(2, .slice ao2 a2.length cap2), (4, .pointer (some ⟨g5, 0, none⟩)), (8, .pointer (some ⟨gO12, 0, none⟩)), (10, .int .i64 x34), (12, .int .i64 x134), (13, .slice ao130 t130.length cap130), (14, .int .i64 (IntKind.i64.wrap (x135 + (1 : Int))))] (by kernel_rfl) fun a ha => ?_
              exact ⟨kk, Nat.lt_succ_self _, ⟨x134, IntKind.i64.wrap (x135 + (1 : Int)), H, (ha.sel (by kernel_rfl)), f2, f130, hBg54, fO127, hE7, hn8, hC, hM⟩⟩
            ·have H := ite_f hc142 H
             refine wp_exit ?_
             simp only [Exit.then, Exit.inBlock, ↓reduceIte, Nat.reduceEqDiff]
             obtain rfl := Option.some.inj H
             have o1 : Ok [] (blkL ao130 ++ (([gO12] ++ blkL ao127) ++ ([g54] ++ (M)))) w133.heap.size := Ok.nil _ _
             have o2 : Ok (([gO12] ++ blkL ao127) ++ ([g54] ++ (M))) (blkL ao130 ++ (([gO12] ++ blkL ao127) ++ ([g54] ++ (M)))) w133.heap.size := (fun _ h => .inl (mr (h)))
             have f2 := f2.chg (Chg.refl [] _) o1 o2
             have q_hn8 : g5 ∉ ([gO12] ++ blkL ao127) ++ ([g54] ++ (M)) := fun h => (o2 g5 h).elim hn8 (fun h => absurd (lt_cell (hE7 0 _ rfl)) (Nat.not_lt.2 h))
             have hn8 := q_hn8
             have hM : MS (([gO12] ++ blkL ao127) ++ ([g54] ++ (M))) w133 := (fun x h => hM.chg (Chg.refl [] _) x (mr (h)))
             exact J133 _ _ ao127 cap32 (ha.sel (by kernel_rfl)) f2 hBg54 fO127 hE7 hn8 e_i127 p_i127_i56 p_i127_M hC hM
          ·have H := ite_f hc126 H
           refine wp_skip ?_
           refine hK63 _ _ ?_; try clear hK63 K63
           refine wp_seq_k fun K155 hK155 => ?_
           refine wp_region_lit ?_
           refine seg ha 1 [(2, .slice ao2 a2.length cap2), (4, .pointer (some ⟨g5, 0, none⟩)), (8, .pointer (some ⟨gO12, 0, none⟩)), (10, .int .i64 x34), (12, .int .i64 (0 : Int))] (by kernel_rfl) fun a ha => ?_
           refine hK155 _ _ ?_; try clear hK155 K155
           refine wp_seq_k fun K156 hK156 => ?_
           refine wp_region_lit ?_
           refine seg ha 1 [(2, .slice ao2 a2.length cap2), (4, .pointer (some ⟨g5, 0, none⟩)), (8, .pointer (some ⟨gO12, 0, none⟩)), (10, .int .i64 x34), (12, .int .i64 (0 : Int)), (107, .pointer (some ⟨gO12, 0, none⟩))] (by kernel_rfl) fun a ha => ?_
           obtain ⟨t157, H157, H⟩ := bind_some H
           refine cl ha (by rfl) (by kernel_rfl) (by rfl) (by rfl) (by rfl) (Jn_All.walk w61 _ hM gO12 ao32 x33 f32 (fun _ h => mr (ml h)) _ H157) ?_
           rintro _ w157 ⟨ao157, cap157, rfl, f157, ne_i157, hc157, hMn⟩ a ha
           have o1 : Ok [] ([g54] ++ (([gO12] ++ blkL ao32) ++ (M))) w61.heap.size := Ok.nil _ _
           have o2 : Ok (blkL ao157 ++ ([g54] ++ (([gO12] ++ blkL ao32) ++ (M)))) ([g54] ++ (([gO12] ++ blkL ao32) ++ (M))) w61.heap.size := (Ok.app (fun x h => .inr (ne_i157 x h)) (Ok.refl _ _))
           have f2 := f2.chg hc157 o1 o2
           have hBg54 := hBg54.chg hc157 (fun h => nomatch h)
           have f32 := f32.chg hc157 (fun _ _ h => nomatch h)
           have q_hn8 : g5 ∉ blkL ao157 ++ ([g54] ++ (([gO12] ++ blkL ao32) ++ (M))) := fun h => (o2 g5 h).elim hn8 (fun h => absurd (lt_cell (hE7 0 _ rfl)) (Nat.not_lt.2 h))
           have hE7 : ∀ j v, (cS_api_Join a1)[j]? = some v → w157.cell? ⟨g5, 0 + j, none⟩ = some v := fun j v hv => (cell_keep hc157 o1 hn8 (hE7 j v hv))
           have hn8 := q_hn8
           have p_i157_i56 : ∀ x ∈ blkL ao157, x ∉ ([g54]) := fun x hx hy => absurd (hM x (ml hy)) (Nat.not_lt.2 (ne_i157 x hx))
           have p_i157_i32 : ∀ x ∈ blkL ao157, x ∉ ([gO12] ++ blkL ao32) := fun x hx hy => absurd (hM x (mr (ml hy))) (Nat.not_lt.2 (ne_i157 x hx))
           have p_i157_M : ∀ x ∈ blkL ao157, x ∉ M := fun x hx hy => absurd (hM x (mr (mr (hy)))) (Nat.not_lt.2 (ne_i157 x hx))
           have e_i157 : ∀ x ∈ blkL ao157, w.heap.size ≤ x := fun x hx => Nat.le_trans hC.size (ne_i157 x hx)
           have hM : MS (blkL ao157 ++ ([g54] ++ (([gO12] ++ blkL ao32) ++ (M)))) w157 := (MS.app (fun x h => hMn x (ml h)) (hM.chg hc157))
           have hC := hC.trans hc157 (Ok.nil _ _)
           refine seg ha 1 [(2, .slice ao2 a2.length cap2), (4, .pointer (some ⟨g5, 0, none⟩)), (8, .pointer (some ⟨gO12, 0, none⟩)), (10, .int .i64 x34), (12, .int .i64 (0 : Int)), (13, .slice ao157 t157.length cap157)] (by kernel_rfl) fun a ha => ?_
           refine hK156 _ _ ?_; try clear hK156 K156
           refine wp_seq_k fun K158 hK158 => ?_
           refine wp_seq_k fun K159 hK159 => ?_
           refine wp_region_lit ?_
           refine seg ha 1 [(2, .slice ao2 a2.length cap2), (4, .pointer (some ⟨g5, 0, none⟩)), (8, .pointer (some ⟨gO12, 0, none⟩)), (10, .int .i64 x34), (12, .int .i64 (0 : Int)), (13, .slice ao157 t157.length cap157), (14, .int .i64 (0 : Int))] (by kernel_rfl) fun a ha => ?_
           refine hK159 _ _ ?_; try clear hK159 K159
           refine wp_block ?_
           obtain ⟨s160, H160, H⟩ := bind_some H
           have J160 : ∀ (a : Act) (wx160 : World) (ao163 : Option Addr) (cap163 : Nat), Has a Tryz.f6.ntmps [(2, .slice ao2 a2.length cap2), (4, .pointer (some ⟨g5, 0, none⟩)), (8, .pointer (some ⟨gO12, 0, none⟩)), (10, .int .i64 x34), (12, .int .i64 s160.2)] → (RSl rS_vinerylaw20_Act 46 wx160 (([gO12] ++ blkL ao163) ++ ([g54] ++ (M))) ao2 cap2 a2) → (Box wx160 g54 (cS_vinerylaw20_Act (rd a2 x34))) → (JAt wx160 gO12 ao163 s160.1) → (∀ j v, (cS_api_Join a1)[j]? = some v → wx160.cell? ⟨g5, 0 + j, none⟩ = some v) → (g5 ∉ (([gO12] ++ blkL ao163) ++ ([g54] ++ (M)))) → (∀ x ∈ ([gO12] ++ blkL ao163), w.heap.size ≤ x) → (∀ x ∈ ([gO12] ++ blkL ao163), x ∉ [g54]) → (∀ x ∈ ([gO12] ++ blkL ao163), x ∉ M) → (Chg [] w wx160) → (MS (([gO12] ++ blkL ao163) ++ ([g54] ++ (M))) wx160) → K158 a wx160 := by
            intro a wx160 ao163 cap163 ha f2 hBg54 f163 hE7 hn8 e_i163 p_i163_i56 p_i163_M hC hM
            refine hK158 _ _ ?_; try clear hK158 K158
            refine wp_seq_k fun K164 hK164 => ?_
            refine wp_region_lit ?_
            refine seg ha 2 [(2, .slice ao2 a2.length cap2), (4, .pointer (some ⟨g5, 0, none⟩)), (8, .pointer (some ⟨gO12, 0, none⟩)), (10, .int .i64 x34), (124, .bool (s160.2 != (1 : Int)))] (by kernel_rfl) fun a ha => ?_
            refine hK164 _ _ ?_; try clear hK164 K164
            refine cnd ha rfl (fun hc165 => ?_) (fun hc165 => ?_)
            ·have H := ite_t hc165 H
             refine wp_seq_k fun K166 hK166 => ?_
             refine wp_region_lit ?_
             refine seg ha 1 [(6, .bool false)] (by kernel_rfl) fun a ha => ?_
             refine hK166 _ _ ?_; try clear hK166 K166
             refine wp_ret ?_
             try simp only [Exit.then, Exit.inBlock]
             have hM : MS (M) wx160 := (fun x h => hM.chg (Chg.refl [] _) x (mr (mr (h))))
             obtain rfl := Option.some.inj H
             have H := (show some _ = some _ from Hc31)
             obtain rfl := Option.some.inj H
             refine rt1 ha rfl rfl ?_
             exact ⟨rfl, hC, hM⟩
            ·have H := ite_f hc165 H
             refine wp_skip ?_
             refine hK44 _ _ ?_; try clear hK44 K44
             refine wp_region_lit ?_
             refine seg ha 3 [(2, .slice ao2 a2.length cap2), (4, .pointer (some ⟨g5, 0, none⟩)), (8, .pointer (some ⟨gO12, 0, none⟩)), (10, .int .i64 (IntKind.i64.wrap (x34 + (1 : Int))))] (by kernel_rfl) fun a ha => ?_
             have o1 : Ok [] (([gO12] ++ blkL ao163) ++ ([g54] ++ (M))) wx160.heap.size := Ok.nil _ _
             have o2 : Ok (([gO12] ++ blkL ao163) ++ (M)) (([gO12] ++ blkL ao163) ++ ([g54] ++ (M))) wx160.heap.size := (Ok.app (fun _ h => .inl (ml h)) (fun _ h => .inl (mr (mr (h)))))
             have f2 := f2.chg (Chg.refl [] _) o1 o2
             have q_hn8 : g5 ∉ ([gO12] ++ blkL ao163) ++ (M) := fun h => (o2 g5 h).elim hn8 (fun h => absurd (lt_cell (hE7 0 _ rfl)) (Nat.not_lt.2 h))
             have hn8 := q_hn8
             have hM : MS (([gO12] ++ blkL ao163) ++ (M)) wx160 := (MS.app (fun x h => hM.chg (Chg.refl [] _) x (ml h)) (fun x h => hM.chg (Chg.refl [] _) x (mr (mr (h)))))
             exact ⟨kk, Nat.lt_succ_self _, ⟨s160.1, IntKind.i64.wrap (x34 + (1 : Int)), ao163, cap163, H, (ha.sel (by kernel_rfl)), f2, f163, hE7, hn8, e_i163, p_i163_M, hC, hM⟩⟩
           have Hc160 := H
           have H := H160
           refine wp_loop_ghost (fun kk a w160 => ∃ (x161 : Int) (x162 : Int), vinerylaw20_JoinsKeeps.l5 a1 x33 t157 kk x161 x162 = some s160 ∧ Has a Tryz.f6.ntmps [(2, .slice ao2 a2.length cap2), (4, .pointer (some ⟨g5, 0, none⟩)), (8, .pointer (some ⟨gO12, 0, none⟩)), (10, .int .i64 x34), (12, .int .i64 x161), (13, .slice ao157 t157.length cap157), (14, .int .i64 x162)] ∧ (RSl rS_vinerylaw20_Act 46 w160 (blkL ao157 ++ ([g54] ++ (([gO12] ++ blkL ao32) ++ (M)))) ao2 cap2 a2) ∧ (Own rS_api_Join 38 w160 (blkL ao157 ++ ([g54] ++ (([gO12] ++ blkL ao32) ++ (M)))) ao157 cap157 t157) ∧ (Box w160 g54 (cS_vinerylaw20_Act (rd a2 x34))) ∧ (JAt w160 gO12 ao32 x33) ∧ (∀ j v, (cS_api_Join a1)[j]? = some v → w160.cell? ⟨g5, 0 + j, none⟩ = some v) ∧ (g5 ∉ (blkL ao157 ++ ([g54] ++ (([gO12] ++ blkL ao32) ++ (M))))) ∧ (Chg [] w w160) ∧ (MS (blkL ao157 ++ ([g54] ++ (([gO12] ++ blkL ao32) ++ (M)))) w160)) k ?_ ?_
           ·skip
            exact ⟨(0 : Int), (0 : Int), H, (ha.sel (by kernel_rfl)), f2, f157, hBg54, f32, hE7, hn8, hC, hM⟩
           ·rintro kk a w160 ⟨x161, x162, H, ha, f2, f157, hBg54, f32, hE7, hn8, hC, hM⟩
            obtain _ | kk := kk
            ·exact nomatch (show none = some _ from H)
            rw [vinerylaw20_JoinsKeeps.l5] at H
            refine wp_seq_k fun K167 hK167 => ?_
            refine wp_seq_k fun K168 hK168 => ?_
            refine wp_region_lit ?_
            refine seg ha 4 [(2, .slice ao2 a2.length cap2), (4, .pointer (some ⟨g5, 0, none⟩)), (8, .pointer (some ⟨gO12, 0, none⟩)), (10, .int .i64 x34), (12, .int .i64 x161), (13, .slice ao157 t157.length cap157), (14, .int .i64 x162), (112, .bool (decide (x162 < (t157.length : Int))))] (by kernel_rfl) fun a ha => ?_
            refine hK168 _ _ ?_; try clear hK168 K168
            refine cnd ha rfl (fun hc169 => ?_) (fun hc169 => ?_)
            ·have H := ite_t hc169 H
             refine wp_skip ?_
             refine hK167 _ _ ?_; try clear hK167 K167
             refine wp_seq_k fun K170 hK170 => ?_
             refine wp_block ?_
             refine wp_seq_k fun K171 hK171 => ?_
             refine drq0 (fun w' => Chg [] w160 w') (by kernel_rfl) (by kernel_rfl) (fun _ h => h) ?_
             refine qp 0 (.slice ao157 t157.length cap157) ha rfl rfl rfl (by kernel_rfl) fun a ha => ?_
             refine qp 0 (.int .i64 x162) ha rfl rfl rfl (by kernel_rfl) fun a ha => ?_
             obtain ⟨⟨hx172, hx172'⟩, H⟩ := ite_some H
             obtain ⟨ge173, oe1740, cs175, hx172eq, hn178, hR176, hE177⟩ := RSl.elem (Own.toRSl (M' := []) f157 (Ok.nil _ _) (fun _ _ h => nomatch h)) (Int.toNat x162) (by omega)
             rw [rd_get] at hR176
             obtain rfl := rS_api_Join.open hR176
             refine qv (v := .pointer (some ⟨ge173, (oe1740 + (Int.toNat x162) * rS_api_Join.sz), none⟩)) ha rfl rfl rfl (fun w' hs => ix_run (r := rS_api_Join) (T := 38) ha (by kernel_rfl) (by kernel_rfl) (by rfl) (by rfl) hx172eq hx172 hx172') fun a ha => ?_
             refine qv (v := .agg (cS_api_Join (rd t157 x162)).toArray) ha rfl rfl rfl (fun w' hs => ldA_run (cs := (cS_api_Join (rd t157 x162))) ha rfl (by kernel_rfl) (cells_sub (fun j v hv => hs.keep (hE177 j v hv)) (all := (cS_api_Join (rd t157 x162))) [] [] (by kernel_rfl))) fun a ha => ?_
             refine qv (v := .agg (cS_api_Join a1).toArray) ha rfl rfl rfl (fun w' hs => ldA_run (cs := (cS_api_Join a1)) ha rfl (by kernel_rfl) (cells_sub (fun j v hv => hs.keep (hE7 j v hv)) (all := (cS_api_Join a1)) [] [] (by kernel_rfl))) fun a ha => ?_
             refine qv (v := .bool (((bstr ((rd t157 x162).Vrf)).toList == (bstr a1.Vrf).toList) && (((bstr ((rd t157 x162).Iface)).toList == (bstr a1.Iface).toList) && ((((((rd t157 x162).Source).Size) == a1.Source.Size) && ((eqA 16 (((rd t157 x162).Source).B) a1.Source.B) && true)) && ((((((rd t157 x162).Group).Size) == a1.Group.Size) && ((eqA 16 (((rd t157 x162).Group).B) a1.Group.B) && true)) && true))))) ha rfl rfl rfl (fun w' hs => eqs_run (r := (((bstr ((rd t157 x162).Vrf)).toList == (bstr a1.Vrf).toList) && (((bstr ((rd t157 x162).Iface)).toList == (bstr a1.Iface).toList) && ((((((rd t157 x162).Source).Size) == a1.Source.Size) && ((eqA 16 (((rd t157 x162).Source).B) a1.Source.B) && true)) && ((((((rd t157 x162).Group).Size) == a1.Group.Size) && ((eqA 16 (((rd t157 x162).Group).B) a1.Group.B) && true)) && true))))) (m := 9) ha rfl rfl (by kernel_rfl) rfl (by kernel_rfl) w') fun a ha => ?_
             refine wpQuiet_nil ?_
             intro w179 hc180
             have o1 : Ok [] (blkL ao157 ++ ([g54] ++ (([gO12] ++ blkL ao32) ++ (M)))) w160.heap.size := Ok.nil _ _
             have o2 : Ok (blkL ao157 ++ ([g54] ++ (([gO12] ++ blkL ao32) ++ (M)))) (blkL ao157 ++ ([g54] ++ (([gO12] ++ blkL ao32) ++ (M)))) w160.heap.size := (Ok.refl _ _)
             have f2 := f2.chg hc180 o1 o2
             have f157 := f157.chg hc180 o1 o2 (fun _ _ h => nomatch h) (fun _ h => ml h)
             have hBg54 := hBg54.chg hc180 (fun h => nomatch h)
             have f32 := f32.chg hc180 (fun _ _ h => nomatch h)
             have q_hn8 : g5 ∉ blkL ao157 ++ ([g54] ++ (([gO12] ++ blkL ao32) ++ (M))) := fun h => (o2 g5 h).elim hn8 (fun h => absurd (lt_cell (hE7 0 _ rfl)) (Nat.not_lt.2 h))
             have hE7 : ∀ j v, (cS_api_Join a1)[j]? = some v → w179.cell? ⟨g5, 0 + j, none⟩ = some v := fun j v hv => (cell_keep hc180 o1 hn8 (hE7 j v hv))
             have hn8 := q_hn8
             have hM : MS (blkL ao157 ++ ([g54] ++ (([gO12] ++ blkL ao32) ++ (M)))) w179 := (hM.chg hc180)
             have hC := hC.trans hc180 (Ok.nil _ _)
             refine wpl_end ?_
             refine hK171 _ _ ?_; try clear hK171 K171
             refine cnd ha rfl (fun hc181 => ?_) (fun hc181 => ?_)
             ·have H := ite_t hc181 H
              refine wp_region_lit ?_
              refine seg ha 3 [(2, .slice ao2 a2.length cap2), (4, .pointer (some ⟨g5, 0, none⟩)), (8, .pointer (some ⟨gO12, 0, none⟩)), (10, .int .i64 x34), (12, .int .i64 (IntKind.i64.wrap (x161 + (1 : Int)))), (13, .slice ao157 t157.length cap157), (14, .int .i64 x162)] (by kernel_rfl) fun a ha => ?_
              refine hK170 _ _ ?_; try clear hK170 K170
              refine wp_region_lit ?_
              refine seg ha 3 [(2, .slice ao2 a2.length cap2), (4, .pointer (some ⟨g5, 0, none⟩)), (8, .pointer (some ⟨gO12, 0, none⟩)), (10, .int .i64 x34), (12, .int .i64 (IntKind.i64.wrap (x161 + (1 : Int)))), (13, .slice ao157 t157.length cap157), (14, .int .i64 (IntKind.i64.wrap (x162 + (1 : Int))))] (by kernel_rfl) fun a ha => ?_
              exact ⟨kk, Nat.lt_succ_self _, ⟨IntKind.i64.wrap (x161 + (1 : Int)), IntKind.i64.wrap (x162 + (1 : Int)), H, (ha.sel (by kernel_rfl)), f2, f157, hBg54, f32, hE7, hn8, hC, hM⟩⟩
             ·have H := ite_f hc181 H
              refine wp_skip ?_
              refine hK170 _ _ ?_; try clear hK170 K170
              refine wp_region_lit ?_
              refine seg ha 3 [(2, .slice ao2 a2.length cap2), (4, .pointer (some ⟨g5, 0, none⟩)), (8, .pointer (some ⟨gO12, 0, none⟩)), (10, .int .i64 x34), (12, .int .i64 x161), (13, .slice ao157 t157.length cap157), (14, .int .i64 (IntKind.i64.wrap (x162 + (1 : Int))))] (by kernel_rfl) fun a ha => ?_
              exact ⟨kk, Nat.lt_succ_self _, ⟨x161, IntKind.i64.wrap (x162 + (1 : Int)), H, (ha.sel (by kernel_rfl)), f2, f157, hBg54, f32, hE7, hn8, hC, hM⟩⟩
            ·have H := ite_f hc169 H
             refine wp_exit ?_
             simp only [Exit.then, Exit.inBlock, ↓reduceIte, Nat.reduceEqDiff]
             obtain rfl := Option.some.inj H
             have o1 : Ok [] (blkL ao157 ++ ([g54] ++ (([gO12] ++ blkL ao32) ++ (M)))) w160.heap.size := Ok.nil _ _
             have o2 : Ok (([gO12] ++ blkL ao32) ++ ([g54] ++ (M))) (blkL ao157 ++ ([g54] ++ (([gO12] ++ blkL ao32) ++ (M)))) w160.heap.size := (Ok.app (fun _ h => .inl (mr (mr (ml h)))) (Ok.app (fun _ h => .inl (mr (ml h))) (fun _ h => .inl (mr (mr (mr (h)))))))
             have f2 := f2.chg (Chg.refl [] _) o1 o2
             have q_hn8 : g5 ∉ ([gO12] ++ blkL ao32) ++ ([g54] ++ (M)) := fun h => (o2 g5 h).elim hn8 (fun h => absurd (lt_cell (hE7 0 _ rfl)) (Nat.not_lt.2 h))
             have hn8 := q_hn8
             have hM : MS (([gO12] ++ blkL ao32) ++ ([g54] ++ (M))) w160 := (MS.app (fun x h => hM.chg (Chg.refl [] _) x (mr (mr (ml h)))) (MS.app (fun x h => hM.chg (Chg.refl [] _) x (mr (ml h))) (fun x h => hM.chg (Chg.refl [] _) x (mr (mr (mr (h)))))))
             exact J160 _ _ ao32 cap32 (ha.sel (by kernel_rfl)) f2 hBg54 f32 hE7 hn8 e_i32 (fun x hx hy => p_i56_i32 x hy hx) p_i32_M hC hM
      have H := H61
      refine seg ha 1 [(2, .slice ao2 a2.length cap2), (4, .pointer (some ⟨g5, 0, none⟩)), (8, .pointer (some ⟨gO12, 0, none⟩)), (10, .int .i64 x34), (11, .pointer (some ⟨g54, 0, none⟩)), (64, .pointer (some ⟨g54, 0, none⟩))] (by kernel_rfl) fun a ha => ?_
      refine ld (v := .int .i64 ((rd a2 x34).Do)) ha rfl (by kernel_rfl) rfl rfl rfl (hBg54.cell' (o := 0) rfl (by kernel_rfl)) fun a ha => ?_
      refine seg ha 2 [(67, .bool (((rd a2 x34).Do) == (1 : Int))), (2, .slice ao2 a2.length cap2), (4, .pointer (some ⟨g5, 0, none⟩)), (8, .pointer (some ⟨gO12, 0, none⟩)), (10, .int .i64 x34), (11, .pointer (some ⟨g54, 0, none⟩))] (by kernel_rfl) fun a ha => ?_
      rcases Bool.eq_false_or_eq_true (((rd a2 x34).Do) == (1 : Int)) with hb182 | hb182
      ·have ha := ha.lit hb182
       have H := ite_t hb182 H
       refine sgh ha 1 [2] [(2, .slice ao2 a2.length cap2), (4, .pointer (some ⟨g5, 0, none⟩)), (8, .pointer (some ⟨gO12, 0, none⟩)), (10, .int .i64 x34), (11, .pointer (some ⟨g54, 0, none⟩)), (67, .bool true), (68, .pointer (some ⟨g54, 1, none⟩))] (by kernel_rfl) fun a ha => ?_
       refine ldA (cs := (cS_api_Join ((rd a2 x34).J))) ha rfl (by kernel_rfl) rfl rfl rfl (cells_sub (Box.cells hBg54) (all := (cS_vinerylaw20_Act (rd a2 x34))) [.int .i64 ((rd a2 x34).Do)] [] (by kernel_rfl)) fun a ha => ?_
       refine ldA (cs := (cS_api_Join a1)) ha rfl (by kernel_rfl) rfl rfl rfl (cells_sub hE7 (all := (cS_api_Join a1)) [] [] (by kernel_rfl)) fun a ha => ?_
       refine hop (v := .bool (((bstr (((rd a2 x34).J).Vrf)).toList == (bstr a1.Vrf).toList) && (((bstr (((rd a2 x34).J).Iface)).toList == (bstr a1.Iface).toList) && (((((((rd a2 x34).J).Source).Size) == a1.Source.Size) && ((eqA 16 ((((rd a2 x34).J).Source).B) a1.Source.B) && true)) && (((((((rd a2 x34).J).Group).Size) == a1.Group.Size) && ((eqA 16 ((((rd a2 x34).J).Group).B) a1.Group.B) && true)) && true))))) (w' := w57) ha rfl rfl rfl (eqs_run (r := (((bstr (((rd a2 x34).J).Vrf)).toList == (bstr a1.Vrf).toList) && (((bstr (((rd a2 x34).J).Iface)).toList == (bstr a1.Iface).toList) && (((((((rd a2 x34).J).Source).Size) == a1.Source.Size) && ((eqA 16 ((((rd a2 x34).J).Source).B) a1.Source.B) && true)) && (((((((rd a2 x34).J).Group).Size) == a1.Group.Size) && ((eqA 16 ((((rd a2 x34).J).Group).B) a1.Group.B) && true)) && true))))) (m := 9) ha rfl rfl (by kernel_rfl) rfl (by kernel_rfl) _) fun a ha => ?_
       refine sgh ha 2 [3, 0] [(73, .bool (((bstr (((rd a2 x34).J).Vrf)).toList == (bstr a1.Vrf).toList) && (((bstr (((rd a2 x34).J).Iface)).toList == (bstr a1.Iface).toList) && (((((((rd a2 x34).J).Source).Size) == a1.Source.Size) && ((eqA 16 ((((rd a2 x34).J).Source).B) a1.Source.B) && true)) && (((((((rd a2 x34).J).Group).Size) == a1.Group.Size) && ((eqA 16 ((((rd a2 x34).J).Group).B) a1.Group.B) && true)) && true))))), (2, .slice ao2 a2.length cap2), (4, .pointer (some ⟨g5, 0, none⟩)), (8, .pointer (some ⟨gO12, 0, none⟩)), (10, .int .i64 x34), (11, .pointer (some ⟨g54, 0, none⟩))] (by kernel_rfl) fun a ha => ?_
       rcases Bool.eq_false_or_eq_true ((((bstr (((rd a2 x34).J).Vrf)).toList == (bstr a1.Vrf).toList) && (((bstr (((rd a2 x34).J).Iface)).toList == (bstr a1.Iface).toList) && (((((((rd a2 x34).J).Source).Size) == a1.Source.Size) && ((eqA 16 ((((rd a2 x34).J).Source).B) a1.Source.B) && true)) && (((((((rd a2 x34).J).Group).Size) == a1.Group.Size) && ((eqA 16 ((((rd a2 x34).J).Group).B) a1.Group.B) && true)) && true))))) with hb183 | hb183
       ·have ha := ha.lit hb183
        have H := ite_t hb183 H
        refine sgh ha 12 [1, 1, 1, 1, 1, 1, 1, 1, 1, 1, 1, 3] [(2, .slice ao2 a2.length cap2), (4, .pointer (some ⟨g5, 0, none⟩)), (8, .pointer (some ⟨gO12, 0, none⟩)), (10, .int .i64 x34), (11, .pointer (some ⟨g54, 0, none⟩)), (85, .bool true)] (by kernel_rfl) fun a ha => ?_
        obtain rfl := Option.some.inj H
        exact J61 _ _ (ha.sel (by kernel_rfl)) f2 hBg54 f32 hE7 hn8 hC hM
       ·have ha := ha.lit hb183
        have H := ite_f hb183 H
        refine sgh ha 1 [2] [(2, .slice ao2 a2.length cap2), (4, .pointer (some ⟨g5, 0, none⟩)), (8, .pointer (some ⟨gO12, 0, none⟩)), (10, .int .i64 x34), (11, .pointer (some ⟨g54, 0, none⟩)), (73, .bool false), (74, .pointer (some ⟨g54, 0, none⟩))] (by kernel_rfl) fun a ha => ?_
        refine ld (v := .int .i64 ((rd a2 x34).Do)) ha rfl (by kernel_rfl) rfl rfl rfl (hBg54.cell' (o := 0) rfl (by kernel_rfl)) fun a ha => ?_
        refine sgh ha 2 [2, 2] [(77, .bool (((rd a2 x34).Do) == (2 : Int))), (2, .slice ao2 a2.length cap2), (4, .pointer (some ⟨g5, 0, none⟩)), (8, .pointer (some ⟨gO12, 0, none⟩)), (10, .int .i64 x34), (11, .pointer (some ⟨g54, 0, none⟩)), (73, .bool false)] (by kernel_rfl) fun a ha => ?_
        rcases Bool.eq_false_or_eq_true (((rd a2 x34).Do) == (2 : Int)) with hb184 | hb184
        ·have ha := ha.lit hb184
         have H := ite_t hb184 H
         refine sgh ha 2 [2, 2] [(2, .slice ao2 a2.length cap2), (4, .pointer (some ⟨g5, 0, none⟩)), (8, .pointer (some ⟨gO12, 0, none⟩)), (10, .int .i64 x34), (11, .pointer (some ⟨g54, 0, none⟩)), (73, .bool false), (77, .bool true), (79, .pointer (some ⟨g54, 1, none⟩))] (by kernel_rfl) fun a ha => ?_
         refine ld (v := .string (bstr (((rd a2 x34).J).Vrf))) ha rfl (by kernel_rfl) rfl rfl rfl (hBg54.cell' (o := 1) rfl (by kernel_rfl)) fun a ha => ?_
         refine sgh ha 1 [2] [(2, .slice ao2 a2.length cap2), (4, .pointer (some ⟨g5, 0, none⟩)), (8, .pointer (some ⟨gO12, 0, none⟩)), (10, .int .i64 x34), (11, .pointer (some ⟨g54, 0, none⟩)), (73, .bool false), (77, .bool true), (80, .string (bstr (((rd a2 x34).J).Vrf))), (81, .pointer (some ⟨g5, 0, none⟩))] (by kernel_rfl) fun a ha => ?_
         refine ld ha rfl (by kernel_rfl) rfl rfl rfl (hE7 0 (.string (bstr a1.Vrf)) (by kernel_rfl)) fun a ha => ?_
         refine sgh ha 3 [2, 5, 4] [(2, .slice ao2 a2.length cap2), (4, .pointer (some ⟨g5, 0, none⟩)), (8, .pointer (some ⟨gO12, 0, none⟩)), (10, .int .i64 x34), (11, .pointer (some ⟨g54, 0, none⟩)), (85, .bool ((bstr (((rd a2 x34).J).Vrf)).toList == (bstr a1.Vrf).toList))] (by kernel_rfl) fun a ha => ?_
         obtain rfl := Option.some.inj H
         exact J61 _ _ (ha.sel (by kernel_rfl)) f2 hBg54 f32 hE7 hn8 hC hM
        ·have ha := ha.lit hb184
         have H := ite_f hb184 H
         refine sgh ha 8 [1, 1, 1, 1, 1, 1, 6, 4] [(2, .slice ao2 a2.length cap2), (4, .pointer (some ⟨g5, 0, none⟩)), (8, .pointer (some ⟨gO12, 0, none⟩)), (10, .int .i64 x34), (11, .pointer (some ⟨g54, 0, none⟩)), (85, .bool false)] (by kernel_rfl) fun a ha => ?_
         obtain rfl := Option.some.inj H
         exact J61 _ _ (ha.sel (by kernel_rfl)) f2 hBg54 f32 hE7 hn8 hC hM
      ·have ha := ha.lit hb182
       have H := ite_f hb182 H
       refine sgh ha 7 [1, 1, 1, 1, 4, 0, 2] [(2, .slice ao2 a2.length cap2), (4, .pointer (some ⟨g5, 0, none⟩)), (8, .pointer (some ⟨gO12, 0, none⟩)), (10, .int .i64 x34), (11, .pointer (some ⟨g54, 0, none⟩)), (73, .bool false), (74, .pointer (some ⟨g54, 0, none⟩))] (by kernel_rfl) fun a ha => ?_
       refine ld (v := .int .i64 ((rd a2 x34).Do)) ha rfl (by kernel_rfl) rfl rfl rfl (hBg54.cell' (o := 0) rfl (by kernel_rfl)) fun a ha => ?_
       refine sgh ha 2 [2, 2] [(77, .bool (((rd a2 x34).Do) == (2 : Int))), (2, .slice ao2 a2.length cap2), (4, .pointer (some ⟨g5, 0, none⟩)), (8, .pointer (some ⟨gO12, 0, none⟩)), (10, .int .i64 x34), (11, .pointer (some ⟨g54, 0, none⟩)), (73, .bool false)] (by kernel_rfl) fun a ha => ?_
       rcases Bool.eq_false_or_eq_true (((rd a2 x34).Do) == (2 : Int)) with hb185 | hb185
       ·have ha := ha.lit hb185
        have H := ite_t hb185 H
        refine sgh ha 2 [2, 2] [(2, .slice ao2 a2.length cap2), (4, .pointer (some ⟨g5, 0, none⟩)), (8, .pointer (some ⟨gO12, 0, none⟩)), (10, .int .i64 x34), (11, .pointer (some ⟨g54, 0, none⟩)), (73, .bool false), (77, .bool true), (79, .pointer (some ⟨g54, 1, none⟩))] (by kernel_rfl) fun a ha => ?_
        refine ld (v := .string (bstr (((rd a2 x34).J).Vrf))) ha rfl (by kernel_rfl) rfl rfl rfl (hBg54.cell' (o := 1) rfl (by kernel_rfl)) fun a ha => ?_
        refine sgh ha 1 [2] [(2, .slice ao2 a2.length cap2), (4, .pointer (some ⟨g5, 0, none⟩)), (8, .pointer (some ⟨gO12, 0, none⟩)), (10, .int .i64 x34), (11, .pointer (some ⟨g54, 0, none⟩)), (73, .bool false), (77, .bool true), (80, .string (bstr (((rd a2 x34).J).Vrf))), (81, .pointer (some ⟨g5, 0, none⟩))] (by kernel_rfl) fun a ha => ?_
        refine ld ha rfl (by kernel_rfl) rfl rfl rfl (hE7 0 (.string (bstr a1.Vrf)) (by kernel_rfl)) fun a ha => ?_
        refine sgh ha 3 [2, 5, 4] [(2, .slice ao2 a2.length cap2), (4, .pointer (some ⟨g5, 0, none⟩)), (8, .pointer (some ⟨gO12, 0, none⟩)), (10, .int .i64 x34), (11, .pointer (some ⟨g54, 0, none⟩)), (85, .bool ((bstr (((rd a2 x34).J).Vrf)).toList == (bstr a1.Vrf).toList))] (by kernel_rfl) fun a ha => ?_
        obtain rfl := Option.some.inj H
        exact J61 _ _ (ha.sel (by kernel_rfl)) f2 hBg54 f32 hE7 hn8 hC hM
       ·have ha := ha.lit hb185
        have H := ite_f hb185 H
        refine sgh ha 8 [1, 1, 1, 1, 1, 1, 6, 4] [(2, .slice ao2 a2.length cap2), (4, .pointer (some ⟨g5, 0, none⟩)), (8, .pointer (some ⟨gO12, 0, none⟩)), (10, .int .i64 x34), (11, .pointer (some ⟨g54, 0, none⟩)), (85, .bool false)] (by kernel_rfl) fun a ha => ?_
        obtain rfl := Option.some.inj H
        exact J61 _ _ (ha.sel (by kernel_rfl)) f2 hBg54 f32 hE7 hn8 hC hM
     ·have H := ite_f hc43 H
      refine wp_exit ?_
      simp only [Exit.then, Exit.inBlock, ↓reduceIte, Nat.reduceEqDiff]
      obtain rfl := Option.some.inj H
      exact J31 _ _ _ ao32 cap32 rfl (ha.sel (by kernel_rfl)) f32 hE7 hn8 e_i32 p_i32_M hC hM
  have Hc19 := H
  have H := H19
  refine wp_loop_ghost (fun kk a w19 => ∃ (x21 : S_joins_Joins) (x22 : Int) (ao20 : Option Addr) (cap20 : Nat), vinerylaw20_JoinsKeeps.l0 k a0 kk x21 x22 = some s19 ∧ Has a Tryz.f6.ntmps [(0, .slice ao1 a0.length cap1), (2, .slice ao2 a2.length cap2), (4, .pointer (some ⟨g5, 0, none⟩)), (8, .pointer (some ⟨gO12, 0, none⟩)), (9, .int .i64 x22)] ∧ (RSl rS_vinerylaw20_Act 46 w19 (([gO12] ++ blkL ao20) ++ (M)) ao1 cap1 a0) ∧ (RSl rS_vinerylaw20_Act 46 w19 (([gO12] ++ blkL ao20) ++ (M)) ao2 cap2 a2) ∧ (JAt w19 gO12 ao20 x21) ∧ (∀ j v, (cS_api_Join a1)[j]? = some v → w19.cell? ⟨g5, 0 + j, none⟩ = some v) ∧ (g5 ∉ (([gO12] ++ blkL ao20) ++ (M))) ∧ (∀ x ∈ ([gO12] ++ blkL ao20), w.heap.size ≤ x) ∧ (∀ x ∈ ([gO12] ++ blkL ao20), x ∉ M) ∧ (Chg [] w w19) ∧ (MS (([gO12] ++ blkL ao20) ++ (M)) w19)) k ?_ ?_
  ·skip
   exact ⟨t12, (0 : Int), none, 0, H, (ha.sel (by kernel_rfl)), f1, f2, fO12, hE7, hn8, e_i12, p_i12_M, hC, hM⟩
  ·rintro kk a w19 ⟨x21, x22, ao20, cap20, H, ha, f1, f2, f20, hE7, hn8, e_i20, p_i20_M, hC, hM⟩
   obtain _ | kk := kk
   ·exact nomatch (show none = some _ from H)
   rw [vinerylaw20_JoinsKeeps.l0] at H
   refine wp_seq_k fun K186 hK186 => ?_
   refine wp_seq_k fun K187 hK187 => ?_
   refine wp_region_lit ?_
   refine seg ha 8 [(0, .slice ao1 a0.length cap1), (2, .slice ao2 a2.length cap2), (4, .pointer (some ⟨g5, 0, none⟩)), (8, .pointer (some ⟨gO12, 0, none⟩)), (9, .int .i64 x22), (30, .bool (if (decide (x22 < (a0.length : Int))) = true then (decide (x22 < (60 : Int))) else false))] (by kernel_rfl) fun a ha => ?_
   refine hK187 _ _ ?_; try clear hK187 K187
   refine cnd ha rfl (fun hc188 => ?_) (fun hc188 => ?_)
   ·have H := ite_t hc188 H
    refine wp_skip ?_
    refine hK186 _ _ ?_; try clear hK186 K186
    refine wp_seq_k fun K189 hK189 => ?_
    refine wp_block ?_
    refine wp_seq_k fun K190 hK190 => ?_
    refine wp_region_lit ?_
    refine seg ha 2 [(0, .slice ao1 a0.length cap1), (2, .slice ao2 a2.length cap2), (4, .pointer (some ⟨g5, 0, none⟩)), (8, .pointer (some ⟨gO12, 0, none⟩)), (9, .int .i64 x22), (33, .slice ao1 a0.length cap1), (34, .int .i64 x22)] (by kernel_rfl) fun a ha => ?_
    obtain ⟨⟨hx191, hx191'⟩, H⟩ := ite_some H
    refine ix (r := rS_vinerylaw20_Act) ha (by kernel_rfl) (by kernel_rfl) rfl rfl rfl rfl rfl f1 hx191 hx191' fun a ge192 oe193 cs194 hn197 hR195 hE196 ha => ?_
    rw [rd_get] at hR195
    obtain rfl := rS_vinerylaw20_Act.open hR195
    refine seg ha 1 [(0, .slice ao1 a0.length cap1), (2, .slice ao2 a2.length cap2), (4, .pointer (some ⟨g5, 0, none⟩)), (8, .pointer (some ⟨gO12, 0, none⟩)), (9, .int .i64 x22), (36, .pointer (some ⟨ge192, oe193, none⟩))] (by kernel_rfl) fun a ha => ?_
    refine ld ha rfl (by kernel_rfl) rfl rfl rfl (hE196 0 (.int .i64 ((rd a0 x22).Do)) (by kernel_rfl)) fun a ha => ?_
    refine seg ha 1 [(0, .slice ao1 a0.length cap1), (2, .slice ao2 a2.length cap2), (4, .pointer (some ⟨g5, 0, none⟩)), (8, .pointer (some ⟨gO12, 0, none⟩)), (9, .int .i64 x22), (38, .bool (((rd a0 x22).Do) == (0 : Int)))] (by kernel_rfl) fun a ha => ?_
    refine hK190 _ _ ?_; try clear hK190 K190
    refine cnd ha rfl (fun hc198 => ?_) (fun hc198 => ?_)
    ·have H := ite_t hc198 H
     refine wp_region_lit ?_
     refine seg ha 3 [(0, .slice ao1 a0.length cap1), (2, .slice ao2 a2.length cap2), (4, .pointer (some ⟨g5, 0, none⟩)), (8, .pointer (some ⟨gO12, 0, none⟩)), (9, .int .i64 x22), (39, .pointer (some ⟨gO12, 0, none⟩)), (40, .slice ao1 a0.length cap1), (41, .int .i64 x22)] (by kernel_rfl) fun a ha => ?_
     obtain ⟨⟨hx199, hx199'⟩, H⟩ := ite_some H
     refine ix (r := rS_vinerylaw20_Act) ha (by kernel_rfl) (by kernel_rfl) rfl rfl rfl rfl rfl f1 hx199 hx199' fun a ge200 oe201 cs202 hn205 hR203 hE204 ha => ?_
     rw [rd_get] at hR203
     obtain rfl := rS_vinerylaw20_Act.open hR203
     refine seg ha 1 [(0, .slice ao1 a0.length cap1), (2, .slice ao2 a2.length cap2), (4, .pointer (some ⟨g5, 0, none⟩)), (8, .pointer (some ⟨gO12, 0, none⟩)), (9, .int .i64 x22), (39, .pointer (some ⟨gO12, 0, none⟩)), (43, .pointer (some ⟨ge200, oe201 + 1, none⟩))] (by kernel_rfl) fun a ha => ?_
     refine ldA (cs := (cS_api_Join ((rd a0 x22).J))) ha rfl (by kernel_rfl) rfl rfl rfl (cells_sub hE204 (all := (cS_vinerylaw20_Act (rd a0 x22))) [.int .i64 ((rd a0 x22).Do)] [] (by kernel_rfl)) fun a ha => ?_
     obtain ⟨t206, H206, H⟩ := bind_some H
     refine cl ha (by rfl) (by kernel_rfl) (by rfl) (by rfl) (by rfl) (Jn_Add.walk w19 _ hM gO12 ao20 x21 f20 (fun _ h => ml h) ((rd a0 x22).J) k _ H206) ?_
     rintro _ w206 ⟨ao206, rfl, nf206, hc206, hk206, hl206⟩ a ha
     have o1 : Ok ([gO12] ++ blkL ao20) (([gO12] ++ blkL ao20) ++ (M)) w19.heap.size := (fun _ h => .inl (ml h))
     have o2 : Ok (([gO12] ++ blkL ao206) ++ (M)) (([gO12] ++ blkL ao20) ++ (M)) w19.heap.size := (Ok.app (Ok.to hk206 (fun _ h => ml h)) (fun _ h => .inl (mr (h))))
     have f1 := f1.chg hc206 o1 o2
     have f2 := f2.chg hc206 o1 o2
     have q_hn8 : g5 ∉ ([gO12] ++ blkL ao206) ++ (M) := fun h => (o2 g5 h).elim hn8 (fun h => absurd (lt_cell (hE7 0 _ rfl)) (Nat.not_lt.2 h))
     have hE7 : ∀ j v, (cS_api_Join a1)[j]? = some v → w206.cell? ⟨g5, 0 + j, none⟩ = some v := fun j v hv => (cell_keep hc206 o1 hn8 (hE7 j v hv))
     have hn8 := q_hn8
     have p_i206_M : ∀ x ∈ ([gO12] ++ blkL ao206), x ∉ M := fun x hx hy => (hk206 x hx).elim (fun h => p_i20_M x h hy) (fun h => absurd (hM x (mr (hy))) (Nat.not_lt.2 h))
     have e_i206 : ∀ x ∈ ([gO12] ++ blkL ao206), w.heap.size ≤ x := fun x hx => (hk206 x hx).elim (e_i20 x) (Nat.le_trans hC.size)
     have hM : MS (([gO12] ++ blkL ao206) ++ (M)) w206 := (MS.app (fun x h => hl206 x (ml h)) (fun x h => hM.chg hc206 x (mr (h))))
     have hC := hC.trans hc206 (fun x h => .inr (e_i20 x h))
     have fO206 := nf206
     refine hK189 _ _ ?_; try clear hK189 K189
     refine wp_region_lit ?_
     refine seg ha 3 [(0, .slice ao1 a0.length cap1), (2, .slice ao2 a2.length cap2), (4, .pointer (some ⟨g5, 0, none⟩)), (8, .pointer (some ⟨gO12, 0, none⟩)), (9, .int .i64 (IntKind.i64.wrap (x22 + (1 : Int))))] (by kernel_rfl) fun a ha => ?_
     exact ⟨kk, Nat.lt_succ_self _, ⟨t206.2, IntKind.i64.wrap (x22 + (1 : Int)), ao206, cap20, H, (ha.sel (by kernel_rfl)), f1, f2, fO206, hE7, hn8, e_i206, p_i206_M, hC, hM⟩⟩
    ·have H := ite_f hc198 H
     refine wp_skip ?_
     refine hK189 _ _ ?_; try clear hK189 K189
     refine wp_region_lit ?_
     refine seg ha 3 [(0, .slice ao1 a0.length cap1), (2, .slice ao2 a2.length cap2), (4, .pointer (some ⟨g5, 0, none⟩)), (8, .pointer (some ⟨gO12, 0, none⟩)), (9, .int .i64 (IntKind.i64.wrap (x22 + (1 : Int))))] (by kernel_rfl) fun a ha => ?_
     exact ⟨kk, Nat.lt_succ_self _, ⟨x21, IntKind.i64.wrap (x22 + (1 : Int)), ao20, cap20, H, (ha.sel (by kernel_rfl)), f1, f2, f20, hE7, hn8, e_i20, p_i20_M, hC, hM⟩⟩
   ·have H := ite_f hc188 H
    refine wp_exit ?_
    simp only [Exit.then, Exit.inBlock, ↓reduceIte, Nat.reduceEqDiff]
    obtain rfl := Option.some.inj H
    exact J19 _ _ ao20 cap20 (ha.sel (by kernel_rfl)) f2 f20 hE7 hn8 e_i20 p_i20_M hC hM
end Go.E
