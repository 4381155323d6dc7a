/- What the functions that the law reaches compute, and the walks that show it. -/
import Derived.Test.YtoeenagdbjppgaaDoorEngO
import Derived.Test.YtoeenagdbjppgaaDoorEngX
import Derived.Test.YtoeenagdbjppgaaDoorProg
import Derived.Test.YtoeenagdbjppgaaDoorGenAttrOrdersP0
set_option linter.unusedVariables false
set_option linter.unusedSimpArgs false
namespace Go.E
open Go.RowKit Go.Proofs
def addr_Of.f (a0 : List Int) : Option (S_api_Addr × Int) := ((if ((a0.length : Int) == (0 : Int)) = true then some ((a0.length : Int) == (0 : Int) : Bool) else (if ((a0.length : Int) == (4 : Int)) = true then some ((a0.length : Int) == (4 : Int) : Bool) else some ((a0.length : Int) == (16 : Int) : Bool)))).bind fun s10 => (if s10 = true then some (((⟨(a0.length : Int), (arC 16 (List.replicate 16 (0 : Int)) a0)⟩ : S_api_Addr) : S_api_Addr), ((0 : Int) : Int)) else some (((⟨(0 : Int), (List.replicate 16 (0 : Int))⟩ : S_api_Addr) : S_api_Addr), ((1 : Int) : Int)))
set_option maxRecDepth 100000 in
theorem addr_Of.walk (w : World) (M : List Nat) (hM : MS M w) (a0 : List Int) (ao1 : Option Addr) (cap1 : Nat) (f1 : RSl (rInt .u8) 5 w M ao1 cap1 a0) (r : S_api_Addr × Int) (H : addr_Of.f a0 = some r) :
    To Tryd.prog 54 [.slice ao1 a0.length cap1] w fun v w' => v = .tuple #[.agg (cS_api_Addr r.1).toArray, .int .i64 r.2] ∧ Chg [] w w' ∧ MS (M) w' := by
 unfold addr_Of.f at H
 refine ent Tryd.func54 rfl [(0, .slice ao1 a0.length cap1)] rfl (by rfl) fun a ha => ?_
 have hC : Chg [] w w := Chg.refl _ _
 refine wp_seq_k fun K2 hK2 => ?_
 refine wp_region_lit ?_
 refine al (cs := (cS_api_Addr (⟨(0 : Int), (List.replicate 16 (0 : Int))⟩ : S_api_Addr))) (z := .agg (cS_api_Addr (⟨(0 : Int), (List.replicate 16 (0 : Int))⟩ : S_api_Addr)).toArray) ha (fun w => by kernel_rfl) rfl rfl rfl rfl fun a w3 g4 hN5 ha => ?_
 have o1 : Ok [] (M) w.heap.size := Ok.nil _ _
 have o2 : Ok ([g4] ++ (M)) (M) w.heap.size := (Ok.app (hN5.ok _) (Ok.refl _ _))
 have f1 := f1.chg hN5.chg o1 o2
 have p_i6_M : ∀ x ∈ [g4], x ∉ M := fun x hx hy => absurd (hM x (hy)) (Nat.not_lt.2 ((hN5.ge1) x hx))
 have e_i6 : ∀ x ∈ [g4], w.heap.size ≤ x := fun x hx => Nat.le_trans hC.size ((hN5.ge1) x hx)
 have hM : MS ([g4] ++ (M)) w3 := (MS.app hN5.ms (hM.chg hN5.chg))
 have hC := hC.trans hN5.chg (Ok.nil _ _)
 have hBg4 : Box w3 g4 (cS_api_Addr (⟨(0 : Int), (List.replicate 16 (0 : Int))⟩ : S_api_Addr)) := hN5.box
 refine seg ha 1 [(0, .slice ao1 a0.length cap1), (2, .pointer (some ⟨g4, 0, none⟩))] (by kernel_rfl) fun a ha => ?_
 refine hK2 _ _ ?_; try clear hK2 K2
 refine wp_seq_k fun K7 hK7 => ?_
 refine wp_seq_k fun K8 hK8 => ?_
 refine wp_region_lit ?_
 refine seg ha 2 [(0, .slice ao1 a0.length cap1), (2, .pointer (some ⟨g4, 0, none⟩)), (6, .int .i64 (a0.length : Int))] (by kernel_rfl) fun a ha => ?_
 refine hK8 _ _ ?_; try clear hK8 K8
 refine wp_block ?_
 refine wp_seq_k fun K9 hK9 => ?_
 obtain ⟨s10, H10, H⟩ := bind_some H
 have J10 : ∀ (a : Act) (w10 : World), Has a Tryd.f54.ntmps [(0, .slice ao1 a0.length cap1), (2, .pointer (some ⟨g4, 0, none⟩)), (7, .bool s10)] → (RSl (rInt .u8) 5 w10 ([g4] ++ (M)) ao1 cap1 a0) → (Box w10 g4 (cS_api_Addr (⟨(0 : Int), (List.replicate 16 (0 : Int))⟩ : S_api_Addr))) → (Chg [] w w10) → (MS ([g4] ++ (M)) w10) → K9 a w10 := by
  intro a w10 ha f1 hBg4 hC hM
  refine hK9 _ _ ?_; try clear hK9 K9
  refine cnd ha rfl (fun hc11 => ?_) (fun hc11 => ?_)
  ·have H := ite_t hc11 H
   refine wp_seq_k fun K12 hK12 => ?_
   refine wp_region_lit ?_
   refine seg ha 2 [(0, .slice ao1 a0.length cap1), (2, .pointer (some ⟨g4, 0, none⟩)), (12, .int .i64 (a0.length : Int))] (by kernel_rfl) fun a ha => ?_
   refine opk (v := .agg (cS_api_Addr (⟨(a0.length : Int), (List.replicate 16 (0 : Int))⟩ : S_api_Addr)).toArray) ha rfl rfl rfl rfl rfl (fun w => by kernel_rfl) fun a ha => ?_
   refine al (cs := (cS_api_Addr (⟨(0 : Int), (List.replicate 16 (0 : Int))⟩ : S_api_Addr))) (z := .agg (cS_api_Addr (⟨(0 : Int), (List.replicate 16 (0 : Int))⟩ : S_api_Addr)).toArray) ha (fun w => by kernel_rfl) rfl rfl rfl rfl fun a w13 g14 hN15 ha => ?_
   have o1 : Ok [] ([g4] ++ (M)) w10.heap.size := Ok.nil _ _
   have o2 : Ok ([g14] ++ ([g4] ++ (M))) ([g4] ++ (M)) w10.heap.size := (Ok.app (hN15.ok _) (Ok.refl _ _))
   have f1 := f1.chg hN15.chg o1 o2
   have hBg4 := hBg4.chg hN15.chg (fun h => nomatch h)
   have p_i16_i6 : ∀ x ∈ [g14], x ∉ ([g4]) := fun x hx hy => absurd (hM x (ml hy)) (Nat.not_lt.2 ((hN15.ge1) x hx))
   have p_i16_M : ∀ x ∈ [g14], x ∉ M := fun x hx hy => absurd (hM x (mr (hy))) (Nat.not_lt.2 ((hN15.ge1) x hx))
   have e_i16 : ∀ x ∈ [g14], w.heap.size ≤ x := fun x hx => Nat.le_trans hC.size ((hN15.ge1) x hx)
   have hM : MS ([g14] ++ ([g4] ++ (M))) w13 := (MS.app hN15.ms (hM.chg hN15.chg))
   have hC := hC.trans hN15.chg (Ok.nil _ _)
   have hBg14 : Box w13 g14 (cS_api_Addr (⟨(0 : Int), (List.replicate 16 (0 : Int))⟩ : S_api_Addr)) := hN15.box
   refine stA (l := (cS_api_Addr (⟨(a0.length : Int), (List.replicate 16 (0 : Int))⟩ : S_api_Addr))) ha rfl rfl rfl (by kernel_rfl) rfl rfl hBg14 rfl fun a w17 ha hb2 hc18 _ => ?_
   have o1 : Ok [g14] ([g14] ++ ([g4] ++ (M))) w13.heap.size := (fun _ h => .inl (ml h))
   have o2 : Ok ([g14] ++ ([g4] ++ (M))) ([g14] ++ ([g4] ++ (M))) w13.heap.size := (Ok.refl _ _)
   have f1 := f1.chg hc18 o1 o2
   have hBg4 := hBg4.chg hc18 ((fun x (hx : x ∈ [g4]) (hy : x ∈ [g14]) => p_i16_i6 x hy hx) g4 (by simp))
   have hM : MS ([g14] ++ ([g4] ++ (M))) w17 := (hM.chg hc18)
   have hC := hC.trans hc18 (fun x h => .inr (e_i16 x h))
   have hBg14 : Box w17 g14 (cS_api_Addr (⟨(a0.length : Int), (List.replicate 16 (0 : Int))⟩ : S_api_Addr)) := hb2
   refine hK12 _ _ ?_; try clear hK12 K12
   refine wp_seq_k fun K19 hK19 => ?_
   refine wp_region_lit ?_
   refine seg ha 1 [(0, .slice ao1 a0.length cap1), (2, .pointer (some ⟨g4, 0, none⟩)), (4, .pointer (some ⟨g14, 0, none⟩)), (14, .pointer (some ⟨g14, 1, none⟩))] (by kernel_rfl) fun a ha => ?_
   refine opk (v := .slice (some ⟨g14, 1, none⟩) 16 16) ha rfl rfl rfl rfl rfl (fun w => by kernel_rfl) fun a ha => ?_
   refine seg ha 1 [(2, .pointer (some ⟨g4, 0, none⟩)), (4, .pointer (some ⟨g14, 0, none⟩)), (15, .slice (some ⟨g14, 1, none⟩) 16 16), (16, .slice ao1 a0.length cap1)] (by kernel_rfl) fun a ha => ?_
   refine cpyA (T := 5) (k := .u8) (x0 := (List.replicate 16 (0 : Int))) (N := 16) ([.int .i64 (a0.length : Int)] : List Value) ([] : List Value) ha (by kernel_rfl) (by kernel_rfl) rfl rfl rfl rfl rfl hBg14 (by kernel_rfl) f1 fun a w20 hb2 hc21 ha => ?_
   have o1 : Ok [g14] ([g14] ++ ([g4] ++ (M))) w17.heap.size := (fun _ h => .inl (ml h))
   have o2 : Ok ([g14] ++ ([g4] ++ (M))) ([g14] ++ ([g4] ++ (M))) w17.heap.size := (Ok.refl _ _)
   have f1 := f1.chg hc21 o1 o2
   have hBg4 := hBg4.chg hc21 ((fun x (hx : x ∈ [g4]) (hy : x ∈ [g14]) => p_i16_i6 x hy hx) g4 (by simp))
   have hM : MS ([g14] ++ ([g4] ++ (M))) w20 := (hM.chg hc21)
   have hC := hC.trans hc21 (fun x h => .inr (e_i16 x h))
   have hBg14 : Box w20 g14 (cS_api_Addr (⟨(a0.length : Int), (arC 16 (List.replicate 16 (0 : Int)) a0)⟩ : S_api_Addr)) := hb2.cast (by kernel_rfl)
   refine hK19 _ _ ?_; try clear hK19 K19
   refine wp_seq_k fun K22 hK22 => ?_
   refine wp_region_lit ?_
   refine ldA (cs := (cS_api_Addr (⟨(a0.length : Int), (arC 16 (List.replicate 16 (0 : Int)) a0)⟩ : S_api_Addr))) ha rfl (by kernel_rfl) rfl rfl rfl (cells_sub (Box.cells hBg14) (all := (cS_api_Addr (⟨(a0.length : Int), (arC 16 (List.replicate 16 (0 : Int)) a0)⟩ : S_api_Addr))) [] [] (by kernel_rfl)) fun a ha => ?_
   refine stA (l := (cS_api_Addr (⟨(a0.length : Int), (arC 16 (List.replicate 16 (0 : Int)) a0)⟩ : S_api_Addr))) ha rfl rfl rfl (by kernel_rfl) rfl rfl hBg4 rfl fun a w23 ha hb2 hc24 _ => ?_
   have hBg14 := hBg14.chg hc24 (p_i16_i6 g14 (by simp))
   have hM : MS ([g14] ++ ([g4] ++ (M))) w23 := (hM.chg hc24)
   have hC := hC.trans hc24 (fun x h => .inr (e_i6 x h))
   have hBg4 : Box w23 g4 (cS_api_Addr (⟨(a0.length : Int), (arC 16 (List.replicate 16 (0 : Int)) a0)⟩ : S_api_Addr)) := hb2
   refine seg ha 1 [(2, .pointer (some ⟨g4, 0, none⟩)), (3, .int .i64 (0 : Int))] (by kernel_rfl) fun a ha => ?_
   refine hK22 _ _ ?_; try clear hK22 K22
   refine wp_ret ?_
   try simp only [Exit.then, Exit.inBlock]
   have hBg4 := hBg4.chg (Chg.refl [] _) (fun h => nomatch h)
   have hBg14 := hBg14.chg (Chg.refl [] _) (fun h => nomatch h)
   have hM : MS (M) w23 := (fun x h => hM.chg (Chg.refl [] _) x (mr (mr (h))))
   have hC := hC.trans (Chg.refl [] _) (Ok.nil _ _)
   obtain rfl := Option.some.inj H
   refine rtr ha (res2 rfl (roA ha rfl hBg4 (by kernel_rfl)) (roT ha rfl)) ?_
   exact ⟨rfl, hC, hM⟩
  ·have H := ite_f hc11 H
   refine wp_skip ?_
   refine hK7 _ _ ?_; try clear hK7 K7
   refine wp_seq_k fun K25 hK25 => ?_
   refine wp_region_lit ?_
   refine opk (v := .agg (cS_api_Addr (⟨(0 : Int), (List.replicate 16 (0 : Int))⟩ : S_api_Addr)).toArray) ha rfl rfl rfl rfl rfl (fun w => by kernel_rfl) fun a ha => ?_
   refine stA (l := (cS_api_Addr (⟨(0 : Int), (List.replicate 16 (0 : Int))⟩ : S_api_Addr))) ha rfl rfl rfl (by kernel_rfl) rfl rfl hBg4 rfl fun a w26 ha hb2 hc27 _ => ?_
   have hM : MS ([g4] ++ (M)) w26 := (hM.chg hc27)
   have hC := hC.trans hc27 (fun x h => .inr (e_i6 x h))
   have hBg4 : Box w26 g4 (cS_api_Addr (⟨(0 : Int), (List.replicate 16 (0 : Int))⟩ : S_api_Addr)) := hb2
   refine seg ha 1 [(2, .pointer (some ⟨g4, 0, none⟩)), (3, .int .i64 (1 : Int))] (by kernel_rfl) fun a ha => ?_
   refine hK25 _ _ ?_; try clear hK25 K25
   refine wp_ret ?_
   try simp only [Exit.then, Exit.inBlock]
   have hBg4 := hBg4.chg (Chg.refl [] _) (fun h => nomatch h)
   have hM : MS (M) w26 := (fun x h => hM.chg (Chg.refl [] _) x (mr (h)))
   have hC := hC.trans (Chg.refl [] _) (Ok.nil _ _)
   obtain rfl := Option.some.inj H
   refine rtr ha (res2 rfl (roA ha rfl hBg4 (by kernel_rfl)) (roT ha rfl)) ?_
   exact ⟨rfl, hC, hM⟩
 have H := H10
 refine wp_seq_k fun K28 hK28 => ?_
 refine wp_region_lit ?_
 refine seg ha 2 [(0, .slice ao1 a0.length cap1), (2, .pointer (some ⟨g4, 0, none⟩)), (6, .int .i64 (a0.length : Int)), (7, .bool ((a0.length : Int) == (0 : Int)))] (by kernel_rfl) fun a ha => ?_
 refine hK28 _ _ ?_; try clear hK28 K28
 refine cnd ha rfl (fun hc29 => ?_) (fun hc29 => ?_)
 ·have H := ite_t hc29 H
  refine wp_skip ?_
  obtain rfl := Option.some.inj H
  exact J10 _ _ (ha.sel (by kernel_rfl)) f1 hBg4 hC hM
 ·have H := ite_f hc29 H
  refine wp_seq_k fun K30 hK30 => ?_
  refine wp_region_lit ?_
  refine seg ha 2 [(0, .slice ao1 a0.length cap1), (2, .pointer (some ⟨g4, 0, none⟩)), (6, .int .i64 (a0.length : Int)), (7, .bool ((a0.length : Int) == (4 : Int)))] (by kernel_rfl) fun a ha => ?_
  refine hK30 _ _ ?_; try clear hK30 K30
  refine cnd ha rfl (fun hc31 => ?_) (fun hc31 => ?_)
  ·have H := ite_t hc31 H
   refine wp_skip ?_
   obtain rfl := Option.some.inj H
   exact J10 _ _ (ha.sel (by kernel_rfl)) f1 hBg4 hC hM
  ·have H := ite_f hc31 H
   refine wp_region_lit ?_
   refine seg ha 2 [(0, .slice ao1 a0.length cap1), (2, .pointer (some ⟨g4, 0, none⟩)), (7, .bool ((a0.length : Int) == (16 : Int)))] (by kernel_rfl) fun a ha => ?_
   obtain rfl := Option.some.inj H
   exact J10 _ _ (ha.sel (by kernel_rfl)) f1 hBg4 hC hM
def addr_Multicast.f (k : Nat) (a0 : S_api_Addr) : Option (Bool) := (addr_Right.f k a0).bind fun t9 => (if (!t9) = true then some ((false : Bool)) else (if (a0.Size == (4 : Int)) = true then some (((Int.fdiv (ar a0.B 0) (2 ^ (min (4 : Int).toNat IntKind.u8.bits))) == (14 : Int) : Bool)) else ((if (a0.Size == (16 : Int)) = true then some ((ar a0.B 0) == (255 : Int) : Bool) else some (false : Bool))).bind fun s17 => some ((s17 : Bool))))
set_option maxRecDepth 100000 in
theorem addr_Multicast.walk (w : World) (M : List Nat) (hM : MS M w) (a0 : S_api_Addr) (k : Nat) (r : Bool) (H : addr_Multicast.f k a0 = some r) :
    To Tryd.prog 55 [.agg (cS_api_Addr a0).toArray] w fun v w' => v = .bool r ∧ Chg [] w w' ∧ MS (M) w' := by
 unfold addr_Multicast.f at H
 refine ent Tryd.func55 rfl [(0, .agg (cS_api_Addr a0).toArray)] rfl (by rfl) fun a ha => ?_
 have hC : Chg [] w w := Chg.refl _ _
 refine wp_seq_k fun K1 hK1 => ?_
 refine wp_region_lit ?_
 refine bx (cs := (cS_api_Addr a0)) ha rfl rfl rfl rfl rfl fun a w2 g3 hN4 ha => ?_
 have hn6 := hN4.notin hM
 have hM : MS (M) w2 := (hM.chg hN4.chg)
 have hC := hC.trans hN4.chg (Ok.nil _ _)
 have hE5 : ∀ j v, (cS_api_Addr a0)[j]? = some v → w2.cell? ⟨g3, 0 + j, none⟩ = some v := Box.cells (New.box hN4)
 refine seg ha 1 [(1, .pointer (some ⟨g3, 0, none⟩))] (by kernel_rfl) fun a ha => ?_
 refine hK1 _ _ ?_; try clear hK1 K1
 refine wp_seq_k fun K7 hK7 => ?_
 refine wp_block ?_
 refine wp_seq_k fun K8 hK8 => ?_
 refine wp_region_lit ?_
 refine ldA (cs := (cS_api_Addr a0)) ha rfl (by kernel_rfl) rfl rfl rfl (cells_sub hE5 (all := (cS_api_Addr a0)) [] [] (by kernel_rfl)) fun a ha => ?_
 obtain ⟨t9, H9, H⟩ := bind_some H
 refine cl ha (by rfl) (by kernel_rfl) (by rfl) (by rfl) (by rfl) (addr_Right.walk w2 _ hM a0 k _ H9) ?_
 rintro _ w9 ⟨rfl, hc9, hMn⟩ a ha
 have o1 : Ok [] (M) w2.heap.size := Ok.nil _ _
 have o2 : Ok (M) (M) w2.heap.size := (Ok.refl _ _)
 have q_hn6 : g3 ∉ M := fun h => (o2 g3 h).elim hn6 (fun h => absurd (lt_cell (hE5 0 _ rfl)) (Nat.not_lt.2 h))
 have hE5 : ∀ j v, (cS_api_Addr a0)[j]? = some v → w9.cell? ⟨g3, 0 + j, none⟩ = some v := fun j v hv => (cell_keep hc9 o1 hn6 (hE5 j v hv))
 have hn6 := q_hn6
 have hM : MS (M) w9 := (hM.chg hc9)
 have hC := hC.trans hc9 (Ok.nil _ _)
 refine seg ha 2 [(1, .pointer (some ⟨g3, 0, none⟩)), (3, .bool (!t9))] (by kernel_rfl) fun a ha => ?_
 refine hK8 _ _ ?_; try clear hK8 K8
 refine cnd ha rfl (fun hc10 => ?_) (fun hc10 => ?_)
 ·have H := ite_t hc10 H
  refine wp_seq_k fun K11 hK11 => ?_
  refine wp_region_lit ?_
  refine seg ha 1 [(2, .bool false)] (by kernel_rfl) fun a ha => ?_
  refine hK11 _ _ ?_; try clear hK11 K11
  refine wp_ret ?_
  try simp only [Exit.then, Exit.inBlock]
  obtain rfl := Option.some.inj H
  refine rt1 ha rfl rfl ?_
  exact ⟨rfl, hC, hM⟩
 ·have H := ite_f hc10 H
  refine wp_seq_k fun K12 hK12 => ?_
  refine wp_region_lit ?_
  refine seg ha 1 [(1, .pointer (some ⟨g3, 0, none⟩)), (8, .pointer (some ⟨g3, 0, none⟩))] (by kernel_rfl) fun a ha => ?_
  refine ld ha rfl (by kernel_rfl) rfl rfl rfl (hE5 0 (.int .i64 a0.Size) (by kernel_rfl)) fun a ha => ?_
  refine seg ha 2 [(1, .pointer (some ⟨g3, 0, none⟩)), (7, .bool (a0.Size == (4 : Int)))] (by kernel_rfl) fun a ha => ?_
  refine hK12 _ _ ?_; try clear hK12 K12
  refine cnd ha rfl (fun hc13 => ?_) (fun hc13 => ?_)
  ·have H := ite_t hc13 H
   refine wp_seq_k fun K14 hK14 => ?_
   refine wp_region_lit ?_
   refine seg ha 1 [(11, .pointer (some ⟨g3, 0 + 1, none⟩))] (by kernel_rfl) fun a ha => ?_
   have hE15 : ∀ j v, ([.int .u8 (ar a0.B 0)] : List Value)[j]? = some v → w9.cell? ⟨g3, (0 + 1 + 0) + j, none⟩ = some v := cellA (m := 16) [.int .i64 a0.Size] [] hE5 (by kernel_rfl) (by decide)
   have hn15 := hn6
   refine hop (v := .pointer (some ⟨g3, (0 + 1 + 0), none⟩)) (w' := w9) ha rfl rfl rfl (ixA_run (T := 5) (N := 16) (g := g3) (o' := 0 + 1) (k := .i64) (i := (0 : Int)) ha (by kernel_rfl) (by kernel_rfl) (by rfl) (by rfl) (by decide) (by decide) _) fun a ha => ?_
   refine ld ha rfl (by kernel_rfl) rfl rfl rfl (hE15 0 (.int .u8 (ar a0.B 0)) (by kernel_rfl)) fun a ha => ?_
   refine seg ha 3 [(2, .bool ((Int.fdiv (ar a0.B 0) (2 ^ (min (4 : Int).toNat IntKind.u8.bits))) == (14 : Int)))] (by kernel_rfl) fun a ha => ?_
   refine hK14 _ _ ?_; try clear hK14 K14
   refine wp_ret ?_
   try simp only [Exit.then, Exit.inBlock]
   obtain rfl := Option.some.inj H
   refine rt1 ha rfl rfl ?_
   exact ⟨rfl, hC, hM⟩
  ·have H := ite_f hc13 H
   refine wp_skip ?_
   refine hK7 _ _ ?_; try clear hK7 K7
   refine wp_seq_k fun K16 hK16 => ?_
   refine wp_region_lit ?_
   obtain ⟨s17, H17, H⟩ := bind_some H
   have J17 : ∀ (a : Act) (w17 : World), Has a Tryd.f55.ntmps [(2, .bool s17)] → (Chg [] w w17) → (MS (M) w17) → K16 a w17 := by
    intro a w17 ha hC hM
    refine hK16 _ _ ?_; try clear hK16 K16
    refine wp_ret ?_
    try simp only [Exit.then, Exit.inBlock]
    obtain rfl := Option.some.inj H
    refine rt1 ha rfl rfl ?_
    exact ⟨rfl, hC, hM⟩
   have H := H17
   refine seg ha 1 [(1, .pointer (some ⟨g3, 0, none⟩)), (16, .pointer (some ⟨g3, 0, none⟩))] (by kernel_rfl) fun a ha => ?_
   refine ld ha rfl (by kernel_rfl) rfl rfl rfl (hE5 0 (.int .i64 a0.Size) (by kernel_rfl)) fun a ha => ?_
   refine seg ha 2 [(19, .bool (a0.Size == (16 : Int))), (1, .pointer (some ⟨g3, 0, none⟩))] (by kernel_rfl) fun a ha => ?_
   rcases Bool.eq_false_or_eq_true (a0.Size == (16 : Int)) with hb18 | hb18
   ·have ha := ha.lit hb18
    have H := ite_t hb18 H
    refine sgh ha 1 [2] [(19, .bool true), (20, .pointer (some ⟨g3, 0 + 1, none⟩))] (by kernel_rfl) fun a ha => ?_
    have hE19 : ∀ j v, ([.int .u8 (ar a0.B 0)] : List Value)[j]? = some v → w9.cell? ⟨g3, (0 + 1 + 0) + j, none⟩ = some v := cellA (m := 16) [.int .i64 a0.Size] [] hE5 (by kernel_rfl) (by decide)
    have hn19 := hn6
    refine hop (v := .pointer (some ⟨g3, (0 + 1 + 0), none⟩)) (w' := w9) ha rfl rfl rfl (ixA_run (T := 5) (N := 16) (g := g3) (o' := 0 + 1) (k := .i64) (i := (0 : Int)) ha (by kernel_rfl) (by kernel_rfl) (by rfl) (by rfl) (by decide) (by decide) _) fun a ha => ?_
    refine ld ha rfl (by kernel_rfl) rfl rfl rfl (hE19 0 (.int .u8 (ar a0.B 0)) (by kernel_rfl)) fun a ha => ?_
    refine sgh ha 3 [2, 3, 0] [(2, .bool ((ar a0.B 0) == (255 : Int)))] (by kernel_rfl) fun a ha => ?_
    obtain rfl := Option.some.inj H
    exact J17 _ _ (ha.sel (by kernel_rfl)) hC hM
   ·have ha := ha.lit hb18
    have H := ite_f hb18 H
    refine sgh ha 6 [1, 1, 1, 1, 4, 0] [(2, .bool false)] (by kernel_rfl) fun a ha => ?_
    obtain rfl := Option.some.inj H
    exact J17 _ _ (ha.sel (by kernel_rfl)) hC hM
def pmsi_Right.f (k : Nat) (a0 : S_api_Tunnel) : Option (Bool) := ((addr_Right.f k a0.Root).bind fun t57 => (if (!t57) = true then some (true : Bool) else (if (decide (a0.Label < (0 : Int))) = true then some (true : Bool) else some (decide (a0.Label > (1048575 : Int)) : Bool)))).bind fun s10 => (if s10 = true then some ((false : Bool)) else (if (a0.Kind == (0 : Int)) = true then some (((IntKind.i64.wrap (a0.Root.Size + (a0.Id.length : Int))) == (0 : Int) : Bool)) else (if (a0.Kind == (1 : Int)) = true then ((if (a0.Root.Size == (4 : Int)) = true then some ((a0.Id.length : Int) == (6 : Int) : Bool) else some (false : Bool))).bind fun s21 => some ((s21 : Bool)) else ((if (a0.Kind == (2 : Int)) = true then some (a0.Kind == (2 : Int) : Bool) else some (a0.Kind == (7 : Int) : Bool))).bind fun s24 => (if s24 = true then ((if (decide (a0.Root.Size > (0 : Int))) = true then some (decide ((a0.Id.length : Int) ≤ (64 : Int)) : Bool) else some (false : Bool))).bind fun s27 => some ((s27 : Bool)) else ((if (a0.Kind == (3 : Int)) = true then some (a0.Kind == (3 : Int) : Bool) else (if (a0.Kind == (4 : Int)) = true then some (a0.Kind == (4 : Int) : Bool) else some (a0.Kind == (5 : Int) : Bool)))).bind fun s30 => (if s30 = true then (addr_Of.f a0.Id).bind fun t33 => ((if (t33.2 == (0 : Int)) = true then (if (t33.1.Size == a0.Root.Size) = true then (addr_Multicast.f k t33.1).bind fun t44 => some (t44 : Bool) else some (false : Bool)) else some (false : Bool))).bind fun s41 => some ((s41 : Bool)) else (if (a0.Kind == (6 : Int)) = true then ((if (decide (a0.Root.Size > (0 : Int))) = true then some ((a0.Id.length : Int) == (0 : Int) : Bool) else some (false : Bool))).bind fun s48 => some ((s48 : Bool)) else some ((false : Bool))))))))
set_option maxRecDepth 100000 in
theorem pmsi_Right.walk (w : World) (M : List Nat) (hM : MS M w) (a0 : S_api_Tunnel) (ao1 : Option Addr) (cap1 : Nat) (f1 : RSl (rInt .u8) 5 w M ao1 cap1 a0.Id) (k : Nat) (r : Bool) (H : pmsi_Right.f k a0 = some r) :
    To Tryd.prog 21 [.agg (cS_api_Tunnel a0 ao1 cap1).toArray] w fun v w' => v = .bool r ∧ Chg [] w w' ∧ MS (M) w' := by
 unfold pmsi_Right.f at H
 refine ent Tryd.func21 rfl [(0, .agg (cS_api_Tunnel a0 ao1 cap1).toArray)] rfl (by rfl) fun a ha => ?_
 have hC : Chg [] w w := Chg.refl _ _
 refine wp_seq_k fun K2 hK2 => ?_
 refine wp_region_lit ?_
 refine bx (cs := (cS_api_Tunnel a0 ao1 cap1)) ha rfl rfl rfl rfl rfl fun a w3 g4 hN5 ha => ?_
 have hn7 := hN5.notin hM
 have o1 : Ok [] (M) w.heap.size := Ok.nil _ _
 have o2 : Ok (M) (M) w.heap.size := (Ok.refl _ _)
 have f1 := f1.chg hN5.chg o1 o2
 have hM : MS (M) w3 := (hM.chg hN5.chg)
 have hC := hC.trans hN5.chg (Ok.nil _ _)
 have hE6 : ∀ j v, (cS_api_Tunnel a0 ao1 cap1)[j]? = some v → w3.cell? ⟨g4, 0 + j, none⟩ = some v := Box.cells (New.box hN5)
 refine seg ha 1 [(1, .pointer (some ⟨g4, 0, none⟩))] (by kernel_rfl) fun a ha => ?_
 refine hK2 _ _ ?_; try clear hK2 K2
 refine wp_seq_k fun K8 hK8 => ?_
 refine wp_seq_k fun K9 hK9 => ?_
 refine wp_region_lit ?_
 obtain ⟨s10, H10, H⟩ := bind_some H
 have J10 : ∀ (a : Act) (w10 : World), Has a Tryd.f21.ntmps [(1, .pointer (some ⟨g4, 0, none⟩)), (18, .bool s10)] → (RSl (rInt .u8) 5 w10 (M) ao1 cap1 a0.Id) → (∀ j v, (cS_api_Tunnel a0 ao1 cap1)[j]? = some v → w10.cell? ⟨g4, 0 + j, none⟩ = some v) → (g4 ∉ (M)) → (Chg [] w w10) → (MS (M) w10) → K9 a w10 := by
  intro a w10 ha f1 hE6 hn7 hC hM
  refine hK9 _ _ ?_; try clear hK9 K9
  refine cnd ha rfl (fun hc11 => ?_) (fun hc11 => ?_)
  ·have H := ite_t hc11 H
   refine wp_seq_k fun K12 hK12 => ?_
   refine wp_region_lit ?_
   refine seg ha 1 [(2, .bool false)] (by kernel_rfl) fun a ha => ?_
   refine hK12 _ _ ?_; try clear hK12 K12
   refine wp_ret ?_
   try simp only [Exit.then, Exit.inBlock]
   obtain rfl := Option.some.inj H
   refine rt1 ha rfl rfl ?_
   exact ⟨rfl, hC, hM⟩
  ·have H := ite_f hc11 H
   refine wp_skip ?_
   refine hK8 _ _ ?_; try clear hK8 K8
   refine wp_seq_k fun K13 hK13 => ?_
   refine wp_seq_k fun K14 hK14 => ?_
   refine wp_region_lit ?_
   refine seg ha 1 [(1, .pointer (some ⟨g4, 0, none⟩)), (19, .pointer (some ⟨g4, 0 + 1, none⟩))] (by kernel_rfl) fun a ha => ?_
   refine ld ha rfl (by kernel_rfl) rfl rfl rfl (hE6 1 (.int .i64 a0.Kind) (by kernel_rfl)) fun a ha => ?_
   refine hK14 _ _ ?_; try clear hK14 K14
   refine wp_block ?_
   refine wp_seq_k fun K15 hK15 => ?_
   refine wp_region_lit ?_
   refine seg ha 2 [(1, .pointer (some ⟨g4, 0, none⟩)), (20, .int .i64 a0.Kind), (21, .bool (a0.Kind == (0 : Int)))] (by kernel_rfl) fun a ha => ?_
   refine hK15 _ _ ?_; try clear hK15 K15
   refine cnd ha rfl (fun hc16 => ?_) (fun hc16 => ?_)
   ·have H := ite_t hc16 H
    refine wp_seq_k fun K17 hK17 => ?_
    refine wp_region_lit ?_
    refine seg ha 2 [(1, .pointer (some ⟨g4, 0, none⟩)), (24, .pointer (some ⟨g4, 0 + 3, none⟩))] (by kernel_rfl) fun a ha => ?_
    refine ld ha rfl (by kernel_rfl) rfl rfl rfl (hE6 3 (.int .i64 a0.Root.Size) (by kernel_rfl)) fun a ha => ?_
    refine seg ha 1 [(25, .int .i64 a0.Root.Size), (26, .pointer (some ⟨g4, 0 + 20, none⟩))] (by kernel_rfl) fun a ha => ?_
    refine ld ha rfl (by kernel_rfl) rfl rfl rfl (hE6 20 (.slice ao1 a0.Id.length cap1) (by kernel_rfl)) fun a ha => ?_
    refine seg ha 4 [(2, .bool ((IntKind.i64.wrap (a0.Root.Size + (a0.Id.length : Int))) == (0 : Int)))] (by kernel_rfl) fun a ha => ?_
    refine hK17 _ _ ?_; try clear hK17 K17
    refine wp_ret ?_
    try simp only [Exit.then, Exit.inBlock]
    obtain rfl := Option.some.inj H
    refine rt1 ha rfl rfl ?_
    exact ⟨rfl, hC, hM⟩
   ·have H := ite_f hc16 H
    refine wp_seq_k fun K18 hK18 => ?_
    refine wp_region_lit ?_
    refine seg ha 2 [(1, .pointer (some ⟨g4, 0, none⟩)), (20, .int .i64 a0.Kind), (31, .bool (a0.Kind == (1 : Int)))] (by kernel_rfl) fun a ha => ?_
    refine hK18 _ _ ?_; try clear hK18 K18
    refine cnd ha rfl (fun hc19 => ?_) (fun hc19 => ?_)
    ·have H := ite_t hc19 H
     refine wp_seq_k fun K20 hK20 => ?_
     refine wp_region_lit ?_
     obtain ⟨s21, H21, H⟩ := bind_some H
     have J21 : ∀ (a : Act) (w21 : World), Has a Tryd.f21.ntmps [(2, .bool s21)] → (Chg [] w w21) → (MS (M) w21) → K20 a w21 := by
      intro a w21 ha hC hM
      refine hK20 _ _ ?_; try clear hK20 K20
      refine wp_ret ?_
      try simp only [Exit.then, Exit.inBlock]
      obtain rfl := Option.some.inj H
      refine rt1 ha rfl rfl ?_
      exact ⟨rfl, hC, hM⟩
     have H := H21
     refine seg ha 2 [(1, .pointer (some ⟨g4, 0, none⟩)), (34, .pointer (some ⟨g4, 0 + 3, none⟩))] (by kernel_rfl) fun a ha => ?_
     refine ld ha rfl (by kernel_rfl) rfl rfl rfl (hE6 3 (.int .i64 a0.Root.Size) (by kernel_rfl)) fun a ha => ?_
     refine seg ha 2 [(37, .bool (a0.Root.Size == (4 : Int))), (1, .pointer (some ⟨g4, 0, none⟩))] (by kernel_rfl) fun a ha => ?_
     rcases Bool.eq_false_or_eq_true (a0.Root.Size == (4 : Int)) with hb22 | hb22
     ·have ha := ha.lit hb22
      have H := ite_t hb22 H
      refine sgh ha 1 [2] [(37, .bool true), (38, .pointer (some ⟨g4, 0 + 20, none⟩))] (by kernel_rfl) fun a ha => ?_
      refine ld ha rfl (by kernel_rfl) rfl rfl rfl (hE6 20 (.slice ao1 a0.Id.length cap1) (by kernel_rfl)) fun a ha => ?_
      refine sgh ha 4 [2, 2, 3, 0] [(2, .bool ((a0.Id.length : Int) == (6 : Int)))] (by kernel_rfl) fun a ha => ?_
      obtain rfl := Option.some.inj H
      exact J21 _ _ (ha.sel (by kernel_rfl)) hC hM
     ·have ha := ha.lit hb22
      have H := ite_f hb22 H
      refine sgh ha 6 [1, 1, 1, 1, 4, 0] [(2, .bool false)] (by kernel_rfl) fun a ha => ?_
      obtain rfl := Option.some.inj H
      exact J21 _ _ (ha.sel (by kernel_rfl)) hC hM
    ·have H := ite_f hc19 H
     refine wp_seq_k fun K23 hK23 => ?_
     obtain ⟨s24, H24, H⟩ := bind_some H
     have J24 : ∀ (a : Act) (w24 : World), Has a Tryd.f21.ntmps [(1, .pointer (some ⟨g4, 0, none⟩)), (20, .int .i64 a0.Kind), (43, .bool s24)] → (RSl (rInt .u8) 5 w24 (M) ao1 cap1 a0.Id) → (∀ j v, (cS_api_Tunnel a0 ao1 cap1)[j]? = some v → w24.cell? ⟨g4, 0 + j, none⟩ = some v) → (g4 ∉ (M)) → (Chg [] w w24) → (MS (M) w24) → K23 a w24 := by
      intro a w24 ha f1 hE6 hn7 hC hM
      refine hK23 _ _ ?_; try clear hK23 K23
      refine cnd ha rfl (fun hc25 => ?_) (fun hc25 => ?_)
      ·have H := ite_t hc25 H
       refine wp_seq_k fun K26 hK26 => ?_
       refine wp_region_lit ?_
       obtain ⟨s27, H27, H⟩ := bind_some H
       have J27 : ∀ (a : Act) (w27 : World), Has a Tryd.f21.ntmps [(2, .bool s27)] → (Chg [] w w27) → (MS (M) w27) → K26 a w27 := by
        intro a w27 ha hC hM
        refine hK26 _ _ ?_; try clear hK26 K26
        refine wp_ret ?_
        try simp only [Exit.then, Exit.inBlock]
        obtain rfl := Option.some.inj H
        refine rt1 ha rfl rfl ?_
        exact ⟨rfl, hC, hM⟩
       have H := H27
       refine seg ha 2 [(1, .pointer (some ⟨g4, 0, none⟩)), (47, .pointer (some ⟨g4, 0 + 3, none⟩))] (by kernel_rfl) fun a ha => ?_
       refine ld ha rfl (by kernel_rfl) rfl rfl rfl (hE6 3 (.int .i64 a0.Root.Size) (by kernel_rfl)) fun a ha => ?_
       refine seg ha 2 [(50, .bool (decide (a0.Root.Size > (0 : Int)))), (1, .pointer (some ⟨g4, 0, none⟩))] (by kernel_rfl) fun a ha => ?_
       rcases Bool.eq_false_or_eq_true (decide (a0.Root.Size > (0 : Int))) with hb28 | hb28
       ·have ha := ha.lit hb28
        have H := ite_t hb28 H
        refine sgh ha 1 [2] [(50, .bool true), (51, .pointer (some ⟨g4, 0 + 20, none⟩))] (by kernel_rfl) fun a ha => ?_
        refine ld ha rfl (by kernel_rfl) rfl rfl rfl (hE6 20 (.slice ao1 a0.Id.length cap1) (by kernel_rfl)) fun a ha => ?_
        refine sgh ha 4 [2, 2, 3, 0] [(2, .bool (decide ((a0.Id.length : Int) ≤ (64 : Int))))] (by kernel_rfl) fun a ha => ?_
        obtain rfl := Option.some.inj H
        exact J27 _ _ (ha.sel (by kernel_rfl)) hC hM
       ·have ha := ha.lit hb28
        have H := ite_f hb28 H
        refine sgh ha 6 [1, 1, 1, 1, 4, 0] [(2, .bool false)] (by kernel_rfl) fun a ha => ?_
        obtain rfl := Option.some.inj H
        exact J27 _ _ (ha.sel (by kernel_rfl)) hC hM
      ·have H := ite_f hc25 H
       refine wp_seq_k fun K29 hK29 => ?_
       obtain ⟨s30, H30, H⟩ := bind_some H
       have J30 : ∀ (a : Act) (w30 : World), Has a Tryd.f21.ntmps [(1, .pointer (some ⟨g4, 0, none⟩)), (20, .int .i64 a0.Kind), (56, .bool s30)] → (RSl (rInt .u8) 5 w30 (M) ao1 cap1 a0.Id) → (∀ j v, (cS_api_Tunnel a0 ao1 cap1)[j]? = some v → w30.cell? ⟨g4, 0 + j, none⟩ = some v) → (g4 ∉ (M)) → (Chg [] w w30) → (MS (M) w30) → K29 a w30 := by
        intro a w30 ha f1 hE6 hn7 hC hM
        refine hK29 _ _ ?_; try clear hK29 K29
        refine cnd ha rfl (fun hc31 => ?_) (fun hc31 => ?_)
        ·have H := ite_t hc31 H
         refine wp_seq_k fun K32 hK32 => ?_
         refine wp_region_lit ?_
         refine seg ha 1 [(1, .pointer (some ⟨g4, 0, none⟩)), (61, .pointer (some ⟨g4, 0 + 20, none⟩))] (by kernel_rfl) fun a ha => ?_
         refine ld ha rfl (by kernel_rfl) rfl rfl rfl (hE6 20 (.slice ao1 a0.Id.length cap1) (by kernel_rfl)) fun a ha => ?_
         obtain ⟨t33, H33, H⟩ := bind_some H
         refine cl ha (by rfl) (by kernel_rfl) (by rfl) (by rfl) (by rfl) (addr_Of.walk w30 _ hM a0.Id ao1 cap1 f1 _ H33) ?_
         rintro _ w33 ⟨rfl, hc33, hMn⟩ a ha
         have o1 : Ok [] (M) w30.heap.size := Ok.nil _ _
         have o2 : Ok (M) (M) w30.heap.size := (Ok.refl _ _)
         have f1 := f1.chg hc33 o1 o2
         have q_hn7 : g4 ∉ M := fun h => (o2 g4 h).elim hn7 (fun h => absurd (lt_cell (hE6 0 _ rfl)) (Nat.not_lt.2 h))
         have hE6 : ∀ j v, (cS_api_Tunnel a0 ao1 cap1)[j]? = some v → w33.cell? ⟨g4, 0 + j, none⟩ = some v := fun j v hv => (cell_keep hc33 o1 hn7 (hE6 j v hv))
         have hn7 := q_hn7
         have hM : MS (M) w33 := (hM.chg hc33)
         have hC := hC.trans hc33 (Ok.nil _ _)
         refine seg ha 3 [(1, .pointer (some ⟨g4, 0, none⟩)), (64, .agg (cS_api_Addr t33.1).toArray), (65, .int .i64 t33.2)] (by kernel_rfl) fun a ha => ?_
         refine al (cs := (cS_api_Addr (⟨(0 : Int), (List.replicate 16 (0 : Int))⟩ : S_api_Addr))) (z := .agg (cS_api_Addr (⟨(0 : Int), (List.replicate 16 (0 : Int))⟩ : S_api_Addr)).toArray) ha (fun w => by kernel_rfl) rfl rfl rfl rfl fun a w34 g35 hN36 ha => ?_
         have o1 : Ok [] (M) w33.heap.size := Ok.nil _ _
         have o2 : Ok ([g35] ++ (M)) (M) w33.heap.size := (Ok.app (hN36.ok _) (Ok.refl _ _))
         have f1 := f1.chg hN36.chg o1 o2
         have q_hn7 : g4 ∉ [g35] ++ (M) := fun h => (o2 g4 h).elim hn7 (fun h => absurd (lt_cell (hE6 0 _ rfl)) (Nat.not_lt.2 h))
         have hE6 : ∀ j v, (cS_api_Tunnel a0 ao1 cap1)[j]? = some v → w34.cell? ⟨g4, 0 + j, none⟩ = some v := fun j v hv => (cell_keep hN36.chg o1 hn7 (hE6 j v hv))
         have hn7 := q_hn7
         have p_i37_M : ∀ x ∈ [g35], x ∉ M := fun x hx hy => absurd (hM x (hy)) (Nat.not_lt.2 ((hN36.ge1) x hx))
         have e_i37 : ∀ x ∈ [g35], w.heap.size ≤ x := fun x hx => Nat.le_trans hC.size ((hN36.ge1) x hx)
         have hM : MS ([g35] ++ (M)) w34 := (MS.app hN36.ms (hM.chg hN36.chg))
         have hC := hC.trans hN36.chg (Ok.nil _ _)
         have hBg35 : Box w34 g35 (cS_api_Addr (⟨(0 : Int), (List.replicate 16 (0 : Int))⟩ : S_api_Addr)) := hN36.box
         refine stA (l := (cS_api_Addr t33.1)) ha rfl rfl rfl (by kernel_rfl) rfl rfl hBg35 rfl fun a w38 ha hb2 hc39 _ => ?_
         have o1 : Ok [g35] ([g35] ++ (M)) w34.heap.size := (fun _ h => .inl (ml h))
         have o2 : Ok ([g35] ++ (M)) ([g35] ++ (M)) w34.heap.size := (Ok.refl _ _)
         have f1 := f1.chg hc39 o1 o2
         have q_hn7 : g4 ∉ [g35] ++ (M) := fun h => (o2 g4 h).elim hn7 (fun h => absurd (lt_cell (hE6 0 _ rfl)) (Nat.not_lt.2 h))
         have hE6 : ∀ j v, (cS_api_Tunnel a0 ao1 cap1)[j]? = some v → w38.cell? ⟨g4, 0 + j, none⟩ = some v := fun j v hv => (cell_keep hc39 o1 hn7 (hE6 j v hv))
         have hn7 := q_hn7
         have hM : MS ([g35] ++ (M)) w38 := (hM.chg hc39)
         have hC := hC.trans hc39 (fun x h => .inr (e_i37 x h))
         have hBg35 : Box w38 g35 (cS_api_Addr t33.1) := hb2
         refine seg ha 1 [(1, .pointer (some ⟨g4, 0, none⟩)), (3, .pointer (some ⟨g35, 0, none⟩)), (4, .int .i64 t33.2)] (by kernel_rfl) fun a ha => ?_
         refine hK32 _ _ ?_; try clear hK32 K32
         refine wp_seq_k fun K40 hK40 => ?_
         refine wp_region_lit ?_
         obtain ⟨s41, H41, H⟩ := bind_some H
         have J41 : ∀ (a : Act) (w41 : World), Has a Tryd.f21.ntmps [(2, .bool s41)] → (Box w41 g35 (cS_api_Addr t33.1)) → (Chg [] w w41) → (MS ([g35] ++ (M)) w41) → K40 a w41 := by
          intro a w41 ha hBg35 hC hM
          refine hK40 _ _ ?_; try clear hK40 K40
          refine wp_ret ?_
          try simp only [Exit.then, Exit.inBlock]
          have hBg35 := hBg35.chg (Chg.refl [] _) (fun h => nomatch h)
          have hM : MS (M) w41 := (fun x h => hM.chg (Chg.refl [] _) x (mr (h)))
          have hC := hC.trans (Chg.refl [] _) (Ok.nil _ _)
          obtain rfl := Option.some.inj H
          refine rt1 ha rfl rfl ?_
          exact ⟨rfl, hC, hM⟩
         have H := H41
         refine seg ha 3 [(68, .bool (t33.2 == (0 : Int))), (1, .pointer (some ⟨g4, 0, none⟩)), (3, .pointer (some ⟨g35, 0, none⟩))] (by kernel_rfl) fun a ha => ?_
         rcases Bool.eq_false_or_eq_true (t33.2 == (0 : Int)) with hb42 | hb42
         ·have ha := ha.lit hb42
          have H := ite_t hb42 H
          refine sgh ha 1 [2] [(1, .pointer (some ⟨g4, 0, none⟩)), (3, .pointer (some ⟨g35, 0, none⟩)), (68, .bool true), (69, .pointer (some ⟨g35, 0, none⟩))] (by kernel_rfl) fun a ha => ?_
          refine ld (v := .int .i64 t33.1.Size) ha rfl (by kernel_rfl) rfl rfl rfl (hBg35.cell' (o := 0) rfl (by kernel_rfl)) fun a ha => ?_
          refine sgh ha 2 [2, 2] [(3, .pointer (some ⟨g35, 0, none⟩)), (68, .bool true), (70, .int .i64 t33.1.Size), (72, .pointer (some ⟨g4, 0 + 3, none⟩))] (by kernel_rfl) fun a ha => ?_
          refine ld ha rfl (by kernel_rfl) rfl rfl rfl (hE6 3 (.int .i64 a0.Root.Size) (by kernel_rfl)) fun a ha => ?_
          refine sgh ha 3 [2, 3, 0] [(76, .bool (t33.1.Size == a0.Root.Size)), (3, .pointer (some ⟨g35, 0, none⟩))] (by kernel_rfl) fun a ha => ?_
          rcases Bool.eq_false_or_eq_true (t33.1.Size == a0.Root.Size) with hb43 | hb43
          ·have ha := ha.lit hb43
           have H := ite_t hb43 H
           refine ldA (cs := (cS_api_Addr t33.1)) ha rfl (by kernel_rfl) rfl rfl rfl (cells_sub (Box.cells hBg35) (all := (cS_api_Addr t33.1)) [] [] (by kernel_rfl)) fun a ha => ?_
           obtain ⟨t44, H44, H⟩ := bind_some H
           refine cl ha (by rfl) (by kernel_rfl) (by rfl) (by rfl) (by rfl) (addr_Multicast.walk w38 _ hM t33.1 k _ H44) ?_
           rintro _ w44 ⟨rfl, hc44, hMn⟩ a ha
           have hBg35 := hBg35.chg hc44 (fun h => nomatch h)
           have hM : MS ([g35] ++ (M)) w44 := (hM.chg hc44)
           have hC := hC.trans hc44 (Ok.nil _ _)
           refine sgh ha 2 [3, 0] [(2, .bool t44)] (by kernel_rfl) fun a ha => ?_
           obtain rfl := Option.some.inj H
           exact J41 _ _ (ha.sel (by kernel_rfl)) hBg35 hC hM
          ·have ha := ha.lit hb43
           have H := ite_f hb43 H
           refine sgh ha 4 [1, 1, 4, 0] [(2, .bool false)] (by kernel_rfl) fun a ha => ?_
           obtain rfl := Option.some.inj H
           exact J41 _ _ (ha.sel (by kernel_rfl)) hBg35 hC hM
         ·have ha := ha.lit hb42
          have H := ite_f hb42 H
          refine sgh ha 12 [1, 1, 1, 1, 1, 1, 4, 0, 1, 1, 4, 0] [(2, .bool false)] (by kernel_rfl) fun a ha => ?_
          obtain rfl := Option.some.inj H
          exact J41 _ _ (ha.sel (by kernel_rfl)) hBg35 hC hM
        ·have H := ite_f hc31 H
         refine wp_seq_k fun K45 hK45 => ?_
         refine wp_region_lit ?_
         refine seg ha 2 [(1, .pointer (some ⟨g4, 0, none⟩)), (80, .bool (a0.Kind == (6 : Int)))] (by kernel_rfl) fun a ha => ?_
         refine hK45 _ _ ?_; try clear hK45 K45
         refine cnd ha rfl (fun hc46 => ?_) (fun hc46 => ?_)
         ·have H := ite_t hc46 H
          refine wp_seq_k fun K47 hK47 => ?_
          refine wp_region_lit ?_
          obtain ⟨s48, H48, H⟩ := bind_some H
          have J48 : ∀ (a : Act) (w48 : World), Has a Tryd.f21.ntmps [(2, .bool s48)] → (Chg [] w w48) → (MS (M) w48) → K47 a w48 := by
           intro a w48 ha hC hM
           refine hK47 _ _ ?_; try clear hK47 K47
           refine wp_ret ?_
           try simp only [Exit.then, Exit.inBlock]
           obtain rfl := Option.some.inj H
           refine rt1 ha rfl rfl ?_
           exact ⟨rfl, hC, hM⟩
          have H := H48
          refine seg ha 2 [(1, .pointer (some ⟨g4, 0, none⟩)), (83, .pointer (some ⟨g4, 0 + 3, none⟩))] (by kernel_rfl) fun a ha => ?_
          refine ld ha rfl (by kernel_rfl) rfl rfl rfl (hE6 3 (.int .i64 a0.Root.Size) (by kernel_rfl)) fun a ha => ?_
          refine seg ha 2 [(86, .bool (decide (a0.Root.Size > (0 : Int)))), (1, .pointer (some ⟨g4, 0, none⟩))] (by kernel_rfl) fun a ha => ?_
          rcases Bool.eq_false_or_eq_true (decide (a0.Root.Size > (0 : Int))) with hb49 | hb49
          ·have ha := ha.lit hb49
           have H := ite_t hb49 H
           refine sgh ha 1 [2] [(86, .bool true), (87, .pointer (some ⟨g4, 0 + 20, none⟩))] (by kernel_rfl) fun a ha => ?_
           refine ld ha rfl (by kernel_rfl) rfl rfl rfl (hE6 20 (.slice ao1 a0.Id.length cap1) (by kernel_rfl)) fun a ha => ?_
           refine sgh ha 4 [2, 2, 3, 0] [(2, .bool ((a0.Id.length : Int) == (0 : Int)))] (by kernel_rfl) fun a ha => ?_
           obtain rfl := Option.some.inj H
           exact J48 _ _ (ha.sel (by kernel_rfl)) hC hM
          ·have ha := ha.lit hb49
           have H := ite_f hb49 H
           refine sgh ha 6 [1, 1, 1, 1, 4, 0] [(2, .bool false)] (by kernel_rfl) fun a ha => ?_
           obtain rfl := Option.some.inj H
           exact J48 _ _ (ha.sel (by kernel_rfl)) hC hM
         ·have H := ite_f hc46 H
          refine wp_skip ?_
          refine hK13 _ _ ?_; try clear hK13 K13
          refine wp_seq_k fun K50 hK50 => ?_
          refine wp_region_lit ?_
          refine seg ha 1 [(2, .bool false)] (by kernel_rfl) fun a ha => ?_
          refine hK50 _ _ ?_; try clear hK50 K50
          refine wp_ret ?_
          try simp only [Exit.then, Exit.inBlock]
          obtain rfl := Option.some.inj H
          refine rt1 ha rfl rfl ?_
          exact ⟨rfl, hC, hM⟩
       have H := H30
       refine wp_seq_k fun K51 hK51 => ?_
       refine wp_region_lit ?_
       refine seg ha 2 [(1, .pointer (some ⟨g4, 0, none⟩)), (20, .int .i64 a0.Kind), (56, .bool (a0.Kind == (3 : Int)))] (by kernel_rfl) fun a ha => ?_
       refine hK51 _ _ ?_; try clear hK51 K51
       refine cnd ha rfl (fun hc52 => ?_) (fun hc52 => ?_)
       ·have H := ite_t hc52 H
        refine wp_skip ?_
        obtain rfl := Option.some.inj H
        exact J30 _ _ (ha.sel (by kernel_rfl)) f1 hE6 hn7 hC hM
       ·have H := ite_f hc52 H
        refine wp_seq_k fun K53 hK53 => ?_
        refine wp_region_lit ?_
        refine seg ha 2 [(1, .pointer (some ⟨g4, 0, none⟩)), (20, .int .i64 a0.Kind), (56, .bool (a0.Kind == (4 : Int)))] (by kernel_rfl) fun a ha => ?_
        refine hK53 _ _ ?_; try clear hK53 K53
        refine cnd ha rfl (fun hc54 => ?_) (fun hc54 => ?_)
        ·have H := ite_t hc54 H
         refine wp_skip ?_
         obtain rfl := Option.some.inj H
         exact J30 _ _ (ha.sel (by kernel_rfl)) f1 hE6 hn7 hC hM
        ·have H := ite_f hc54 H
         refine wp_region_lit ?_
         refine seg ha 2 [(1, .pointer (some ⟨g4, 0, none⟩)), (20, .int .i64 a0.Kind), (56, .bool (a0.Kind == (5 : Int)))] (by kernel_rfl) fun a ha => ?_
         obtain rfl := Option.some.inj H
         exact J30 _ _ (ha.sel (by kernel_rfl)) f1 hE6 hn7 hC hM
     have H := H24
     refine wp_seq_k fun K55 hK55 => ?_
     refine wp_region_lit ?_
     refine seg ha 2 [(1, .pointer (some ⟨g4, 0, none⟩)), (20, .int .i64 a0.Kind), (43, .bool (a0.Kind == (2 : Int)))] (by kernel_rfl) fun a ha => ?_
     refine hK55 _ _ ?_; try clear hK55 K55
     refine cnd ha rfl (fun hc56 => ?_) (fun hc56 => ?_)
     ·have H := ite_t hc56 H
      refine wp_skip ?_
      obtain rfl := Option.some.inj H
      exact J24 _ _ (ha.sel (by kernel_rfl)) f1 hE6 hn7 hC hM
     ·have H := ite_f hc56 H
      refine wp_region_lit ?_
      refine seg ha 2 [(1, .pointer (some ⟨g4, 0, none⟩)), (20, .int .i64 a0.Kind), (43, .bool (a0.Kind == (7 : Int)))] (by kernel_rfl) fun a ha => ?_
      obtain rfl := Option.some.inj H
      exact J24 _ _ (ha.sel (by kernel_rfl)) f1 hE6 hn7 hC hM
 have H := H10
 refine seg ha 1 [(1, .pointer (some ⟨g4, 0, none⟩)), (5, .pointer (some ⟨g4, 0 + 3, none⟩))] (by kernel_rfl) fun a ha => ?_
 refine ldA (cs := (cS_api_Addr a0.Root)) ha rfl (by kernel_rfl) rfl rfl rfl (cells_sub hE6 (all := (cS_api_Tunnel a0 ao1 cap1)) [.bool a0.Leaf, .int .i64 a0.Kind, .int .i64 a0.Label] [.slice ao1 a0.Id.length cap1] (by kernel_rfl)) fun a ha => ?_
 obtain ⟨t57, H57, H⟩ := bind_some H
 refine cl ha (by rfl) (by kernel_rfl) (by rfl) (by rfl) (by rfl) (addr_Right.walk w3 _ hM a0.Root k _ H57) ?_
 rintro _ w57 ⟨rfl, hc57, hMn⟩ a ha
 have o1 : Ok [] (M) w3.heap.size := Ok.nil _ _
 have o2 : Ok (M) (M) w3.heap.size := (Ok.refl _ _)
 have f1 := f1.chg hc57 o1 o2
 have q_hn7 : g4 ∉ M := fun h => (o2 g4 h).elim hn7 (fun h => absurd (lt_cell (hE6 0 _ rfl)) (Nat.not_lt.2 h))
 have hE6 : ∀ j v, (cS_api_Tunnel a0 ao1 cap1)[j]? = some v → w57.cell? ⟨g4, 0 + j, none⟩ = some v := fun j v hv => (cell_keep hc57 o1 hn7 (hE6 j v hv))
 have hn7 := q_hn7
 have hM : MS (M) w57 := (hM.chg hc57)
 have hC := hC.trans hc57 (Ok.nil _ _)
 refine seg ha 2 [(9, .bool (!t57)), (1, .pointer (some ⟨g4, 0, none⟩))] (by kernel_rfl) fun a ha => ?_
 rcases Bool.eq_false_or_eq_true (!t57) with hb58 | hb58
 ·have ha := ha.lit hb58
  have H := ite_t hb58 H
  refine sgh ha 9 [1, 1, 1, 3, 0, 1, 1, 1, 3] [(1, .pointer (some ⟨g4, 0, none⟩)), (18, .bool true)] (by kernel_rfl) fun a ha => ?_
  obtain rfl := Option.some.inj H
  exact J10 _ _ (ha.sel (by kernel_rfl)) f1 hE6 hn7 hC hM
 ·have ha := ha.lit hb58
  have H := ite_f hb58 H
  refine sgh ha 1 [2] [(1, .pointer (some ⟨g4, 0, none⟩)), (9, .bool false), (10, .pointer (some ⟨g4, 0 + 2, none⟩))] (by kernel_rfl) fun a ha => ?_
  refine ld ha rfl (by kernel_rfl) rfl rfl rfl (hE6 2 (.int .i64 a0.Label) (by kernel_rfl)) fun a ha => ?_
  refine sgh ha 3 [2, 4, 0] [(14, .bool (decide (a0.Label < (0 : Int)))), (1, .pointer (some ⟨g4, 0, none⟩))] (by kernel_rfl) fun a ha => ?_
  rcases Bool.eq_false_or_eq_true (decide (a0.Label < (0 : Int))) with hb59 | hb59
  ·have ha := ha.lit hb59
   have H := ite_t hb59 H
   refine sgh ha 4 [1, 1, 1, 3] [(1, .pointer (some ⟨g4, 0, none⟩)), (18, .bool true)] (by kernel_rfl) fun a ha => ?_
   obtain rfl := Option.some.inj H
   exact J10 _ _ (ha.sel (by kernel_rfl)) f1 hE6 hn7 hC hM
  ·have ha := ha.lit hb59
   have H := ite_f hb59 H
   refine sgh ha 1 [2] [(1, .pointer (some ⟨g4, 0, none⟩)), (14, .bool false), (15, .pointer (some ⟨g4, 0 + 2, none⟩))] (by kernel_rfl) fun a ha => ?_
   refine ld ha rfl (by kernel_rfl) rfl rfl rfl (hE6 2 (.int .i64 a0.Label) (by kernel_rfl)) fun a ha => ?_
   refine sgh ha 2 [2, 4] [(1, .pointer (some ⟨g4, 0, none⟩)), (18, .bool (decide (a0.Label > (1048575 : Int))))] (by kernel_rfl) fun a ha => ?_
   obtain rfl := Option.some.inj H
   exact J10 _ _ (ha.sel (by kernel_rfl)) f1 hE6 hn7 hC hM
def attr_Right_2.f (k : Nat) (a0 : S_api_Tunnel) : Option (Bool) := (pmsi_Right.f k a0).bind fun t9 => some ((!t9 : Bool))
set_option maxRecDepth 100000 in
theorem attr_Right_2.walk (w : World) (M : List Nat) (hM : MS M w) (a0 : S_api_Tunnel) (ao1 : Option Addr) (cap1 : Nat) (f1 : RSl (rInt .u8) 5 w M ao1 cap1 a0.Id) (k : Nat) (r : Bool) (H : attr_Right_2.f k a0 = some r) :
    To Tryd.prog 74 [.agg (cS_api_Tunnel a0 ao1 cap1).toArray] w fun v w' => v = .bool r ∧ Chg [] w w' ∧ MS (M) w' := by
 unfold attr_Right_2.f at H
 refine ent Tryd.func74 rfl [(0, .agg (cS_api_Tunnel a0 ao1 cap1).toArray)] rfl (by rfl) fun a ha => ?_
 have hC : Chg [] w w := Chg.refl _ _
 refine wp_seq_k fun K2 hK2 => ?_
 refine wp_region_lit ?_
 refine bx (cs := (cS_api_Tunnel a0 ao1 cap1)) ha rfl rfl rfl rfl rfl fun a w3 g4 hN5 ha => ?_
 have hn7 := hN5.notin hM
 have o1 : Ok [] (M) w.heap.size := Ok.nil _ _
 have o2 : Ok (M) (M) w.heap.size := (Ok.refl _ _)
 have f1 := f1.chg hN5.chg o1 o2
 have hM : MS (M) w3 := (hM.chg hN5.chg)
 have hC := hC.trans hN5.chg (Ok.nil _ _)
 have hE6 : ∀ j v, (cS_api_Tunnel a0 ao1 cap1)[j]? = some v → w3.cell? ⟨g4, 0 + j, none⟩ = some v := Box.cells (New.box hN5)
 refine seg ha 1 [(1, .pointer (some ⟨g4, 0, none⟩))] (by kernel_rfl) fun a ha => ?_
 refine hK2 _ _ ?_; try clear hK2 K2
 refine wp_seq_k fun K8 hK8 => ?_
 refine wp_region_lit ?_
 refine ldA (cs := (cS_api_Tunnel a0 ao1 cap1)) ha rfl (by kernel_rfl) rfl rfl rfl (cells_sub hE6 (all := (cS_api_Tunnel a0 ao1 cap1)) [] [] (by kernel_rfl)) fun a ha => ?_
 obtain ⟨t9, H9, H⟩ := bind_some H
 refine cl ha (by rfl) (by kernel_rfl) (by rfl) (by rfl) (by rfl) (pmsi_Right.walk w3 _ hM a0 ao1 cap1 f1 k _ H9) ?_
 rintro _ w9 ⟨rfl, hc9, hMn⟩ a ha
 have o1 : Ok [] (M) w3.heap.size := Ok.nil _ _
 have o2 : Ok (M) (M) w3.heap.size := (Ok.refl _ _)
 have f1 := f1.chg hc9 o1 o2
 have hM : MS (M) w9 := (hM.chg hc9)
 have hC := hC.trans hc9 (Ok.nil _ _)
 refine seg ha 2 [(2, .bool (!t9))] (by kernel_rfl) fun a ha => ?_
 refine hK8 _ _ ?_; try clear hK8 K8
 refine wp_ret ?_
 try simp only [Exit.then, Exit.inBlock]
 obtain rfl := Option.some.inj H
 refine rt1 ha rfl rfl ?_
 exact ⟨rfl, hC, hM⟩
def api_Tunnel_93_attr_Right_2.l0 (k : Nat) (a0 : List S_api_Tunnel) : Nat → Int → Option ((Int) ⊕ (Unit))
  | 0, _ => none
  | kk + 1, x6 => (if (decide (x6 < (a0.length : Int))) = true then (if 0 ≤ x6 ∧ x6 < (a0.length : Int) then (attr_Right_2.f k (rd a0 x6)).bind fun t22 => (if t22 = true then some (.inl ((x6 : Int))) else api_Tunnel_93_attr_Right_2.l0 k a0 kk (IntKind.i64.wrap (x6 + (1 : Int)))) else none) else some (.inr (() : Unit)))
def api_Tunnel_93_attr_Right_2.f (k : Nat) (a0 : List S_api_Tunnel) : Option (Int) := (api_Tunnel_93_attr_Right_2.l0 k a0 k (0 : Int)).bind fun s5 => match s5 with | .inl r => some r | .inr s5' => some (((-1 : Int) : Int))
set_option maxRecDepth 100000 in
theorem api_Tunnel_93_attr_Right_2.walk (w : World) (M : List Nat) (hM : MS M w) (a0 : List S_api_Tunnel) (ao1 : Option Addr) (cap1 : Nat) (f1 : RSl rS_api_Tunnel 27 w M ao1 cap1 a0) (k : Nat) (r : Int) (H : api_Tunnel_93_attr_Right_2.f k a0 = some r) :
    To Tryd.prog 93 [.slice ao1 a0.length cap1, .func (.func 74) #[] #[]] w fun v w' => v = .int .i64 r ∧ Chg [] w w' ∧ MS (M) w' := by
 unfold api_Tunnel_93_attr_Right_2.f at H
 refine ent Tryd.func93 rfl [(0, .slice ao1 a0.length cap1), (1, .func (.func 74) #[] #[])] rfl (by rfl) fun a ha => ?_
 have hC : Chg [] w w := Chg.refl _ _
 refine wp_seq_k fun K2 hK2 => ?_
 refine wp_region_lit ?_
 refine seg ha 1 [(0, .slice ao1 a0.length cap1), (1, .func (.func 74) #[] #[])] (by kernel_rfl) fun a ha => ?_
 refine hK2 _ _ ?_; try clear hK2 K2
 refine wp_seq_k fun K3 hK3 => ?_
 refine wp_seq_k fun K4 hK4 => ?_
 refine wp_region_lit ?_
 refine seg ha 3 [(0, .slice ao1 a0.length cap1), (1, .func (.func 74) #[] #[]), (7, .int .i64 (a0.length : Int)), (8, .int .i64 (0 : Int))] (by kernel_rfl) fun a ha => ?_
 refine hK4 _ _ ?_; try clear hK4 K4
 refine wp_block ?_
 obtain ⟨s5, H5, H⟩ := bind_some H
 have J5 : ∀ s5' (a : Act) (wx5 : World), s5 = .inr s5' → Has a Tryd.f93.ntmps [] → (Chg [] w wx5) → (MS (M) wx5) → K3 a wx5 := by
  intro s5' a wx5 hs ha hC hM
  subst hs
  refine hK3 _ _ ?_; try clear hK3 K3
  refine wp_seq_k fun K7 hK7 => ?_
  refine wp_region_lit ?_
  refine seg ha 1 [(4, .int .i64 (-1 : Int))] (by kernel_rfl) fun a ha => ?_
  refine hK7 _ _ ?_; try clear hK7 K7
  refine wp_ret ?_
  try simp only [Exit.then, Exit.inBlock]
  obtain rfl := Option.some.inj H
  refine rt1 ha rfl rfl ?_
  exact ⟨rfl, hC, hM⟩
 have Hc5 := H
 have H := H5
 refine wp_loop_ghost (fun kk a w5 => ∃ (x6 : Int), api_Tunnel_93_attr_Right_2.l0 k a0 kk x6 = some s5 ∧ Has a Tryd.f93.ntmps [(0, .slice ao1 a0.length cap1), (1, .func (.func 74) #[] #[]), (7, .int .i64 (a0.length : Int)), (8, .int .i64 x6)] ∧ (RSl rS_api_Tunnel 27 w5 (M) ao1 cap1 a0) ∧ (Chg [] w w5) ∧ (MS (M) w5)) k ?_ ?_
 ·skip
  exact ⟨(0 : Int), H, (ha.sel (by kernel_rfl)), f1, hC, hM⟩
 ·rintro kk a w5 ⟨x6, H, ha, f1, hC, hM⟩
  obtain _ | kk := kk
  ·exact nomatch (show none = some _ from H)
  rw [api_Tunnel_93_attr_Right_2.l0] at H
  refine wp_seq_k fun K8 hK8 => ?_
  refine wp_region_lit ?_
  refine seg ha 1 [(0, .slice ao1 a0.length cap1), (1, .func (.func 74) #[] #[]), (7, .int .i64 (a0.length : Int)), (8, .int .i64 x6), (9, .bool (decide (x6 < (a0.length : Int))))] (by kernel_rfl) fun a ha => ?_
  refine hK8 _ _ ?_; try clear hK8 K8
  refine wp_seq_k fun K9 hK9 => ?_
  refine cnd ha rfl (fun hc10 => ?_) (fun hc10 => ?_)
  ·have H := ite_t hc10 H
   refine wp_skip ?_
   refine hK9 _ _ ?_; try clear hK9 K9
   refine wp_seq_k fun K11 hK11 => ?_
   refine wp_block ?_
   refine wp_seq_k fun K12 hK12 => ?_
   refine wp_region_lit ?_
   refine seg ha 2 [(0, .slice ao1 a0.length cap1), (1, .func (.func 74) #[] #[]), (5, .int .i64 x6), (7, .int .i64 (a0.length : Int)), (8, .int .i64 x6)] (by kernel_rfl) fun a ha => ?_
   refine hK12 _ _ ?_; try clear hK12 K12
   refine wp_seq_k fun K13 hK13 => ?_
   refine wp_region_lit ?_
   refine seg ha 3 [(0, .slice ao1 a0.length cap1), (1, .func (.func 74) #[] #[]), (5, .int .i64 x6), (7, .int .i64 (a0.length : Int)), (8, .int .i64 x6), (11, .func (.func 74) #[] #[]), (12, .slice ao1 a0.length cap1), (13, .int .i64 x6)] (by kernel_rfl) fun a ha => ?_
   obtain ⟨⟨hx14, hx14'⟩, H⟩ := ite_some H
   refine ix (r := rS_api_Tunnel) ha (by kernel_rfl) (by kernel_rfl) rfl rfl rfl rfl rfl f1 hx14 hx14' fun a ge15 oe16 cs17 hn20 hR18 hE19 ha => ?_
   rw [rd_get] at hR18
   obtain ⟨ao21, cap21, rfl, f21⟩ := rS_api_Tunnel.open hR18
   refine ldA (cs := (cS_api_Tunnel (rd a0 x6) ao21 cap21)) ha rfl (by kernel_rfl) rfl rfl rfl (cells_sub hE19 (all := (cS_api_Tunnel (rd a0 x6) ao21 cap21)) [] [] (by kernel_rfl)) fun a ha => ?_
   obtain ⟨t22, H22, H⟩ := bind_some H
   refine clv ha (by rfl) (by rfl) (by kernel_rfl) (by rfl) (by rfl) (by rfl) (attr_Right_2.walk w5 _ hM (rd a0 x6) ao21 cap21 f21 k _ H22) ?_
   rintro _ w22 ⟨rfl, hc22, hMn⟩ a ha
   have o1 : Ok [] (M) w5.heap.size := Ok.nil _ _
   have o2 : Ok (M) (M) w5.heap.size := (Ok.refl _ _)
   have f1 := f1.chg hc22 o1 o2
   have f21 := f21.chg hc22 o1 o2
   have hM : MS (M) w22 := (hM.chg hc22)
   have hC := hC.trans hc22 (Ok.nil _ _)
   refine hK13 _ _ ?_; try clear hK13 K13
   refine cnd ha rfl (fun hc23 => ?_) (fun hc23 => ?_)
   ·have H := ite_t hc23 H
    refine wp_seq_k fun K24 hK24 => ?_
    refine wp_region_lit ?_
    refine seg ha 2 [(4, .int .i64 x6)] (by kernel_rfl) fun a ha => ?_
    refine hK24 _ _ ?_; try clear hK24 K24
    refine wp_ret ?_
    try simp only [Exit.then, Exit.inBlock]
    obtain rfl := Option.some.inj H
    have H := (show some _ = some _ from Hc5)
    obtain rfl := Option.some.inj H
    refine rt1 ha rfl rfl ?_
    exact ⟨rfl, hC, hM⟩
   ·have H := ite_f hc23 H
    refine wp_skip ?_
    refine hK11 _ _ ?_; try clear hK11 K11
    refine wp_region_lit ?_
    refine seg ha 2 [(0, .slice ao1 a0.length cap1), (1, .func (.func 74) #[] #[]), (7, .int .i64 (a0.length : Int)), (8, .int .i64 (IntKind.i64.wrap (x6 + (1 : Int))))] (by kernel_rfl) fun a ha => ?_
    exact ⟨kk, Nat.lt_succ_self _, ⟨IntKind.i64.wrap (x6 + (1 : Int)), H, (ha.sel (by kernel_rfl)), f1, hC, hM⟩⟩
  ·have H := ite_f hc10 H
   refine wp_exit ?_
   simp only [Exit.then, Exit.inBlock, ↓reduceIte, Nat.reduceEqDiff]
   obtain rfl := Option.some.inj H
   exact J5 _ _ _ rfl (ha.sel (by kernel_rfl)) hC hM
def api_Tunnel_attr_Right_2.f (k : Nat) (a0 : List S_api_Tunnel) : Option (Bool) := (api_Tunnel_93_attr_Right_2.f k a0).bind fun t4 => some ((decide (t4 ≥ (0 : Int)) : Bool))
set_option maxRecDepth 100000 in
theorem api_Tunnel_attr_Right_2.walk (w : World) (M : List Nat) (hM : MS M w) (a0 : List S_api_Tunnel) (ao1 : Option Addr) (cap1 : Nat) (f1 : RSl rS_api_Tunnel 27 w M ao1 cap1 a0) (k : Nat) (r : Bool) (H : api_Tunnel_attr_Right_2.f k a0 = some r) :
    To Tryd.prog 73 [.slice ao1 a0.length cap1, .func (.func 74) #[] #[]] w fun v w' => v = .bool r ∧ Chg [] w w' ∧ MS (M) w' := by
 unfold api_Tunnel_attr_Right_2.f at H
 refine ent Tryd.func73 rfl [(0, .slice ao1 a0.length cap1), (1, .func (.func 74) #[] #[])] rfl (by rfl) fun a ha => ?_
 have hC : Chg [] w w := Chg.refl _ _
 refine wp_seq_k fun K2 hK2 => ?_
 refine wp_region_lit ?_
 refine seg ha 1 [(0, .slice ao1 a0.length cap1), (1, .func (.func 74) #[] #[])] (by kernel_rfl) fun a ha => ?_
 refine hK2 _ _ ?_; try clear hK2 K2
 refine wp_seq_k fun K3 hK3 => ?_
 refine wp_region_lit ?_
 refine seg ha 2 [(5, .slice ao1 a0.length cap1), (6, .func (.func 74) #[] #[])] (by kernel_rfl) fun a ha => ?_
 obtain ⟨t4, H4, H⟩ := bind_some H
 refine cl ha (by rfl) (by kernel_rfl) (by rfl) (by rfl) (by rfl) (api_Tunnel_93_attr_Right_2.walk w _ hM a0 ao1 cap1 f1 k _ H4) ?_
 rintro _ w4 ⟨rfl, hc4, hMn⟩ a ha
 have o1 : Ok [] (M) w.heap.size := Ok.nil _ _
 have o2 : Ok (M) (M) w.heap.size := (Ok.refl _ _)
 have f1 := f1.chg hc4 o1 o2
 have hM : MS (M) w4 := (hM.chg hc4)
 have hC := hC.trans hc4 (Ok.nil _ _)
 refine seg ha 2 [(4, .bool (decide (t4 ≥ (0 : Int))))] (by kernel_rfl) fun a ha => ?_
 refine hK3 _ _ ?_; try clear hK3 K3
 refine wp_ret ?_
 try simp only [Exit.then, Exit.inBlock]
 obtain rfl := Option.some.inj H
 refine rt1 ha rfl rfl ?_
 exact ⟨rfl, hC, hM⟩
def attr_wrong_1.f (a0 : Int) : Option (Bool) := some ((if (decide (a0 < (0 : Int))) = true then true else (decide (a0 > (4294967295 : Int))) : Bool))
set_option maxRecDepth 100000 in
theorem attr_wrong_1.walk (w : World) (M : List Nat) (hM : MS M w) (a0 : Int) (r : Bool) (H : attr_wrong_1.f a0 = some r) :
    To Tryd.prog 112 [.int .i64 a0] w fun v w' => v = .bool r ∧ Chg [] w w' ∧ MS (M) w' := by
 unfold attr_wrong_1.f at H
 refine ent Tryd.func112 rfl [(0, .int .i64 a0)] rfl (by rfl) fun a ha => ?_
 have hC : Chg [] w w := Chg.refl _ _
 refine wp_seq_k fun K1 hK1 => ?_
 refine wp_region_lit ?_
 refine seg ha 1 [(0, .int .i64 a0)] (by kernel_rfl) fun a ha => ?_
 refine hK1 _ _ ?_; try clear hK1 K1
 refine wp_seq_k fun K2 hK2 => ?_
 refine wp_region_lit ?_
 refine seg ha 7 [(2, .bool (if (decide (a0 < (0 : Int))) = true then true else (decide (a0 > (4294967295 : Int)))))] (by kernel_rfl) fun a ha => ?_
 refine hK2 _ _ ?_; try clear hK2 K2
 refine wp_ret ?_
 try simp only [Exit.then, Exit.inBlock]
 obtain rfl := Option.some.inj H
 refine rt1 ha rfl rfl ?_
 exact ⟨rfl, hC, hM⟩
def slices_IndexFunc_int_int_attr_wrong_1.l0 (a0 : List Int) : Nat → Int → Option ((Int) ⊕ (Unit))
  | 0, _ => none
  | kk + 1, x6 => (if (decide (x6 < (a0.length : Int))) = true then (if 0 ≤ x6 ∧ x6 < (a0.length : Int) then (attr_wrong_1.f (rd a0 x6)).bind fun t21 => (if t21 = true then some (.inl ((x6 : Int))) else slices_IndexFunc_int_int_attr_wrong_1.l0 a0 kk (IntKind.i64.wrap (x6 + (1 : Int)))) else none) else some (.inr (() : Unit)))
def slices_IndexFunc_int_int_attr_wrong_1.f (k : Nat) (a0 : List Int) : Option (Int) := (slices_IndexFunc_int_int_attr_wrong_1.l0 a0 k (0 : Int)).bind fun s5 => match s5 with | .inl r => some r | .inr s5' => some (((-1 : Int) : Int))
set_option maxRecDepth 100000 in
theorem slices_IndexFunc_int_int_attr_wrong_1.walk (w : World) (M : List Nat) (hM : MS M w) (a0 : List Int) (ao1 : Option Addr) (cap1 : Nat) (f1 : RSl (rInt .i64) 3 w M ao1 cap1 a0) (k : Nat) (r : Int) (H : slices_IndexFunc_int_int_attr_wrong_1.f k a0 = some r) :
    To Tryd.prog 120 [.slice ao1 a0.length cap1, .func (.func 112) #[] #[]] w fun v w' => v = .int .i64 r ∧ Chg [] w w' ∧ MS (M) w' := by
 unfold slices_IndexFunc_int_int_attr_wrong_1.f at H
 refine ent Tryd.func120 rfl [(0, .slice ao1 a0.length cap1), (1, .func (.func 112) #[] #[])] rfl (by rfl) fun a ha => ?_
 have hC : Chg [] w w := Chg.refl _ _
 refine wp_seq_k fun K2 hK2 => ?_
 refine wp_region_lit ?_
 refine seg ha 1 [(0, .slice ao1 a0.length cap1), (1, .func (.func 112) #[] #[])] (by kernel_rfl) fun a ha => ?_
 refine hK2 _ _ ?_; try clear hK2 K2
 refine wp_seq_k fun K3 hK3 => ?_
 refine wp_seq_k fun K4 hK4 => ?_
 refine wp_region_lit ?_
 refine seg ha 3 [(0, .slice ao1 a0.length cap1), (1, .func (.func 112) #[] #[]), (7, .int .i64 (a0.length : Int)), (8, .int .i64 (0 : Int))] (by kernel_rfl) fun a ha => ?_
 refine hK4 _ _ ?_; try clear hK4 K4
 refine wp_block ?_
 obtain ⟨s5, H5, H⟩ := bind_some H
 have J5 : ∀ s5' (a : Act) (wx5 : World), s5 = .inr s5' → Has a Tryd.f120.ntmps [] → (Chg [] w wx5) → (MS (M) wx5) → K3 a wx5 := by
  intro s5' a wx5 hs ha hC hM
  subst hs
  refine hK3 _ _ ?_; try clear hK3 K3
  refine wp_seq_k fun K7 hK7 => ?_
  refine wp_region_lit ?_
  refine seg ha 1 [(4, .int .i64 (-1 : Int))] (by kernel_rfl) fun a ha => ?_
  refine hK7 _ _ ?_; try clear hK7 K7
  refine wp_ret ?_
  try simp only [Exit.then, Exit.inBlock]
  obtain rfl := Option.some.inj H
  refine rt1 ha rfl rfl ?_
  exact ⟨rfl, hC, hM⟩
 have Hc5 := H
 have H := H5
 refine wp_loop_ghost (fun kk a w5 => ∃ (x6 : Int), slices_IndexFunc_int_int_attr_wrong_1.l0 a0 kk x6 = some s5 ∧ Has a Tryd.f120.ntmps [(0, .slice ao1 a0.length cap1), (1, .func (.func 112) #[] #[]), (7, .int .i64 (a0.length : Int)), (8, .int .i64 x6)] ∧ (RSl (rInt .i64) 3 w5 (M) ao1 cap1 a0) ∧ (Chg [] w w5) ∧ (MS (M) w5)) k ?_ ?_
 ·skip
  exact ⟨(0 : Int), H, (ha.sel (by kernel_rfl)), f1, hC, hM⟩
 ·rintro kk a w5 ⟨x6, H, ha, f1, hC, hM⟩
  obtain _ | kk := kk
  ·exact nomatch (show none = some _ from H)
  rw [slices_IndexFunc_int_int_attr_wrong_1.l0] at H
  refine wp_seq_k fun K8 hK8 => ?_
  refine wp_region_lit ?_
  refine seg ha 1 [(0, .slice ao1 a0.length cap1), (1, .func (.func 112) #[] #[]), (7, .int .i64 (a0.length : Int)), (8, .int .i64 x6), (9, .bool (decide (x6 < (a0.length : Int))))] (by kernel_rfl) fun a ha => ?_
  refine hK8 _ _ ?_; try clear hK8 K8
  refine wp_seq_k fun K9 hK9 => ?_
  refine cnd ha rfl (fun hc10 => ?_) (fun hc10 => ?_)
  ·have H := ite_t hc10 H
   refine wp_skip ?_
   refine hK9 _ _ ?_; try clear hK9 K9
   refine wp_seq_k fun K11 hK11 => ?_
   refine wp_block ?_
   refine wp_seq_k fun K12 hK12 => ?_
   refine wp_region_lit ?_
   refine seg ha 2 [(0, .slice ao1 a0.length cap1), (1, .func (.func 112) #[] #[]), (5, .int .i64 x6), (7, .int .i64 (a0.length : Int)), (8, .int .i64 x6)] (by kernel_rfl) fun a ha => ?_
   refine hK12 _ _ ?_; try clear hK12 K12
   refine wp_seq_k fun K13 hK13 => ?_
   refine wp_region_lit ?_
   refine seg ha 3 [(0, .slice ao1 a0.length cap1), (1, .func (.func 112) #[] #[]), (5, .int .i64 x6), (7, .int .i64 (a0.length : Int)), (8, .int .i64 x6), (11, .func (.func 112) #[] #[]), (12, .slice ao1 a0.length cap1), (13, .int .i64 x6)] (by kernel_rfl) fun a ha => ?_
   obtain ⟨⟨hx14, hx14'⟩, H⟩ := ite_some H
   refine ix (r := (rInt .i64)) ha (by kernel_rfl) (by kernel_rfl) rfl rfl rfl rfl rfl f1 hx14 hx14' fun a ge15 oe16 cs17 hn20 hR18 hE19 ha => ?_
   rw [rd_get] at hR18
   obtain rfl := hR18
   have hE19 : ∀ j v, ([.int .i64 (rd a0 x6)] : List Value)[j]? = some v → w5.cell? ⟨ge15, oe16 + j, none⟩ = some v := hE19
   refine ld ha rfl (by kernel_rfl) rfl rfl rfl (hE19 0 (.int .i64 (rd a0 x6)) (by kernel_rfl)) fun a ha => ?_
   obtain ⟨t21, H21, H⟩ := bind_some H
   refine clv ha (by rfl) (by rfl) (by kernel_rfl) (by rfl) (by rfl) (by rfl) (attr_wrong_1.walk w5 _ hM (rd a0 x6) _ H21) ?_
   rintro _ w21 ⟨rfl, hc21, hMn⟩ a ha
   have o1 : Ok [] (M) w5.heap.size := Ok.nil _ _
   have o2 : Ok (M) (M) w5.heap.size := (Ok.refl _ _)
   have f1 := f1.chg hc21 o1 o2
   have hM : MS (M) w21 := (hM.chg hc21)
   have hC := hC.trans hc21 (Ok.nil _ _)
   refine hK13 _ _ ?_; try clear hK13 K13
   refine cnd ha rfl (fun hc22 => ?_) (fun hc22 => ?_)
   ·have H := ite_t hc22 H
    refine wp_seq_k fun K23 hK23 => ?_
    refine wp_region_lit ?_
    refine seg ha 2 [(4, .int .i64 x6)] (by kernel_rfl) fun a ha => ?_
    refine hK23 _ _ ?_; try clear hK23 K23
    refine wp_ret ?_
    try simp only [Exit.then, Exit.inBlock]
    obtain rfl := Option.some.inj H
    have H := (show some _ = some _ from Hc5)
    obtain rfl := Option.some.inj H
    refine rt1 ha rfl rfl ?_
    exact ⟨rfl, hC, hM⟩
   ·have H := ite_f hc22 H
    refine wp_skip ?_
    refine hK11 _ _ ?_; try clear hK11 K11
    refine wp_region_lit ?_
    refine seg ha 2 [(0, .slice ao1 a0.length cap1), (1, .func (.func 112) #[] #[]), (7, .int .i64 (a0.length : Int)), (8, .int .i64 (IntKind.i64.wrap (x6 + (1 : Int))))] (by kernel_rfl) fun a ha => ?_
    exact ⟨kk, Nat.lt_succ_self _, ⟨IntKind.i64.wrap (x6 + (1 : Int)), H, (ha.sel (by kernel_rfl)), f1, hC, hM⟩⟩
  ·have H := ite_f hc10 H
   refine wp_exit ?_
   simp only [Exit.then, Exit.inBlock, ↓reduceIte, Nat.reduceEqDiff]
   obtain rfl := Option.some.inj H
   exact J5 _ _ _ rfl (ha.sel (by kernel_rfl)) hC hM
def slices_ContainsFunc_int_int_attr_wrong_1.f (k : Nat) (a0 : List Int) : Option (Bool) := (slices_IndexFunc_int_int_attr_wrong_1.f k a0).bind fun t4 => some ((decide (t4 ≥ (0 : Int)) : Bool))
set_option maxRecDepth 100000 in
theorem slices_ContainsFunc_int_int_attr_wrong_1.walk (w : World) (M : List Nat) (hM : MS M w) (a0 : List Int) (ao1 : Option Addr) (cap1 : Nat) (f1 : RSl (rInt .i64) 3 w M ao1 cap1 a0) (k : Nat) (r : Bool) (H : slices_ContainsFunc_int_int_attr_wrong_1.f k a0 = some r) :
    To Tryd.prog 111 [.slice ao1 a0.length cap1, .func (.func 112) #[] #[]] w fun v w' => v = .bool r ∧ Chg [] w w' ∧ MS (M) w' := by
 unfold slices_ContainsFunc_int_int_attr_wrong_1.f at H
 refine ent Tryd.func111 rfl [(0, .slice ao1 a0.length cap1), (1, .func (.func 112) #[] #[])] rfl (by rfl) fun a ha => ?_
 have hC : Chg [] w w := Chg.refl _ _
 refine wp_seq_k fun K2 hK2 => ?_
 refine wp_region_lit ?_
 refine seg ha 1 [(0, .slice ao1 a0.length cap1), (1, .func (.func 112) #[] #[])] (by kernel_rfl) fun a ha => ?_
 refine hK2 _ _ ?_; try clear hK2 K2
 refine wp_seq_k fun K3 hK3 => ?_
 refine wp_region_lit ?_
 refine seg ha 2 [(5, .slice ao1 a0.length cap1), (6, .func (.func 112) #[] #[])] (by kernel_rfl) fun a ha => ?_
 obtain ⟨t4, H4, H⟩ := bind_some H
 refine cl ha (by rfl) (by kernel_rfl) (by rfl) (by rfl) (by rfl) (slices_IndexFunc_int_int_attr_wrong_1.walk w _ hM a0 ao1 cap1 f1 k _ H4) ?_
 rintro _ w4 ⟨rfl, hc4, hMn⟩ a ha
 have o1 : Ok [] (M) w.heap.size := Ok.nil _ _
 have o2 : Ok (M) (M) w.heap.size := (Ok.refl _ _)
 have f1 := f1.chg hc4 o1 o2
 have hM : MS (M) w4 := (hM.chg hc4)
 have hC := hC.trans hc4 (Ok.nil _ _)
 refine seg ha 2 [(4, .bool (decide (t4 ≥ (0 : Int))))] (by kernel_rfl) fun a ha => ?_
 refine hK3 _ _ ?_; try clear hK3 K3
 refine wp_ret ?_
 try simp only [Exit.then, Exit.inBlock]
 obtain rfl := Option.some.inj H
 refine rt1 ha rfl rfl ?_
 exact ⟨rfl, hC, hM⟩
def attr_wrong.f (k : Nat) (a0 : S_api_Segment) : Option (Bool) := ((if (decide ((a0.AS.length : Int) < (1 : Int))) = true then some (true : Bool) else (if (decide ((a0.AS.length : Int) > (255 : Int))) = true then some (true : Bool) else (slices_ContainsFunc_int_int_attr_wrong_1.f k a0.AS).bind fun t12 => some (t12 : Bool)))).bind fun s9 => some ((s9 : Bool))
set_option maxRecDepth 100000 in
theorem attr_wrong.walk (w : World) (M : List Nat) (hM : MS M w) (a0 : S_api_Segment) (ao1 : Option Addr) (cap1 : Nat) (f1 : RSl (rInt .i64) 3 w M ao1 cap1 a0.AS) (k : Nat) (r : Bool) (H : attr_wrong.f k a0 = some r) :
    To Tryd.prog 95 [.agg (cS_api_Segment a0 ao1 cap1).toArray] w fun v w' => v = .bool r ∧ Chg [] w w' ∧ MS (M) w' := by
 unfold attr_wrong.f at H
 refine ent Tryd.func95 rfl [(0, .agg (cS_api_Segment a0 ao1 cap1).toArray)] rfl (by rfl) fun a ha => ?_
 have hC : Chg [] w w := Chg.refl _ _
 refine wp_seq_k fun K2 hK2 => ?_
 refine wp_region_lit ?_
 refine bx (cs := (cS_api_Segment a0 ao1 cap1)) ha rfl rfl rfl rfl rfl fun a w3 g4 hN5 ha => ?_
 have hn7 := hN5.notin hM
 have o1 : Ok [] (M) w.heap.size := Ok.nil _ _
 have o2 : Ok (M) (M) w.heap.size := (Ok.refl _ _)
 have f1 := f1.chg hN5.chg o1 o2
 have hM : MS (M) w3 := (hM.chg hN5.chg)
 have hC := hC.trans hN5.chg (Ok.nil _ _)
 have hE6 : ∀ j v, (cS_api_Segment a0 ao1 cap1)[j]? = some v → w3.cell? ⟨g4, 0 + j, none⟩ = some v := Box.cells (New.box hN5)
 refine seg ha 1 [(1, .pointer (some ⟨g4, 0, none⟩))] (by kernel_rfl) fun a ha => ?_
 refine hK2 _ _ ?_; try clear hK2 K2
 refine wp_seq_k fun K8 hK8 => ?_
 refine wp_region_lit ?_
 obtain ⟨s9, H9, H⟩ := bind_some H
 have J9 : ∀ (a : Act) (w9 : World), Has a Tryd.f95.ntmps [(2, .bool s9)] → (Chg [] w w9) → (MS (M) w9) → K8 a w9 := by
  intro a w9 ha hC hM
  refine hK8 _ _ ?_; try clear hK8 K8
  refine wp_ret ?_
  try simp only [Exit.then, Exit.inBlock]
  obtain rfl := Option.some.inj H
  refine rt1 ha rfl rfl ?_
  exact ⟨rfl, hC, hM⟩
 have H := H9
 refine seg ha 1 [(1, .pointer (some ⟨g4, 0, none⟩)), (3, .pointer (some ⟨g4, 0 + 1, none⟩))] (by kernel_rfl) fun a ha => ?_
 refine ld ha rfl (by kernel_rfl) rfl rfl rfl (hE6 1 (.slice ao1 a0.AS.length cap1) (by kernel_rfl)) fun a ha => ?_
 refine seg ha 3 [(7, .bool (decide ((a0.AS.length : Int) < (1 : Int)))), (1, .pointer (some ⟨g4, 0, none⟩))] (by kernel_rfl) fun a ha => ?_
 rcases Bool.eq_false_or_eq_true (decide ((a0.AS.length : Int) < (1 : Int))) with hb10 | hb10
 ·have ha := ha.lit hb10
  have H := ite_t hb10 H
  refine sgh ha 11 [1, 1, 1, 1, 3, 0, 1, 1, 1, 3, 0] [(2, .bool true)] (by kernel_rfl) fun a ha => ?_
  obtain rfl := Option.some.inj H
  exact J9 _ _ (ha.sel (by kernel_rfl)) hC hM
 ·have ha := ha.lit hb10
  have H := ite_f hb10 H
  refine sgh ha 1 [2] [(1, .pointer (some ⟨g4, 0, none⟩)), (7, .bool false), (8, .pointer (some ⟨g4, 0 + 1, none⟩))] (by kernel_rfl) fun a ha => ?_
  refine ld ha rfl (by kernel_rfl) rfl rfl rfl (hE6 1 (.slice ao1 a0.AS.length cap1) (by kernel_rfl)) fun a ha => ?_
  refine sgh ha 4 [2, 2, 4, 0] [(13, .bool (decide ((a0.AS.length : Int) > (255 : Int)))), (1, .pointer (some ⟨g4, 0, none⟩))] (by kernel_rfl) fun a ha => ?_
  rcases Bool.eq_false_or_eq_true (decide ((a0.AS.length : Int) > (255 : Int))) with hb11 | hb11
  ·have ha := ha.lit hb11
   have H := ite_t hb11 H
   refine sgh ha 5 [1, 1, 1, 3, 0] [(2, .bool true)] (by kernel_rfl) fun a ha => ?_
   obtain rfl := Option.some.inj H
   exact J9 _ _ (ha.sel (by kernel_rfl)) hC hM
  ·have ha := ha.lit hb11
   have H := ite_f hb11 H
   refine sgh ha 1 [2] [(13, .bool false), (14, .pointer (some ⟨g4, 0 + 1, none⟩))] (by kernel_rfl) fun a ha => ?_
   refine ld ha rfl (by kernel_rfl) rfl rfl rfl (hE6 1 (.slice ao1 a0.AS.length cap1) (by kernel_rfl)) fun a ha => ?_
   obtain ⟨t12, H12, H⟩ := bind_some H
   refine cl ha (by rfl) (by kernel_rfl) (by rfl) (by rfl) (by rfl) (slices_ContainsFunc_int_int_attr_wrong_1.walk w3 _ hM a0.AS ao1 cap1 f1 k _ H12) ?_
   rintro _ w12 ⟨rfl, hc12, hMn⟩ a ha
   have o1 : Ok [] (M) w3.heap.size := Ok.nil _ _
   have o2 : Ok (M) (M) w3.heap.size := (Ok.refl _ _)
   have f1 := f1.chg hc12 o1 o2
   have hM : MS (M) w12 := (hM.chg hc12)
   have hC := hC.trans hc12 (Ok.nil _ _)
   refine sgh ha 2 [4, 0] [(2, .bool t12)] (by kernel_rfl) fun a ha => ?_
   obtain rfl := Option.some.inj H
   exact J9 _ _ (ha.sel (by kernel_rfl)) hC hM
def api_Segment_110_attr_wrong.l0 (k : Nat) (a0 : List S_api_Segment) : Nat → Int → Option ((Int) ⊕ (Unit))
  | 0, _ => none
  | kk + 1, x6 => (if (decide (x6 < (a0.length : Int))) = true then (if 0 ≤ x6 ∧ x6 < (a0.length : Int) then (attr_wrong.f k (rd a0 x6)).bind fun t22 => (if t22 = true then some (.inl ((x6 : Int))) else api_Segment_110_attr_wrong.l0 k a0 kk (IntKind.i64.wrap (x6 + (1 : Int)))) else none) else some (.inr (() : Unit)))
def api_Segment_110_attr_wrong.f (k : Nat) (a0 : List S_api_Segment) : Option (Int) := (api_Segment_110_attr_wrong.l0 k a0 k (0 : Int)).bind fun s5 => match s5 with | .inl r => some r | .inr s5' => some (((-1 : Int) : Int))
set_option maxRecDepth 100000 in
theorem api_Segment_110_attr_wrong.walk (w : World) (M : List Nat) (hM : MS M w) (a0 : List S_api_Segment) (ao1 : Option Addr) (cap1 : Nat) (f1 : RSl rS_api_Segment 93 w M ao1 cap1 a0) (k : Nat) (r : Int) (H : api_Segment_110_attr_wrong.f k a0 = some r) :
    To Tryd.prog 110 [.slice ao1 a0.length cap1, .func (.func 95) #[] #[]] w fun v w' => v = .int .i64 r ∧ Chg [] w w' ∧ MS (M) w' := by
 unfold api_Segment_110_attr_wrong.f at H
 refine ent Tryd.func110 rfl [(0, .slice ao1 a0.length cap1), (1, .func (.func 95) #[] #[])] rfl (by rfl) fun a ha => ?_
 have hC : Chg [] w w := Chg.refl _ _
 refine wp_seq_k fun K2 hK2 => ?_
 refine wp_region_lit ?_
 refine seg ha 1 [(0, .slice ao1 a0.length cap1), (1, .func (.func 95) #[] #[])] (by kernel_rfl) fun a ha => ?_
 refine hK2 _ _ ?_; try clear hK2 K2
 refine wp_seq_k fun K3 hK3 => ?_
 refine wp_seq_k fun K4 hK4 => ?_
 refine wp_region_lit ?_
 refine seg ha 3 [(0, .slice ao1 a0.length cap1), (1, .func (.func 95) #[] #[]), (7, .int .i64 (a0.length : Int)), (8, .int .i64 (0 : Int))] (by kernel_rfl) fun a ha => ?_
 refine hK4 _ _ ?_; try clear hK4 K4
 refine wp_block ?_
 obtain ⟨s5, H5, H⟩ := bind_some H
 have J5 : ∀ s5' (a : Act) (wx5 : World), s5 = .inr s5' → Has a Tryd.f110.ntmps [] → (Chg [] w wx5) → (MS (M) wx5) → K3 a wx5 := by
  intro s5' a wx5 hs ha hC hM
  subst hs
  refine hK3 _ _ ?_; try clear hK3 K3
  refine wp_seq_k fun K7 hK7 => ?_
  refine wp_region_lit ?_
  refine seg ha 1 [(4, .int .i64 (-1 : Int))] (by kernel_rfl) fun a ha => ?_
  refine hK7 _ _ ?_; try clear hK7 K7
  refine wp_ret ?_
  try simp only [Exit.then, Exit.inBlock]
  obtain rfl := Option.some.inj H
  refine rt1 ha rfl rfl ?_
  exact ⟨rfl, hC, hM⟩
 have Hc5 := H
 have H := H5
 refine wp_loop_ghost (fun kk a w5 => ∃ (x6 : Int), api_Segment_110_attr_wrong.l0 k a0 kk x6 = some s5 ∧ Has a Tryd.f110.ntmps [(0, .slice ao1 a0.length cap1), (1, .func (.func 95) #[] #[]), (7, .int .i64 (a0.length : Int)), (8, .int .i64 x6)] ∧ (RSl rS_api_Segment 93 w5 (M) ao1 cap1 a0) ∧ (Chg [] w w5) ∧ (MS (M) w5)) k ?_ ?_
 ·skip
  exact ⟨(0 : Int), H, (ha.sel (by kernel_rfl)), f1, hC, hM⟩
 ·rintro kk a w5 ⟨x6, H, ha, f1, hC, hM⟩
  obtain _ | kk := kk
  ·exact nomatch (show none = some _ from H)
  rw [api_Segment_110_attr_wrong.l0] at H
  refine wp_seq_k fun K8 hK8 => ?_
  refine wp_region_lit ?_
  refine seg ha 1 [(0, .slice ao1 a0.length cap1), (1, .func (.func 95) #[] #[]), (7, .int .i64 (a0.length : Int)), (8, .int .i64 x6), (9, .bool (decide (x6 < (a0.length : Int))))] (by kernel_rfl) fun a ha => ?_
  refine hK8 _ _ ?_; try clear hK8 K8
  refine wp_seq_k fun K9 hK9 => ?_
  refine cnd ha rfl (fun hc10 => ?_) (fun hc10 => ?_)
  ·have H := ite_t hc10 H
   refine wp_skip ?_
   refine hK9 _ _ ?_; try clear hK9 K9
   refine wp_seq_k fun K11 hK11 => ?_
   refine wp_block ?_
   refine wp_seq_k fun K12 hK12 => ?_
   refine wp_region_lit ?_
   refine seg ha 2 [(0, .slice ao1 a0.length cap1), (1, .func (.func 95) #[] #[]), (5, .int .i64 x6), (7, .int .i64 (a0.length : Int)), (8, .int .i64 x6)] (by kernel_rfl) fun a ha => ?_
   refine hK12 _ _ ?_; try clear hK12 K12
   refine wp_seq_k fun K13 hK13 => ?_
   refine wp_region_lit ?_
   refine seg ha 3 [(0, .slice ao1 a0.length cap1), (1, .func (.func 95) #[] #[]), (5, .int .i64 x6), (7, .int .i64 (a0.length : Int)), (8, .int .i64 x6), (11, .func (.func 95) #[] #[]), (12, .slice ao1 a0.length cap1), (13, .int .i64 x6)] (by kernel_rfl) fun a ha => ?_
   obtain ⟨⟨hx14, hx14'⟩, H⟩ := ite_some H
   refine ix (r := rS_api_Segment) ha (by kernel_rfl) (by kernel_rfl) rfl rfl rfl rfl rfl f1 hx14 hx14' fun a ge15 oe16 cs17 hn20 hR18 hE19 ha => ?_
   rw [rd_get] at hR18
   obtain ⟨ao21, cap21, rfl, f21⟩ := rS_api_Segment.open hR18
   refine ldA (cs := (cS_api_Segment (rd a0 x6) ao21 cap21)) ha rfl (by kernel_rfl) rfl rfl rfl (cells_sub hE19 (all := (cS_api_Segment (rd a0 x6) ao21 cap21)) [] [] (by kernel_rfl)) fun a ha => ?_
   obtain ⟨t22, H22, H⟩ := bind_some H
   refine clv ha (by rfl) (by rfl) (by kernel_rfl) (by rfl) (by rfl) (by rfl) (attr_wrong.walk w5 _ hM (rd a0 x6) ao21 cap21 f21 k _ H22) ?_
   rintro _ w22 ⟨rfl, hc22, hMn⟩ a ha
   have o1 : Ok [] (M) w5.heap.size := Ok.nil _ _
   have o2 : Ok (M) (M) w5.heap.size := (Ok.refl _ _)
   have f1 := f1.chg hc22 o1 o2
   have f21 := f21.chg hc22 o1 o2
   have hM : MS (M) w22 := (hM.chg hc22)
   have hC := hC.trans hc22 (Ok.nil _ _)
   refine hK13 _ _ ?_; try clear hK13 K13
   refine cnd ha rfl (fun hc23 => ?_) (fun hc23 => ?_)
   ·have H := ite_t hc23 H
    refine wp_seq_k fun K24 hK24 => ?_
    refine wp_region_lit ?_
    refine seg ha 2 [(4, .int .i64 x6)] (by kernel_rfl) fun a ha => ?_
    refine hK24 _ _ ?_; try clear hK24 K24
    refine wp_ret ?_
    try simp only [Exit.then, Exit.inBlock]
    obtain rfl := Option.some.inj H
    have H := (show some _ = some _ from Hc5)
    obtain rfl := Option.some.inj H
    refine rt1 ha rfl rfl ?_
    exact ⟨rfl, hC, hM⟩
   ·have H := ite_f hc23 H
    refine wp_skip ?_
    refine hK11 _ _ ?_; try clear hK11 K11
    refine wp_region_lit ?_
    refine seg ha 2 [(0, .slice ao1 a0.length cap1), (1, .func (.func 95) #[] #[]), (7, .int .i64 (a0.length : Int)), (8, .int .i64 (IntKind.i64.wrap (x6 + (1 : Int))))] (by kernel_rfl) fun a ha => ?_
    exact ⟨kk, Nat.lt_succ_self _, ⟨IntKind.i64.wrap (x6 + (1 : Int)), H, (ha.sel (by kernel_rfl)), f1, hC, hM⟩⟩
  ·have H := ite_f hc10 H
   refine wp_exit ?_
   simp only [Exit.then, Exit.inBlock, ↓reduceIte, Nat.reduceEqDiff]
   obtain rfl := Option.some.inj H
   exact J5 _ _ _ rfl (ha.sel (by kernel_rfl)) hC hM
def api_Segment_94_attr_wrong.f (k : Nat) (a0 : List S_api_Segment) : Option (Bool) := (api_Segment_110_attr_wrong.f k a0).bind fun t4 => some ((decide (t4 ≥ (0 : Int)) : Bool))
set_option maxRecDepth 100000 in
theorem api_Segment_94_attr_wrong.walk (w : World) (M : List Nat) (hM : MS M w) (a0 : List S_api_Segment) (ao1 : Option Addr) (cap1 : Nat) (f1 : RSl rS_api_Segment 93 w M ao1 cap1 a0) (k : Nat) (r : Bool) (H : api_Segment_94_attr_wrong.f k a0 = some r) :
    To Tryd.prog 94 [.slice ao1 a0.length cap1, .func (.func 95) #[] #[]] w fun v w' => v = .bool r ∧ Chg [] w w' ∧ MS (M) w' := by
 unfold api_Segment_94_attr_wrong.f at H
 refine ent Tryd.func94 rfl [(0, .slice ao1 a0.length cap1), (1, .func (.func 95) #[] #[])] rfl (by rfl) fun a ha => ?_
 have hC : Chg [] w w := Chg.refl _ _
 refine wp_seq_k fun K2 hK2 => ?_
 refine wp_region_lit ?_
 refine seg ha 1 [(0, .slice ao1 a0.length cap1), (1, .func (.func 95) #[] #[])] (by kernel_rfl) fun a ha => ?_
 refine hK2 _ _ ?_; try clear hK2 K2
 refine wp_seq_k fun K3 hK3 => ?_
 refine wp_region_lit ?_
 refine seg ha 2 [(5, .slice ao1 a0.length cap1), (6, .func (.func 95) #[] #[])] (by kernel_rfl) fun a ha => ?_
 obtain ⟨t4, H4, H⟩ := bind_some H
 refine cl ha (by rfl) (by kernel_rfl) (by rfl) (by rfl) (by rfl) (api_Segment_110_attr_wrong.walk w _ hM a0 ao1 cap1 f1 k _ H4) ?_
 rintro _ w4 ⟨rfl, hc4, hMn⟩ a ha
 have o1 : Ok [] (M) w.heap.size := Ok.nil _ _
 have o2 : Ok (M) (M) w.heap.size := (Ok.refl _ _)
 have f1 := f1.chg hc4 o1 o2
 have hM : MS (M) w4 := (hM.chg hc4)
 have hC := hC.trans hc4 (Ok.nil _ _)
 refine seg ha 2 [(4, .bool (decide (t4 ≥ (0 : Int))))] (by kernel_rfl) fun a ha => ?_
 refine hK3 _ _ ?_; try clear hK3 K3
 refine wp_ret ?_
 try simp only [Exit.then, Exit.inBlock]
 obtain rfl := Option.some.inj H
 refine rt1 ha rfl rfl ?_
 exact ⟨rfl, hC, hM⟩
def attr_rightPath.f (k : Nat) (a0 : List S_api_Segment) : Option (Bool) := ((if (decide ((a0.length : Int) ≤ (16 : Int))) = true then (api_Segment_94_attr_wrong.f k a0).bind fun t6 => some (!t6 : Bool) else some (false : Bool))).bind fun s4 => some ((s4 : Bool))
set_option maxRecDepth 100000 in
theorem attr_rightPath.walk (w : World) (M : List Nat) (hM : MS M w) (a0 : List S_api_Segment) (ao1 : Option Addr) (cap1 : Nat) (f1 : RSl rS_api_Segment 93 w M ao1 cap1 a0) (k : Nat) (r : Bool) (H : attr_rightPath.f k a0 = some r) :
    To Tryd.prog 75 [.slice ao1 a0.length cap1] w fun v w' => v = .bool r ∧ Chg [] w w' ∧ MS (M) w' := by
 unfold attr_rightPath.f at H
 refine ent Tryd.func75 rfl [(0, .slice ao1 a0.length cap1)] rfl (by rfl) fun a ha => ?_
 have hC : Chg [] w w := Chg.refl _ _
 refine wp_seq_k fun K2 hK2 => ?_
 refine wp_region_lit ?_
 refine seg ha 1 [(0, .slice ao1 a0.length cap1)] (by kernel_rfl) fun a ha => ?_
 refine hK2 _ _ ?_; try clear hK2 K2
 refine wp_seq_k fun K3 hK3 => ?_
 refine wp_region_lit ?_
 obtain ⟨s4, H4, H⟩ := bind_some H
 have J4 : ∀ (a : Act) (w4 : World), Has a Tryd.f75.ntmps [(2, .bool s4)] → (Chg [] w w4) → (MS (M) w4) → K3 a w4 := by
  intro a w4 ha hC hM
  refine hK3 _ _ ?_; try clear hK3 K3
  refine wp_ret ?_
  try simp only [Exit.then, Exit.inBlock]
  obtain rfl := Option.some.inj H
  refine rt1 ha rfl rfl ?_
  exact ⟨rfl, hC, hM⟩
 have H := H4
 refine seg ha 4 [(6, .bool (decide ((a0.length : Int) ≤ (16 : Int)))), (0, .slice ao1 a0.length cap1)] (by kernel_rfl) fun a ha => ?_
 rcases Bool.eq_false_or_eq_true (decide ((a0.length : Int) ≤ (16 : Int))) with hb5 | hb5
 ·have ha := ha.lit hb5
  have H := ite_t hb5 H
  refine sgh ha 1 [2] [(6, .bool true), (7, .slice ao1 a0.length cap1)] (by kernel_rfl) fun a ha => ?_
  obtain ⟨t6, H6, H⟩ := bind_some H
  refine cl ha (by rfl) (by kernel_rfl) (by rfl) (by rfl) (by rfl) (api_Segment_94_attr_wrong.walk w _ hM a0 ao1 cap1 f1 k _ H6) ?_
  rintro _ w6 ⟨rfl, hc6, hMn⟩ a ha
  have o1 : Ok [] (M) w.heap.size := Ok.nil _ _
  have o2 : Ok (M) (M) w.heap.size := (Ok.refl _ _)
  have f1 := f1.chg hc6 o1 o2
  have hM : MS (M) w6 := (hM.chg hc6)
  have hC := hC.trans hc6 (Ok.nil _ _)
  refine sgh ha 3 [2, 3, 0] [(2, .bool (!t6))] (by kernel_rfl) fun a ha => ?_
  obtain rfl := Option.some.inj H
  exact J4 _ _ (ha.sel (by kernel_rfl)) hC hM
 ·have ha := ha.lit hb5
  have H := ite_f hb5 H
  refine sgh ha 5 [1, 1, 1, 4, 0] [(2, .bool false)] (by kernel_rfl) fun a ha => ?_
  obtain rfl := Option.some.inj H
  exact J4 _ _ (ha.sel (by kernel_rfl)) hC hM
def attr_Right.f (k : Nat) (a0 : S_api_Attrs) : Option (Bool) := ((if (decide (a0.Origin < (0 : Int))) = true then some (decide (a0.Origin < (0 : Int)) : Bool) else (if (decide (a0.Origin > (2 : Int))) = true then some (decide (a0.Origin > (2 : Int)) : Bool) else (if (decide (a0.Med < (-1 : Int))) = true then some (decide (a0.Med < (-1 : Int)) : Bool) else (if (decide (a0.Med > (4294967295 : Int))) = true then some (decide (a0.Med > (4294967295 : Int)) : Bool) else (if (decide (a0.Pref < (-1 : Int))) = true then some (decide (a0.Pref < (-1 : Int)) : Bool) else some (decide (a0.Pref > (4294967295 : Int)) : Bool))))))).bind fun s13 => (if s13 = true then some ((false : Bool)) else ((if (!((a0.Originator.Size == (0 : Int)) && ((eqA 16 a0.Originator.B (List.replicate 16 (0 : Int))) && true))) = true then (attr_router.f k a0.Originator).bind fun t39 => some (!t39 : Bool) else some (false : Bool))).bind fun s17 => (if s17 = true then some ((false : Bool)) else ((if (decide ((a0.Clusters.length : Int) > (32 : Int))) = true then some (decide ((a0.Clusters.length : Int) > (32 : Int)) : Bool) else (if (decide ((a0.Exts.length : Int) > (64 : Int))) = true then some (decide ((a0.Exts.length : Int) > (64 : Int)) : Bool) else some (decide ((a0.Tunnels.length : Int) > (1 : Int)) : Bool)))).bind fun s21 => (if s21 = true then some ((false : Bool)) else (api_Addr_attr_Right_1.f k a0.Clusters).bind fun t25 => (if t25 = true then some ((false : Bool)) else (api_Tunnel_attr_Right_2.f k a0.Tunnels).bind fun t29 => (if t29 = true then some ((false : Bool)) else (attr_rightPath.f k a0.Path).bind fun t33 => some ((t33 : Bool)))))))
set_option maxRecDepth 100000 in
theorem attr_Right.walk (w : World) (M : List Nat) (hM : MS M w) (a0 : S_api_Attrs) (ao1 : Option Addr) (cap1 : Nat) (f1 : RSl rS_api_Segment 93 w M ao1 cap1 a0.Path) (ao2 : Option Addr) (cap2 : Nat) (f2 : RSl rS_api_Addr 24 w M ao2 cap2 a0.Clusters) (ao3 : Option Addr) (cap3 : Nat) (f3 : RSl (rArr .u8 8) 114 w M ao3 cap3 a0.Exts) (ao4 : Option Addr) (cap4 : Nat) (f4 : RSl rS_api_Tunnel 27 w M ao4 cap4 a0.Tunnels) (k : Nat) (r : Bool) (H : attr_Right.f k a0 = some r) :
    To Tryd.prog 36 [.agg (cS_api_Attrs a0 ao1 cap1 ao2 cap2 ao3 cap3 ao4 cap4).toArray] w fun v w' => v = .bool r ∧ Chg [] w w' ∧ MS (M) w' := by
 unfold attr_Right.f at H
 refine ent Tryd.func36 rfl [(0, .agg (cS_api_Attrs a0 ao1 cap1 ao2 cap2 ao3 cap3 ao4 cap4).toArray)] rfl (by rfl) fun a ha => ?_
 have hC : Chg [] w w := Chg.refl _ _
 refine wp_seq_k fun K5 hK5 => ?_
 refine wp_region_lit ?_
 refine bx (cs := (cS_api_Attrs a0 ao1 cap1 ao2 cap2 ao3 cap3 ao4 cap4)) ha rfl rfl rfl rfl rfl fun a w6 g7 hN8 ha => ?_
 have hn10 := hN8.notin hM
 have o1 : Ok [] (M) w.heap.size := Ok.nil _ _
 have o2 : Ok (M) (M) w.heap.size := (Ok.refl _ _)
 have f1 := f1.chg hN8.chg o1 o2
 have f2 := f2.chg hN8.chg o1 o2
 have f3 := f3.chg hN8.chg o1 o2
 have f4 := f4.chg hN8.chg o1 o2
 have hM : MS (M) w6 := (hM.chg hN8.chg)
 have hC := hC.trans hN8.chg (Ok.nil _ _)
 have hE9 : ∀ j v, (cS_api_Attrs a0 ao1 cap1 ao2 cap2 ao3 cap3 ao4 cap4)[j]? = some v → w6.cell? ⟨g7, 0 + j, none⟩ = some v := Box.cells (New.box hN8)
 refine seg ha 1 [(1, .pointer (some ⟨g7, 0, none⟩))] (by kernel_rfl) fun a ha => ?_
 refine hK5 _ _ ?_; try clear hK5 K5
 refine wp_seq_k fun K11 hK11 => ?_
 refine wp_block ?_
 refine wp_seq_k fun K12 hK12 => ?_
 obtain ⟨s13, H13, H⟩ := bind_some H
 have J13 : ∀ (a : Act) (w13 : World), Has a Tryd.f36.ntmps [(1, .pointer (some ⟨g7, 0, none⟩)), (3, .bool s13)] → (RSl rS_api_Segment 93 w13 (M) ao1 cap1 a0.Path) → (RSl rS_api_Addr 24 w13 (M) ao2 cap2 a0.Clusters) → (RSl (rArr .u8 8) 114 w13 (M) ao3 cap3 a0.Exts) → (RSl rS_api_Tunnel 27 w13 (M) ao4 cap4 a0.Tunnels) → (∀ j v, (cS_api_Attrs a0 ao1 cap1 ao2 cap2 ao3 cap3 ao4 cap4)[j]? = some v → w13.cell? ⟨g7, 0 + j, none⟩ = some v) → (g7 ∉ (M)) → (Chg [] w w13) → (MS (M) w13) → K12 a w13 := by
  intro a w13 ha f1 f2 f3 f4 hE9 hn10 hC hM
  refine hK12 _ _ ?_; try clear hK12 K12
  refine cnd ha rfl (fun hc14 => ?_) (fun hc14 => ?_)
  ·have H := ite_t hc14 H
   refine wp_seq_k fun K15 hK15 => ?_
   refine wp_region_lit ?_
   refine seg ha 1 [(2, .bool false)] (by kernel_rfl) fun a ha => ?_
   refine hK15 _ _ ?_; try clear hK15 K15
   refine wp_ret ?_
   try simp only [Exit.then, Exit.inBlock]
   obtain rfl := Option.some.inj H
   refine rt1 ha rfl rfl ?_
   exact ⟨rfl, hC, hM⟩
  ·have H := ite_f hc14 H
   refine wp_seq_k fun K16 hK16 => ?_
   refine wp_region_lit ?_
   obtain ⟨s17, H17, H⟩ := bind_some H
   have J17 : ∀ (a : Act) (w17 : World), Has a Tryd.f36.ntmps [(1, .pointer (some ⟨g7, 0, none⟩)), (22, .bool s17)] → (RSl rS_api_Segment 93 w17 (M) ao1 cap1 a0.Path) → (RSl rS_api_Addr 24 w17 (M) ao2 cap2 a0.Clusters) → (RSl (rArr .u8 8) 114 w17 (M) ao3 cap3 a0.Exts) → (RSl rS_api_Tunnel 27 w17 (M) ao4 cap4 a0.Tunnels) → (∀ j v, (cS_api_Attrs a0 ao1 cap1 ao2 cap2 ao3 cap3 ao4 cap4)[j]? = some v → w17.cell? ⟨g7, 0 + j, none⟩ = some v) → (g7 ∉ (M)) → (Chg [] w w17) → (MS (M) w17) → K16 a w17 := by
    intro a w17 ha f1 f2 f3 f4 hE9 hn10 hC hM
    refine hK16 _ _ ?_; try clear hK16 K16
    refine cnd ha rfl (fun hc18 => ?_) (fun hc18 => ?_)
    ·have H := ite_t hc18 H
     refine wp_seq_k fun K19 hK19 => ?_
     refine wp_region_lit ?_
     refine seg ha 1 [(2, .bool false)] (by kernel_rfl) fun a ha => ?_
     refine hK19 _ _ ?_; try clear hK19 K19
     refine wp_ret ?_
     try simp only [Exit.then, Exit.inBlock]
     obtain rfl := Option.some.inj H
     refine rt1 ha rfl rfl ?_
     exact ⟨rfl, hC, hM⟩
    ·have H := ite_f hc18 H
     refine wp_seq_k fun K20 hK20 => ?_
     obtain ⟨s21, H21, H⟩ := bind_some H
     have J21 : ∀ (a : Act) (w21 : World), Has a Tryd.f36.ntmps [(1, .pointer (some ⟨g7, 0, none⟩)), (33, .bool s21)] → (RSl rS_api_Segment 93 w21 (M) ao1 cap1 a0.Path) → (RSl rS_api_Addr 24 w21 (M) ao2 cap2 a0.Clusters) → (RSl (rArr .u8 8) 114 w21 (M) ao3 cap3 a0.Exts) → (RSl rS_api_Tunnel 27 w21 (M) ao4 cap4 a0.Tunnels) → (∀ j v, (cS_api_Attrs a0 ao1 cap1 ao2 cap2 ao3 cap3 ao4 cap4)[j]? = some v → w21.cell? ⟨g7, 0 + j, none⟩ = some v) → (g7 ∉ (M)) → (Chg [] w w21) → (MS (M) w21) → K20 a w21 := by
      intro a w21 ha f1 f2 f3 f4 hE9 hn10 hC hM
      refine hK20 _ _ ?_; try clear hK20 K20
      refine cnd ha rfl (fun hc22 => ?_) (fun hc22 => ?_)
      ·have H := ite_t hc22 H
       refine wp_seq_k fun K23 hK23 => ?_
       refine wp_region_lit ?_
       refine seg ha 1 [(2, .bool false)] (by kernel_rfl) fun a ha => ?_
       refine hK23 _ _ ?_; try clear hK23 K23
       refine wp_ret ?_
       try simp only [Exit.then, Exit.inBlock]
       obtain rfl := Option.some.inj H
       refine rt1 ha rfl rfl ?_
       exact ⟨rfl, hC, hM⟩
      ·have H := ite_f hc22 H
       refine wp_seq_k fun K24 hK24 => ?_
       refine wp_region_lit ?_
       refine seg ha 1 [(1, .pointer (some ⟨g7, 0, none⟩)), (47, .pointer (some ⟨g7, 0 + 21, none⟩))] (by kernel_rfl) fun a ha => ?_
       refine ld ha rfl (by kernel_rfl) rfl rfl rfl (hE9 21 (.slice ao2 a0.Clusters.length cap2) (by kernel_rfl)) fun a ha => ?_
       obtain ⟨t25, H25, H⟩ := bind_some H
       refine cl ha (by rfl) (by kernel_rfl) (by rfl) (by rfl) (by rfl) (api_Addr_attr_Right_1.walk w21 _ hM a0.Clusters ao2 cap2 f2 k _ H25) ?_
       rintro _ w25 ⟨rfl, hc25, hMn⟩ a ha
       have o1 : Ok [] (M) w21.heap.size := Ok.nil _ _
       have o2 : Ok (M) (M) w21.heap.size := (Ok.refl _ _)
       have f1 := f1.chg hc25 o1 o2
       have f2 := f2.chg hc25 o1 o2
       have f3 := f3.chg hc25 o1 o2
       have f4 := f4.chg hc25 o1 o2
       have q_hn10 : g7 ∉ M := fun h => (o2 g7 h).elim hn10 (fun h => absurd (lt_cell (hE9 0 _ rfl)) (Nat.not_lt.2 h))
       have hE9 : ∀ j v, (cS_api_Attrs a0 ao1 cap1 ao2 cap2 ao3 cap3 ao4 cap4)[j]? = some v → w25.cell? ⟨g7, 0 + j, none⟩ = some v := fun j v hv => (cell_keep hc25 o1 hn10 (hE9 j v hv))
       have hn10 := q_hn10
       have hM : MS (M) w25 := (hM.chg hc25)
       have hC := hC.trans hc25 (Ok.nil _ _)
       refine seg ha 1 [(1, .pointer (some ⟨g7, 0, none⟩)), (46, .bool t25)] (by kernel_rfl) fun a ha => ?_
       refine hK24 _ _ ?_; try clear hK24 K24
       refine cnd ha rfl (fun hc26 => ?_) (fun hc26 => ?_)
       ·have H := ite_t hc26 H
        refine wp_seq_k fun K27 hK27 => ?_
        refine wp_region_lit ?_
        refine seg ha 1 [(2, .bool false)] (by kernel_rfl) fun a ha => ?_
        refine hK27 _ _ ?_; try clear hK27 K27
        refine wp_ret ?_
        try simp only [Exit.then, Exit.inBlock]
        obtain rfl := Option.some.inj H
        refine rt1 ha rfl rfl ?_
        exact ⟨rfl, hC, hM⟩
       ·have H := ite_f hc26 H
        refine wp_seq_k fun K28 hK28 => ?_
        refine wp_region_lit ?_
        refine seg ha 1 [(1, .pointer (some ⟨g7, 0, none⟩)), (51, .pointer (some ⟨g7, 0 + 23, none⟩))] (by kernel_rfl) fun a ha => ?_
        refine ld ha rfl (by kernel_rfl) rfl rfl rfl (hE9 23 (.slice ao4 a0.Tunnels.length cap4) (by kernel_rfl)) fun a ha => ?_
        obtain ⟨t29, H29, H⟩ := bind_some H
        refine cl ha (by rfl) (by kernel_rfl) (by rfl) (by rfl) (by rfl) (api_Tunnel_attr_Right_2.walk w25 _ hM a0.Tunnels ao4 cap4 f4 k _ H29) ?_
        rintro _ w29 ⟨rfl, hc29, hMn⟩ a ha
        have o1 : Ok [] (M) w25.heap.size := Ok.nil _ _
        have o2 : Ok (M) (M) w25.heap.size := (Ok.refl _ _)
        have f1 := f1.chg hc29 o1 o2
        have f2 := f2.chg hc29 o1 o2
        have f3 := f3.chg hc29 o1 o2
        have f4 := f4.chg hc29 o1 o2
        have q_hn10 : g7 ∉ M := fun h => (o2 g7 h).elim hn10 (fun h => absurd (lt_cell (hE9 0 _ rfl)) (Nat.not_lt.2 h))
        have hE9 : ∀ j v, (cS_api_Attrs a0 ao1 cap1 ao2 cap2 ao3 cap3 ao4 cap4)[j]? = some v → w29.cell? ⟨g7, 0 + j, none⟩ = some v := fun j v hv => (cell_keep hc29 o1 hn10 (hE9 j v hv))
        have hn10 := q_hn10
        have hM : MS (M) w29 := (hM.chg hc29)
        have hC := hC.trans hc29 (Ok.nil _ _)
        refine seg ha 1 [(1, .pointer (some ⟨g7, 0, none⟩)), (50, .bool t29)] (by kernel_rfl) fun a ha => ?_
        refine hK28 _ _ ?_; try clear hK28 K28
        refine cnd ha rfl (fun hc30 => ?_) (fun hc30 => ?_)
        ·have H := ite_t hc30 H
         refine wp_seq_k fun K31 hK31 => ?_
         refine wp_region_lit ?_
         refine seg ha 1 [(2, .bool false)] (by kernel_rfl) fun a ha => ?_
         refine hK31 _ _ ?_; try clear hK31 K31
         refine wp_ret ?_
         try simp only [Exit.then, Exit.inBlock]
         obtain rfl := Option.some.inj H
         refine rt1 ha rfl rfl ?_
         exact ⟨rfl, hC, hM⟩
        ·have H := ite_f hc30 H
         refine wp_skip ?_
         refine hK11 _ _ ?_; try clear hK11 K11
         refine wp_seq_k fun K32 hK32 => ?_
         refine wp_region_lit ?_
         refine seg ha 1 [(54, .pointer (some ⟨g7, 0 + 1, none⟩))] (by kernel_rfl) fun a ha => ?_
         refine ld ha rfl (by kernel_rfl) rfl rfl rfl (hE9 1 (.slice ao1 a0.Path.length cap1) (by kernel_rfl)) fun a ha => ?_
         obtain ⟨t33, H33, H⟩ := bind_some H
         refine cl ha (by rfl) (by kernel_rfl) (by rfl) (by rfl) (by rfl) (attr_rightPath.walk w29 _ hM a0.Path ao1 cap1 f1 k _ H33) ?_
         rintro _ w33 ⟨rfl, hc33, hMn⟩ a ha
         have o1 : Ok [] (M) w29.heap.size := Ok.nil _ _
         have o2 : Ok (M) (M) w29.heap.size := (Ok.refl _ _)
         have f1 := f1.chg hc33 o1 o2
         have hM : MS (M) w33 := (hM.chg hc33)
         have hC := hC.trans hc33 (Ok.nil _ _)
         refine seg ha 1 [(2, .bool t33)] (by kernel_rfl) fun a ha => ?_
         refine hK32 _ _ ?_; try clear hK32 K32
         refine wp_ret ?_
         try simp only [Exit.then, Exit.inBlock]
         obtain rfl := Option.some.inj H
         refine rt1 ha rfl rfl ?_
         exact ⟨rfl, hC, hM⟩
     have H := H21
     refine wp_seq_k fun K34 hK34 => ?_
     refine wp_region_lit ?_
     refine seg ha 1 [(1, .pointer (some ⟨g7, 0, none⟩)), (34, .pointer (some ⟨g7, 0 + 21, none⟩))] (by kernel_rfl) fun a ha => ?_
     refine ld ha rfl (by kernel_rfl) rfl rfl rfl (hE9 21 (.slice ao2 a0.Clusters.length cap2) (by kernel_rfl)) fun a ha => ?_
     refine seg ha 3 [(1, .pointer (some ⟨g7, 0, none⟩)), (33, .bool (decide ((a0.Clusters.length : Int) > (32 : Int))))] (by kernel_rfl) fun a ha => ?_
     refine hK34 _ _ ?_; try clear hK34 K34
     refine cnd ha rfl (fun hc35 => ?_) (fun hc35 => ?_)
     ·have H := ite_t hc35 H
      refine wp_skip ?_
      obtain rfl := Option.some.inj H
      exact J21 _ _ (ha.sel (by kernel_rfl)) f1 f2 f3 f4 hE9 hn10 hC hM
     ·have H := ite_f hc35 H
      refine wp_seq_k fun K36 hK36 => ?_
      refine wp_region_lit ?_
      refine seg ha 1 [(1, .pointer (some ⟨g7, 0, none⟩)), (38, .pointer (some ⟨g7, 0 + 22, none⟩))] (by kernel_rfl) fun a ha => ?_
      refine ld ha rfl (by kernel_rfl) rfl rfl rfl (hE9 22 (.slice ao3 a0.Exts.length cap3) (by kernel_rfl)) fun a ha => ?_
      refine seg ha 3 [(1, .pointer (some ⟨g7, 0, none⟩)), (33, .bool (decide ((a0.Exts.length : Int) > (64 : Int))))] (by kernel_rfl) fun a ha => ?_
      refine hK36 _ _ ?_; try clear hK36 K36
      refine cnd ha rfl (fun hc37 => ?_) (fun hc37 => ?_)
      ·have H := ite_t hc37 H
       refine wp_skip ?_
       obtain rfl := Option.some.inj H
       exact J21 _ _ (ha.sel (by kernel_rfl)) f1 f2 f3 f4 hE9 hn10 hC hM
      ·have H := ite_f hc37 H
       refine wp_region_lit ?_
       refine seg ha 1 [(1, .pointer (some ⟨g7, 0, none⟩)), (42, .pointer (some ⟨g7, 0 + 23, none⟩))] (by kernel_rfl) fun a ha => ?_
       refine ld ha rfl (by kernel_rfl) rfl rfl rfl (hE9 23 (.slice ao4 a0.Tunnels.length cap4) (by kernel_rfl)) fun a ha => ?_
       refine seg ha 3 [(1, .pointer (some ⟨g7, 0, none⟩)), (33, .bool (decide ((a0.Tunnels.length : Int) > (1 : Int))))] (by kernel_rfl) fun a ha => ?_
       obtain rfl := Option.some.inj H
       exact J21 _ _ (ha.sel (by kernel_rfl)) f1 f2 f3 f4 hE9 hn10 hC hM
   have H := H17
   refine seg ha 1 [(1, .pointer (some ⟨g7, 0, none⟩)), (23, .pointer (some ⟨g7, 0 + 4, none⟩))] (by kernel_rfl) fun a ha => ?_
   refine ldA (cs := (cS_api_Addr a0.Originator)) ha rfl (by kernel_rfl) rfl rfl rfl (cells_sub hE9 (all := (cS_api_Attrs a0 ao1 cap1 ao2 cap2 ao3 cap3 ao4 cap4)) [.int .i64 a0.Origin, .slice ao1 a0.Path.length cap1, .int .i64 a0.Med, .int .i64 a0.Pref] [.slice ao2 a0.Clusters.length cap2, .slice ao3 a0.Exts.length cap3, .slice ao4 a0.Tunnels.length cap4] (by kernel_rfl)) fun a ha => ?_
   refine opk (v := .agg (cS_api_Addr (⟨(0 : Int), (List.replicate 16 (0 : Int))⟩ : S_api_Addr)).toArray) ha rfl rfl rfl rfl rfl (fun w => by kernel_rfl) fun a ha => ?_
   refine hop (v := .bool (!((a0.Originator.Size == (0 : Int)) && ((eqA 16 a0.Originator.B (List.replicate 16 (0 : Int))) && true)))) (w' := w13) ha rfl rfl rfl (nes_run (r := ((a0.Originator.Size == (0 : Int)) && ((eqA 16 a0.Originator.B (List.replicate 16 (0 : Int))) && true))) (m := 9) ha rfl rfl (by kernel_rfl) rfl (by kernel_rfl) _) fun a ha => ?_
   refine seg ha 1 [(27, .bool (!((a0.Originator.Size == (0 : Int)) && ((eqA 16 a0.Originator.B (List.replicate 16 (0 : Int))) && true)))), (1, .pointer (some ⟨g7, 0, none⟩))] (by kernel_rfl) fun a ha => ?_
   rcases Bool.eq_false_or_eq_true (!((a0.Originator.Size == (0 : Int)) && ((eqA 16 a0.Originator.B (List.replicate 16 (0 : Int))) && true))) with hb38 | hb38
   ·have ha := ha.lit hb38
    have H := ite_t hb38 H
    refine sgh ha 1 [2] [(1, .pointer (some ⟨g7, 0, none⟩)), (27, .bool true), (28, .pointer (some ⟨g7, 0 + 4, none⟩))] (by kernel_rfl) fun a ha => ?_
    refine ldA (cs := (cS_api_Addr a0.Originator)) ha rfl (by kernel_rfl) rfl rfl rfl (cells_sub hE9 (all := (cS_api_Attrs a0 ao1 cap1 ao2 cap2 ao3 cap3 ao4 cap4)) [.int .i64 a0.Origin, .slice ao1 a0.Path.length cap1, .int .i64 a0.Med, .int .i64 a0.Pref] [.slice ao2 a0.Clusters.length cap2, .slice ao3 a0.Exts.length cap3, .slice ao4 a0.Tunnels.length cap4] (by kernel_rfl)) fun a ha => ?_
    obtain ⟨t39, H39, H⟩ := bind_some H
    refine cl ha (by rfl) (by kernel_rfl) (by rfl) (by rfl) (by rfl) (attr_router.walk w13 _ hM a0.Originator k _ H39) ?_
    rintro _ w39 ⟨rfl, hc39, hMn⟩ a ha
    have o1 : Ok [] (M) w13.heap.size := Ok.nil _ _
    have o2 : Ok (M) (M) w13.heap.size := (Ok.refl _ _)
    have f1 := f1.chg hc39 o1 o2
    have f2 := f2.chg hc39 o1 o2
    have f3 := f3.chg hc39 o1 o2
    have f4 := f4.chg hc39 o1 o2
    have q_hn10 : g7 ∉ M := fun h => (o2 g7 h).elim hn10 (fun h => absurd (lt_cell (hE9 0 _ rfl)) (Nat.not_lt.2 h))
    have hE9 : ∀ j v, (cS_api_Attrs a0 ao1 cap1 ao2 cap2 ao3 cap3 ao4 cap4)[j]? = some v → w39.cell? ⟨g7, 0 + j, none⟩ = some v := fun j v hv => (cell_keep hc39 o1 hn10 (hE9 j v hv))
    have hn10 := q_hn10
    have hM : MS (M) w39 := (hM.chg hc39)
    have hC := hC.trans hc39 (Ok.nil _ _)
    refine sgh ha 3 [2, 3, 0] [(1, .pointer (some ⟨g7, 0, none⟩)), (22, .bool (!t39))] (by kernel_rfl) fun a ha => ?_
    obtain rfl := Option.some.inj H
    exact J17 _ _ (ha.sel (by kernel_rfl)) f1 f2 f3 f4 hE9 hn10 hC hM
   ·have ha := ha.lit hb38
    have H := ite_f hb38 H
    refine sgh ha 6 [1, 1, 1, 1, 4, 0] [(1, .pointer (some ⟨g7, 0, none⟩)), (22, .bool false)] (by kernel_rfl) fun a ha => ?_
    obtain rfl := Option.some.inj H
    exact J17 _ _ (ha.sel (by kernel_rfl)) f1 f2 f3 f4 hE9 hn10 hC hM
 have H := H13
 refine wp_seq_k fun K40 hK40 => ?_
 refine wp_region_lit ?_
 refine seg ha 1 [(1, .pointer (some ⟨g7, 0, none⟩)), (4, .pointer (some ⟨g7, 0, none⟩))] (by kernel_rfl) fun a ha => ?_
 refine ld ha rfl (by kernel_rfl) rfl rfl rfl (hE9 0 (.int .i64 a0.Origin) (by kernel_rfl)) fun a ha => ?_
 refine seg ha 2 [(1, .pointer (some ⟨g7, 0, none⟩)), (3, .bool (decide (a0.Origin < (0 : Int))))] (by kernel_rfl) fun a ha => ?_
 refine hK40 _ _ ?_; try clear hK40 K40
 refine cnd ha rfl (fun hc41 => ?_) (fun hc41 => ?_)
 ·have H := ite_t hc41 H
  refine wp_skip ?_
  obtain rfl := Option.some.inj H
  exact J13 _ _ (ha.sel (by kernel_rfl)) f1 f2 f3 f4 hE9 hn10 hC hM
 ·have H := ite_f hc41 H
  refine wp_seq_k fun K42 hK42 => ?_
  refine wp_region_lit ?_
  refine seg ha 1 [(1, .pointer (some ⟨g7, 0, none⟩)), (7, .pointer (some ⟨g7, 0, none⟩))] (by kernel_rfl) fun a ha => ?_
  refine ld ha rfl (by kernel_rfl) rfl rfl rfl (hE9 0 (.int .i64 a0.Origin) (by kernel_rfl)) fun a ha => ?_
  refine seg ha 2 [(1, .pointer (some ⟨g7, 0, none⟩)), (3, .bool (decide (a0.Origin > (2 : Int))))] (by kernel_rfl) fun a ha => ?_
  refine hK42 _ _ ?_; try clear hK42 K42
  refine cnd ha rfl (fun hc43 => ?_) (fun hc43 => ?_)
  ·have H := ite_t hc43 H
   refine wp_skip ?_
   obtain rfl := Option.some.inj H
   exact J13 _ _ (ha.sel (by kernel_rfl)) f1 f2 f3 f4 hE9 hn10 hC hM
  ·have H := ite_f hc43 H
   refine wp_seq_k fun K44 hK44 => ?_
   refine wp_region_lit ?_
   refine seg ha 1 [(1, .pointer (some ⟨g7, 0, none⟩)), (10, .pointer (some ⟨g7, 0 + 2, none⟩))] (by kernel_rfl) fun a ha => ?_
   refine ld ha rfl (by kernel_rfl) rfl rfl rfl (hE9 2 (.int .i64 a0.Med) (by kernel_rfl)) fun a ha => ?_
   refine seg ha 2 [(1, .pointer (some ⟨g7, 0, none⟩)), (3, .bool (decide (a0.Med < (-1 : Int))))] (by kernel_rfl) fun a ha => ?_
   refine hK44 _ _ ?_; try clear hK44 K44
   refine cnd ha rfl (fun hc45 => ?_) (fun hc45 => ?_)
   ·have H := ite_t hc45 H
    refine wp_skip ?_
    obtain rfl := Option.some.inj H
    exact J13 _ _ (ha.sel (by kernel_rfl)) f1 f2 f3 f4 hE9 hn10 hC hM
   ·have H := ite_f hc45 H
    refine wp_seq_k fun K46 hK46 => ?_
    refine wp_region_lit ?_
    refine seg ha 1 [(1, .pointer (some ⟨g7, 0, none⟩)), (13, .pointer (some ⟨g7, 0 + 2, none⟩))] (by kernel_rfl) fun a ha => ?_
    refine ld ha rfl (by kernel_rfl) rfl rfl rfl (hE9 2 (.int .i64 a0.Med) (by kernel_rfl)) fun a ha => ?_
    refine seg ha 2 [(1, .pointer (some ⟨g7, 0, none⟩)), (3, .bool (decide (a0.Med > (4294967295 : Int))))] (by kernel_rfl) fun a ha => ?_
    refine hK46 _ _ ?_; try clear hK46 K46
    refine cnd ha rfl (fun hc47 => ?_) (fun hc47 => ?_)
    ·have H := ite_t hc47 H
     refine wp_skip ?_
     obtain rfl := Option.some.inj H
     exact J13 _ _ (ha.sel (by kernel_rfl)) f1 f2 f3 f4 hE9 hn10 hC hM
    ·have H := ite_f hc47 H
     refine wp_seq_k fun K48 hK48 => ?_
     refine wp_region_lit ?_
     refine seg ha 1 [(1, .pointer (some ⟨g7, 0, none⟩)), (16, .pointer (some ⟨g7, 0 + 3, none⟩))] (by kernel_rfl) fun a ha => ?_
     refine ld ha rfl (by kernel_rfl) rfl rfl rfl (hE9 3 (.int .i64 a0.Pref) (by kernel_rfl)) fun a ha => ?_
     refine seg ha 2 [(1, .pointer (some ⟨g7, 0, none⟩)), (3, .bool (decide (a0.Pref < (-1 : Int))))] (by kernel_rfl) fun a ha => ?_
     refine hK48 _ _ ?_; try clear hK48 K48
     refine cnd ha rfl (fun hc49 => ?_) (fun hc49 => ?_)
     ·have H := ite_t hc49 H
      refine wp_skip ?_
      obtain rfl := Option.some.inj H
      exact J13 _ _ (ha.sel (by kernel_rfl)) f1 f2 f3 f4 hE9 hn10 hC hM
     ·have H := ite_f hc49 H
      refine wp_region_lit ?_
      refine seg ha 1 [(1, .pointer (some ⟨g7, 0, none⟩)), (19, .pointer (some ⟨g7, 0 + 3, none⟩))] (by kernel_rfl) fun a ha => ?_
      refine ld ha rfl (by kernel_rfl) rfl rfl rfl (hE9 3 (.int .i64 a0.Pref) (by kernel_rfl)) fun a ha => ?_
      refine seg ha 2 [(1, .pointer (some ⟨g7, 0, none⟩)), (3, .bool (decide (a0.Pref > (4294967295 : Int))))] (by kernel_rfl) fun a ha => ?_
      obtain rfl := Option.some.inj H
      exact J13 _ _ (ha.sel (by kernel_rfl)) f1 f2 f3 f4 hE9 hn10 hC hM
def cursor_Put.l0 (a1 : Int) : Nat → (List Int) → Int → Option (List Int)
  | 0, _, _ => none
  | kk + 1, x20, x21 => (if (decide (x21 ≥ (0 : Int))) = true then (if 0 ≤ x21 then (if (x20.length + ([IntKind.u8.wrap (Int.fdiv a1 (2 ^ (min (Int.toNat x21) IntKind.i64.bits)))] : List Int).length) * 1 ≤ 140737488355328 then cursor_Put.l0 a1 kk (x20 ++ ([IntKind.u8.wrap (Int.fdiv a1 (2 ^ (min (Int.toNat x21) IntKind.i64.bits)))] : List Int)) (IntKind.i64.wrap (x21 - (8 : Int))) else none) else none) else some (x20 : List Int))
def cursor_Put.f (k : Nat) (a0 : List Int) (a1 : Int) (a2 : Int) : Option (List Int × Int) := (if (if (decide (a2 < (1 : Int))) = true then true else (decide (a2 > (4 : Int)))) = true then some ((([] : List Int) : List Int), ((1 : Int) : Int)) else ((if (decide (a1 < (0 : Int))) = true then some (true : Bool) else (if 0 ≤ (IntKind.i64.wrap ((8 : Int) * a2)) then some ((Int.fdiv a1 (2 ^ (min (Int.toNat (IntKind.i64.wrap ((8 : Int) * a2))) IntKind.i64.bits))) != (0 : Int) : Bool) else none))).bind fun s9 => (if s9 = true then some ((([] : List Int) : List Int), ((5 : Int) : Int)) else (bytes_Clone.f a0).bind fun t14 => (cursor_Put.l0 a1 k t14 (IntKind.i64.wrap ((8 : Int) * (IntKind.i64.wrap (a2 - (1 : Int)))))).bind fun s18 => some ((s18 : List Int), ((0 : Int) : Int))))
set_option maxRecDepth 100000 in
theorem cursor_Put.walk (w : World) (M : List Nat) (hM : MS M w) (a0 : List Int) (ao1 : Option Addr) (cap1 : Nat) (f1 : RSl (rInt .u8) 5 w M ao1 cap1 a0) (a1 : Int) (a2 : Int) (k : Nat) (r : List Int × Int) (H : cursor_Put.f k a0 a1 a2 = some r) :
    To Tryd.prog 59 [.slice ao1 a0.length cap1, .int .i64 a1, .int .i64 a2] w fun v w' => ∃ (ao39 : Option Addr) (cap39 : Nat), v = .tuple #[.slice ao39 r.1.length cap39, .int .i64 r.2] ∧ (Own (rInt .u8) 5 w' (blkL ao39 ++ (M)) ao39 cap39 r.1) ∧ (∀ x ∈ blkL ao39, w.heap.size ≤ x) ∧ Chg [] w w' ∧ MS (blkL ao39 ++ (M)) w' := by
 unfold cursor_Put.f at H
 refine ent Tryd.func59 rfl [(0, .slice ao1 a0.length cap1), (1, .int .i64 a1), (2, .int .i64 a2)] rfl (by rfl) fun a ha => ?_
 have hC : Chg [] w w := Chg.refl _ _
 refine wp_seq_k fun K2 hK2 => ?_
 refine wp_region_lit ?_
 refine seg ha 2 [(0, .slice ao1 a0.length cap1), (1, .int .i64 a1), (2, .int .i64 a2)] (by kernel_rfl) fun a ha => ?_
 refine hK2 _ _ ?_; try clear hK2 K2
 refine wp_seq_k fun K3 hK3 => ?_
 refine wp_block ?_
 refine wp_seq_k fun K4 hK4 => ?_
 refine wp_region_lit ?_
 refine seg ha 7 [(0, .slice ao1 a0.length cap1), (1, .int .i64 a1), (2, .int .i64 a2), (10, .bool (if (decide (a2 < (1 : Int))) = true then true else (decide (a2 > (4 : Int)))))] (by kernel_rfl) fun a ha => ?_
 refine hK4 _ _ ?_; try clear hK4 K4
 refine cnd ha rfl (fun hc5 => ?_) (fun hc5 => ?_)
 ·have H := ite_t hc5 H
  refine wp_seq_k fun K6 hK6 => ?_
  refine wp_region_lit ?_
  refine seg ha 2 [(6, .slice none 0 0), (7, .int .i64 (1 : Int))] (by kernel_rfl) fun a ha => ?_
  refine hK6 _ _ ?_; try clear hK6 K6
  refine wp_ret ?_
  try simp only [Exit.then, Exit.inBlock]
  have p_z7_M : ∀ x ∈ blkL none, x ∉ M := fun x hx hy => absurd (hM x (hy)) (Nat.not_lt.2 ((fun _ h => nomatch h) x hx))
  have e_z7 : ∀ x ∈ blkL none, w.heap.size ≤ x := fun x hx => Nat.le_trans hC.size ((fun _ h => nomatch h) x hx)
  have hM : MS (blkL none ++ (M)) w := (MS.app (fun _ h => nomatch h) (hM.chg (Chg.refl [] _)))
  have hC := hC.trans (Chg.refl [] _) (Ok.nil _ _)
  obtain rfl := Option.some.inj H
  refine rt2 ha rfl rfl rfl ?_
  exact ⟨none, 0, rfl, Own.nil, e_z7, hC, hM⟩
 ·have H := ite_f hc5 H
  refine wp_seq_k fun K8 hK8 => ?_
  refine wp_region_lit ?_
  obtain ⟨s9, H9, H⟩ := bind_some H
  have J9 : ∀ (a : Act) (w9 : World), Has a Tryd.f59.ntmps [(0, .slice ao1 a0.length cap1), (1, .int .i64 a1), (2, .int .i64 a2), (17, .bool s9)] → (RSl (rInt .u8) 5 w9 (M) ao1 cap1 a0) → (Chg [] w w9) → (MS (M) w9) → K8 a w9 := by
   intro a w9 ha f1 hC hM
   refine hK8 _ _ ?_; try clear hK8 K8
   refine cnd ha rfl (fun hc10 => ?_) (fun hc10 => ?_)
   ·have H := ite_t hc10 H
    refine wp_seq_k fun K11 hK11 => ?_
    refine wp_region_lit ?_
    refine seg ha 2 [(6, .slice none 0 0), (7, .int .i64 (5 : Int))] (by kernel_rfl) fun a ha => ?_
    refine hK11 _ _ ?_; try clear hK11 K11
    refine wp_ret ?_
    try simp only [Exit.then, Exit.inBlock]
    have p_z12_M : ∀ x ∈ blkL none, x ∉ M := fun x hx hy => absurd (hM x (hy)) (Nat.not_lt.2 ((fun _ h => nomatch h) x hx))
    have e_z12 : ∀ x ∈ blkL none, w.heap.size ≤ x := fun x hx => Nat.le_trans hC.size ((fun _ h => nomatch h) x hx)
    have hM : MS (blkL none ++ (M)) w9 := (MS.app (fun _ h => nomatch h) (hM.chg (Chg.refl [] _)))
    have hC := hC.trans (Chg.refl [] _) (Ok.nil _ _)
    obtain rfl := Option.some.inj H
    refine rt2 ha rfl rfl rfl ?_
    exact ⟨none, 0, rfl, Own.nil, e_z12, hC, hM⟩
   ·have H := ite_f hc10 H
    refine wp_skip ?_
    refine hK3 _ _ ?_; try clear hK3 K3
    refine wp_seq_k fun K13 hK13 => ?_
    refine wp_region_lit ?_
    refine seg ha 1 [(1, .int .i64 a1), (2, .int .i64 a2), (27, .slice ao1 a0.length cap1)] (by kernel_rfl) fun a ha => ?_
    obtain ⟨t14, H14, H⟩ := bind_some H
    refine cl ha (by rfl) (by kernel_rfl) (by rfl) (by rfl) (by rfl) (bytes_Clone.walk w9 _ hM a0 ao1 cap1 f1 _ H14) ?_
    rintro _ w14 ⟨ao15, cap15, rfl, f15, ne_i15, hc14, hMn⟩ a ha
    have o1 : Ok [] (M) w9.heap.size := Ok.nil _ _
    have o2 : Ok (blkL ao15 ++ (M)) (M) w9.heap.size := (Ok.app (fun x h => .inr (ne_i15 x h)) (Ok.refl _ _))
    have f1 := f1.chg hc14 o1 o2
    have p_i15_M : ∀ x ∈ blkL ao15, x ∉ M := fun x hx hy => absurd (hM x (hy)) (Nat.not_lt.2 (ne_i15 x hx))
    have e_i15 : ∀ x ∈ blkL ao15, w.heap.size ≤ x := fun x hx => Nat.le_trans hC.size (ne_i15 x hx)
    have hM : MS (blkL ao15 ++ (M)) w14 := (MS.app (fun x h => hMn x (ml h)) (hM.chg hc14))
    have hC := hC.trans hc14 (Ok.nil _ _)
    refine seg ha 1 [(1, .int .i64 a1), (2, .int .i64 a2), (8, .slice ao15 t14.length cap15)] (by kernel_rfl) fun a ha => ?_
    refine hK13 _ _ ?_; try clear hK13 K13
    refine wp_seq_k fun K16 hK16 => ?_
    refine wp_seq_k fun K17 hK17 => ?_
    refine wp_region_lit ?_
    refine seg ha 4 [(1, .int .i64 a1), (8, .slice ao15 t14.length cap15), (9, .int .i64 (IntKind.i64.wrap ((8 : Int) * (IntKind.i64.wrap (a2 - (1 : Int))))))] (by kernel_rfl) fun a ha => ?_
    refine hK17 _ _ ?_; try clear hK17 K17
    refine wp_block ?_
    obtain ⟨s18, H18, H⟩ := bind_some H
    have J18 : ∀ (a : Act) (wx18 : World) (ao22 : Option Addr) (cap22 : Nat), Has a Tryd.f59.ntmps [(8, .slice ao22 s18.length cap22)] → (Own (rInt .u8) 5 wx18 (blkL ao22 ++ (M)) ao22 cap22 s18) → (∀ x ∈ blkL ao22, w.heap.size ≤ x) → (∀ x ∈ blkL ao22, x ∉ M) → (Chg [] w wx18) → (MS (blkL ao22 ++ (M)) wx18) → K16 a wx18 := by
     intro a wx18 ao22 cap22 ha f22 e_i22 p_i22_M hC hM
     refine hK16 _ _ ?_; try clear hK16 K16
     refine wp_seq_k fun K23 hK23 => ?_
     refine wp_region_lit ?_
     refine seg ha 3 [(6, .slice ao22 s18.length cap22), (7, .int .i64 (0 : Int))] (by kernel_rfl) fun a ha => ?_
     refine hK23 _ _ ?_; try clear hK23 K23
     refine wp_ret ?_
     try simp only [Exit.then, Exit.inBlock]
     obtain rfl := Option.some.inj H
     refine rt2 ha rfl rfl rfl ?_
     exact ⟨ao22, cap22, rfl, f22, e_i22, hC, hM⟩
    have Hc18 := H
    have H := H18
    refine wp_loop_ghost (fun kk a w18 => ∃ (x20 : List Int) (x21 : Int) (ao19 : Option Addr) (cap19 : Nat), cursor_Put.l0 a1 kk x20 x21 = some s18 ∧ Has a Tryd.f59.ntmps [(1, .int .i64 a1), (8, .slice ao19 x20.length cap19), (9, .int .i64 x21)] ∧ (Own (rInt .u8) 5 w18 (blkL ao19 ++ (M)) ao19 cap19 x20) ∧ (∀ x ∈ blkL ao19, w.heap.size ≤ x) ∧ (∀ x ∈ blkL ao19, x ∉ M) ∧ (Chg [] w w18) ∧ (MS (blkL ao19 ++ (M)) w18)) k ?_ ?_
    ·skip
     exact ⟨t14, IntKind.i64.wrap ((8 : Int) * (IntKind.i64.wrap (a2 - (1 : Int)))), ao15, cap15, H, (ha.sel (by kernel_rfl)), f15, e_i15, p_i15_M, hC, hM⟩
    ·rintro kk a w18 ⟨x20, x21, ao19, cap19, H, ha, f19, e_i19, p_i19_M, hC, hM⟩
     obtain _ | kk := kk
     ·exact nomatch (show none = some _ from H)
     rw [cursor_Put.l0] at H
     refine wp_seq_k fun K24 hK24 => ?_
     refine wp_seq_k fun K25 hK25 => ?_
     refine wp_region_lit ?_
     refine seg ha 2 [(1, .int .i64 a1), (8, .slice ao19 x20.length cap19), (9, .int .i64 x21), (33, .bool (decide (x21 ≥ (0 : Int))))] (by kernel_rfl) fun a ha => ?_
     refine hK25 _ _ ?_; try clear hK25 K25
     refine cnd ha rfl (fun hc26 => ?_) (fun hc26 => ?_)
     ·have H := ite_t hc26 H
      refine wp_skip ?_
      refine hK24 _ _ ?_; try clear hK24 K24
      refine wp_seq_k fun K27 hK27 => ?_
      refine wp_block ?_
      refine wp_region_lit ?_
      refine seg ha 3 [(1, .int .i64 a1), (9, .int .i64 x21), (36, .slice ao19 x20.length cap19), (37, .int .i64 a1), (38, .int .i64 x21)] (by kernel_rfl) fun a ha => ?_
      obtain ⟨hx28, H⟩ := ite_some H
      refine hop (v := .int .i64 (Int.fdiv a1 (2 ^ (min (Int.toNat x21) IntKind.i64.bits)))) (w' := w18) ha rfl rfl rfl (shr_run ha (by rfl) (by rfl) hx28 _) fun a ha => ?_
      refine seg ha 1 [(1, .int .i64 a1), (9, .int .i64 x21), (36, .slice ao19 x20.length cap19), (40, .int .u8 (IntKind.u8.wrap (Int.fdiv a1 (2 ^ (min (Int.toNat x21) IntKind.i64.bits)))))] (by kernel_rfl) fun a ha => ?_
      refine bsl (vals := ([.int .u8 (IntKind.u8.wrap (Int.fdiv a1 (2 ^ (min (Int.toNat x21) IntKind.i64.bits))))] : List Value)) (T := 5) ha rfl (([.int .u8 (IntKind.u8.wrap (Int.fdiv a1 (2 ^ (min (Int.toNat x21) IntKind.i64.bits))))] : List Value) ++ ([] : List Value)) (fun w => by kernel_rfl) rfl rfl rfl fun a w29 g30 hN31 ha => ?_
      have o1 : Ok [] (blkL ao19 ++ (M)) w18.heap.size := Ok.nil _ _
      have o2 : Ok ([g30] ++ (blkL ao19 ++ (M))) (blkL ao19 ++ (M)) w18.heap.size := (Ok.app (hN31.ok _) (Ok.refl _ _))
      have f19 := f19.chg hN31.chg o1 o2 (fun _ _ h => nomatch h) (fun _ h => mr (ml h))
      have p_i32_i19 : ∀ x ∈ [g30], x ∉ (blkL ao19) := fun x hx hy => absurd (hM x (ml hy)) (Nat.not_lt.2 ((hN31.ge1) x hx))
      have p_i32_M : ∀ x ∈ [g30], x ∉ M := fun x hx hy => absurd (hM x (mr (hy))) (Nat.not_lt.2 ((hN31.ge1) x hx))
      have e_i32 : ∀ x ∈ [g30], w.heap.size ≤ x := fun x hx => Nat.le_trans hC.size ((hN31.ge1) x hx)
      have hM : MS ([g30] ++ (blkL ao19 ++ (M))) w29 := (MS.app hN31.ms (hM.chg hN31.chg))
      have hC := hC.trans hN31.chg (Ok.nil _ _)
      have f33 : Own (rInt .u8) 5 w29 ([g30] ++ (blkL ao19 ++ (M))) (some ⟨g30, 0, none⟩) 1 ([IntKind.u8.wrap (Int.fdiv a1 (2 ^ (min (Int.toNat x21) IntKind.i64.bits)))] : List Int) := hN31.own ⟨([.int .u8 (IntKind.u8.wrap (Int.fdiv a1 (2 ^ (min (Int.toNat x21) IntKind.i64.bits))))] : List Value), _, rfl, rfl, rfl⟩ (Nat.le_of_ble_eq_true rfl)
      obtain ⟨hx34, H⟩ := ite_some H
      refine app (r := (rInt .u8)) (xs := x20) (ys := ([IntKind.u8.wrap (Int.fdiv a1 (2 ^ (min (Int.toNat x21) IntKind.i64.bits)))] : List Int)) ha (ElemT.mk' (bytes := 1) (by kernel_rfl)) rfl rfl rfl rfl rfl f19 f33.src hx34 (by decide) fun a w35 ao36 cap36 hO36 hc36 hk36 hl36 ha => ?_
      have o1 : Ok (blkL ao19) ([g30] ++ (blkL ao19 ++ (M))) w29.heap.size := (fun _ h => .inl (mr (ml h)))
      have o2 : Ok (blkL ao36 ++ ([g30] ++ (M))) ([g30] ++ (blkL ao19 ++ (M))) w29.heap.size := (Ok.app (Ok.to hk36 (fun _ h => mr (ml h))) (Ok.app (fun _ h => .inl (ml h)) (fun _ h => .inl (mr (mr (h))))))
      have f33 := f33.chg hc36 o1 o2 p_i32_i19 (fun _ h => mr (ml h))
      have p_i36_i32 : ∀ x ∈ blkL ao36, x ∉ ([g30]) := fun x hx hy => (hk36 x hx).elim (fun h => (fun x hx hy => p_i32_i19 x hy hx) x h hy) (fun h => absurd (hM x (ml hy)) (Nat.not_lt.2 h))
      have p_i36_M : ∀ x ∈ blkL ao36, x ∉ M := fun x hx hy => (hk36 x hx).elim (fun h => p_i19_M x h hy) (fun h => absurd (hM x (mr (mr (hy)))) (Nat.not_lt.2 h))
      have e_i36 : ∀ x ∈ blkL ao36, w.heap.size ≤ x := fun x hx => (hk36 x hx).elim (e_i19 x) (Nat.le_trans hC.size)
      have hM : MS (blkL ao36 ++ ([g30] ++ (M))) w35 := (MS.app hl36 (MS.app (fun x h => hM.chg hc36 x (ml h)) (fun x h => hM.chg hc36 x (mr (mr (h))))))
      have hC := hC.trans hc36 (fun x h => .inr (e_i19 x h))
      have f36 := hO36.chg (M' := blkL ao36 ++ ([g30] ++ (M))) (Chg.refl [] _) (Ok.nil _ _) (Ok.app (fun _ h => .inl (ml h)) (Ok.to (Ok.app (fun _ h => .inl (ml h)) (fun _ h => .inl (mr (mr (h))))) (fun _ h => mr h))) (fun _ _ h => nomatch h) (fun _ h => ml h)
      refine seg ha 1 [(1, .int .i64 a1), (8, .slice ao36 (x20 ++ ([IntKind.u8.wrap (Int.fdiv a1 (2 ^ (min (Int.toNat x21) IntKind.i64.bits)))] : List Int)).length cap36), (9, .int .i64 x21)] (by kernel_rfl) fun a ha => ?_
      refine hK27 _ _ ?_; try clear hK27 K27
      refine wp_region_lit ?_
      refine seg ha 3 [(1, .int .i64 a1), (8, .slice ao36 (x20 ++ ([IntKind.u8.wrap (Int.fdiv a1 (2 ^ (min (Int.toNat x21) IntKind.i64.bits)))] : List Int)).length cap36), (9, .int .i64 (IntKind.i64.wrap (x21 - (8 : Int))))] (by kernel_rfl) fun a ha => ?_
      have o1 : Ok [] (blkL ao36 ++ ([g30] ++ (M))) w35.heap.size := Ok.nil _ _
      have o2 : Ok (blkL ao36 ++ (M)) (blkL ao36 ++ ([g30] ++ (M))) w35.heap.size := (Ok.app (fun _ h => .inl (ml h)) (fun _ h => .inl (mr (mr (h)))))
      have f36 := f36.chg (Chg.refl [] _) o1 o2 (fun _ _ h => nomatch h) (fun _ h => ml h)
      have hM : MS (blkL ao36 ++ (M)) w35 := (MS.app (fun x h => hM.chg (Chg.refl [] _) x (ml h)) (fun x h => hM.chg (Chg.refl [] _) x (mr (mr (h)))))
      have hC := hC.trans (Chg.refl [] _) (Ok.nil _ _)
      exact ⟨kk, Nat.lt_succ_self _, ⟨(x20 ++ ([IntKind.u8.wrap (Int.fdiv a1 (2 ^ (min (Int.toNat x21) IntKind.i64.bits)))] : List Int)), IntKind.i64.wrap (x21 - (8 : Int)), ao36, cap36, H, (ha.sel (by kernel_rfl)), f36, e_i36, p_i36_M, hC, hM⟩⟩
     ·have H := ite_f hc26 H
      refine wp_exit ?_
      simp only [Exit.then, Exit.inBlock, ↓reduceIte, Nat.reduceEqDiff]
      obtain rfl := Option.some.inj H
      exact J18 _ _ ao19 cap19 (ha.sel (by kernel_rfl)) f19 e_i19 p_i19_M hC hM
  have H := H9
  refine seg ha 3 [(20, .bool (decide (a1 < (0 : Int)))), (0, .slice ao1 a0.length cap1), (1, .int .i64 a1), (2, .int .i64 a2)] (by kernel_rfl) fun a ha => ?_
  rcases Bool.eq_false_or_eq_true (decide (a1 < (0 : Int))) with hb37 | hb37
  ·have ha := ha.lit hb37
   have H := ite_t hb37 H
   refine sgh ha 7 [1, 1, 1, 1, 1, 3, 0] [(0, .slice ao1 a0.length cap1), (1, .int .i64 a1), (2, .int .i64 a2), (17, .bool true)] (by kernel_rfl) fun a ha => ?_
   obtain rfl := Option.some.inj H
   exact J9 _ _ (ha.sel (by kernel_rfl)) f1 hC hM
  ·have ha := ha.lit hb37
   have H := ite_f hb37 H
   refine sgh ha 3 [2, 2, 2] [(0, .slice ao1 a0.length cap1), (1, .int .i64 a1), (2, .int .i64 a2), (20, .bool false), (21, .int .i64 a1), (23, .int .i64 (IntKind.i64.wrap ((8 : Int) * a2)))] (by kernel_rfl) fun a ha => ?_
   obtain ⟨hx38, H⟩ := ite_some H
   refine hop (v := .int .i64 (Int.fdiv a1 (2 ^ (min (Int.toNat (IntKind.i64.wrap ((8 : Int) * a2))) IntKind.i64.bits)))) (w' := w) ha rfl rfl rfl (shr_run ha (by rfl) (by rfl) hx38 _) fun a ha => ?_
   refine sgh ha 3 [2, 4, 0] [(0, .slice ao1 a0.length cap1), (1, .int .i64 a1), (2, .int .i64 a2), (17, .bool ((Int.fdiv a1 (2 ^ (min (Int.toNat (IntKind.i64.wrap ((8 : Int) * a2))) IntKind.i64.bits))) != (0 : Int)))] (by kernel_rfl) fun a ha => ?_
   obtain rfl := Option.some.inj H
   exact J9 _ _ (ha.sel (by kernel_rfl)) f1 hC hM
def attr_num.f (k : Nat) (a0 : Int) : Option (List Int) := (cursor_Put.f k ([] : List Int) a0 (4 : Int)).bind fun t3 => some ((t3.1 : List Int))
set_option maxRecDepth 100000 in
theorem attr_num.walk (w : World) (M : List Nat) (hM : MS M w) (a0 : Int) (k : Nat) (r : List Int) (H : attr_num.f k a0 = some r) :
    To Tryd.prog 68 [.int .i64 a0] w fun v w' => ∃ (ao6 : Option Addr) (cap6 : Nat), v = .slice ao6 r.length cap6 ∧ (Own (rInt .u8) 5 w' (blkL ao6 ++ (M)) ao6 cap6 r) ∧ (∀ x ∈ blkL ao6, w.heap.size ≤ x) ∧ Chg [] w w' ∧ MS (blkL ao6 ++ (M)) w' := by
 unfold attr_num.f at H
 refine ent Tryd.func68 rfl [(0, .int .i64 a0)] rfl (by rfl) fun a ha => ?_
 have hC : Chg [] w w := Chg.refl _ _
 refine wp_seq_k fun K1 hK1 => ?_
 refine wp_region_lit ?_
 refine seg ha 1 [(0, .int .i64 a0)] (by kernel_rfl) fun a ha => ?_
 refine hK1 _ _ ?_; try clear hK1 K1
 refine wp_seq_k fun K2 hK2 => ?_
 refine wp_region_lit ?_
 refine seg ha 1 [(6, .int .i64 a0)] (by kernel_rfl) fun a ha => ?_
 obtain ⟨t3, H3, H⟩ := bind_some H
 refine cl ha (by rfl) (by kernel_rfl) (by rfl) (by rfl) (by rfl) (cursor_Put.walk w _ hM ([] : List Int) none 0 (RSl.nil (Nat.zero_le _)) a0 (4 : Int) k _ H3) ?_
 rintro _ w3 ⟨ao4, cap4, rfl, f4, ne_i4, hc3, hMn⟩ a ha
 have p_i4_M : ∀ x ∈ blkL ao4, x ∉ M := fun x hx hy => absurd (hM x (hy)) (Nat.not_lt.2 (ne_i4 x hx))
 have e_i4 : ∀ x ∈ blkL ao4, w.heap.size ≤ x := fun x hx => Nat.le_trans hC.size (ne_i4 x hx)
 have hM : MS (blkL ao4 ++ (M)) w3 := (MS.app (fun x h => hMn x (ml h)) (hM.chg hc3))
 have hC := hC.trans hc3 (Ok.nil _ _)
 refine seg ha 5 [(3, .slice ao4 t3.1.length cap4)] (by kernel_rfl) fun a ha => ?_
 refine hK2 _ _ ?_; try clear hK2 K2
 refine wp_seq_k fun K5 hK5 => ?_
 refine wp_region_lit ?_
 refine seg ha 2 [(2, .slice ao4 t3.1.length cap4)] (by kernel_rfl) fun a ha => ?_
 refine hK5 _ _ ?_; try clear hK5 K5
 refine wp_ret ?_
 try simp only [Exit.then, Exit.inBlock]
 obtain rfl := Option.some.inj H
 refine rt1 ha rfl rfl ?_
 exact ⟨ao4, cap4, rfl, f4, e_i4, hC, hM⟩
def attr_pathBytes.l1 (k : Nat) (a0 : List S_api_Segment) (x9 : Int) : Nat → (List Int) → Int → Option (List Int)
  | 0, _, _ => none
  | kk + 1, x47, x48 => (if (decide (x48 < (((rd a0 x9).AS).length : Int))) = true then (if 0 ≤ x48 ∧ x48 < (((rd a0 x9).AS).length : Int) then (attr_num.f k (rd ((rd a0 x9).AS) x48)).bind fun t62 => (if (x47.length + t62.length) * 1 ≤ 140737488355328 then attr_pathBytes.l1 k a0 x9 kk (x47 ++ t62) (IntKind.i64.wrap (x48 + (1 : Int))) else none) else none) else some (x47 : List Int))
def attr_pathBytes.l0 (k : Nat) (a0 : List S_api_Segment) : Nat → (List Int) → Int → Option (List Int)
  | 0, _, _ => none
  | kk + 1, x8, x9 => (if (decide (x9 < (a0.length : Int))) = true then (if 0 ≤ x9 ∧ x9 < (a0.length : Int) then ((if ((rd a0 x9).Set) = true then some ((1 : Int) : Int) else some ((2 : Int) : Int))).bind fun s34 => (if (x8.length + ([s34, IntKind.u8.wrap (((rd a0 x9).AS).length : Int)] : List Int).length) * 1 ≤ 140737488355328 then (attr_pathBytes.l1 k a0 x9 k (x8 ++ ([s34, IntKind.u8.wrap (((rd a0 x9).AS).length : Int)] : List Int)) (0 : Int)).bind fun s45 => attr_pathBytes.l0 k a0 kk s45 (IntKind.i64.wrap (x9 + (1 : Int))) else none) else none) else some (x8 : List Int))
def attr_pathBytes.f (k : Nat) (a0 : List S_api_Segment) : Option (List Int) := (attr_pathBytes.l0 k a0 k ([] : List Int) (0 : Int)).bind fun s6 => some ((s6 : List Int))
set_option maxRecDepth 100000 in
theorem attr_pathBytes.walk (w : World) (M : List Nat) (hM : MS M w) (a0 : List S_api_Segment) (ao1 : Option Addr) (cap1 : Nat) (f1 : RSl rS_api_Segment 93 w M ao1 cap1 a0) (k : Nat) (r : List Int) (H : attr_pathBytes.f k a0 = some r) :
    To Tryd.prog 67 [.slice ao1 a0.length cap1] w fun v w' => ∃ (ao69 : Option Addr) (cap69 : Nat), v = .slice ao69 r.length cap69 ∧ (Own (rInt .u8) 5 w' (blkL ao69 ++ (M)) ao69 cap69 r) ∧ (∀ x ∈ blkL ao69, w.heap.size ≤ x) ∧ Chg [] w w' ∧ MS (blkL ao69 ++ (M)) w' := by
 unfold attr_pathBytes.f at H
 refine ent Tryd.func67 rfl [(0, .slice ao1 a0.length cap1)] rfl (by rfl) fun a ha => ?_
 have hC : Chg [] w w := Chg.refl _ _
 refine wp_seq_k fun K2 hK2 => ?_
 refine wp_region_lit ?_
 refine seg ha 1 [(0, .slice ao1 a0.length cap1)] (by kernel_rfl) fun a ha => ?_
 refine hK2 _ _ ?_; try clear hK2 K2
 refine wp_seq_k fun K3 hK3 => ?_
 refine wp_region_lit ?_
 refine seg ha 1 [(0, .slice ao1 a0.length cap1), (3, .slice none 0 0)] (by kernel_rfl) fun a ha => ?_
 refine hK3 _ _ ?_; try clear hK3 K3
 refine wp_seq_k fun K4 hK4 => ?_
 refine wp_seq_k fun K5 hK5 => ?_
 refine wp_region_lit ?_
 refine seg ha 3 [(3, .slice none 0 0), (9, .slice ao1 a0.length cap1), (10, .int .i64 (a0.length : Int)), (11, .int .i64 (0 : Int))] (by kernel_rfl) fun a ha => ?_
 refine hK5 _ _ ?_; try clear hK5 K5
 refine wp_block ?_
 obtain ⟨s6, H6, H⟩ := bind_some H
 have J6 : ∀ (a : Act) (wx6 : World) (ao10 : Option Addr) (cap10 : Nat), Has a Tryd.f67.ntmps [(3, .slice ao10 s6.length cap10)] → (Own (rInt .u8) 5 wx6 (blkL ao10 ++ (M)) ao10 cap10 s6) → (∀ x ∈ blkL ao10, w.heap.size ≤ x) → (∀ x ∈ blkL ao10, x ∉ M) → (Chg [] w wx6) → (MS (blkL ao10 ++ (M)) wx6) → K4 a wx6 := by
  intro a wx6 ao10 cap10 ha f10 e_i10 p_i10_M hC hM
  refine hK4 _ _ ?_; try clear hK4 K4
  refine wp_seq_k fun K11 hK11 => ?_
  refine wp_region_lit ?_
  refine seg ha 2 [(2, .slice ao10 s6.length cap10)] (by kernel_rfl) fun a ha => ?_
  refine hK11 _ _ ?_; try clear hK11 K11
  refine wp_ret ?_
  try simp only [Exit.then, Exit.inBlock]
  obtain rfl := Option.some.inj H
  refine rt1 ha rfl rfl ?_
  exact ⟨ao10, cap10, rfl, f10, e_i10, hC, hM⟩
 have Hc6 := H
 have H := H6
 refine wp_loop_ghost (fun kk a w6 => ∃ (x8 : List Int) (x9 : Int) (ao7 : Option Addr) (cap7 : Nat), attr_pathBytes.l0 k a0 kk x8 x9 = some s6 ∧ Has a Tryd.f67.ntmps [(3, .slice ao7 x8.length cap7), (9, .slice ao1 a0.length cap1), (10, .int .i64 (a0.length : Int)), (11, .int .i64 x9)] ∧ (Own (rInt .u8) 5 w6 (blkL ao7 ++ (M)) ao7 cap7 x8) ∧ (RSl rS_api_Segment 93 w6 (blkL ao7 ++ (M)) ao1 cap1 a0) ∧ (∀ x ∈ blkL ao7, w.heap.size ≤ x) ∧ (∀ x ∈ blkL ao7, x ∉ M) ∧ (Chg [] w w6) ∧ (MS (blkL ao7 ++ (M)) w6)) k ?_ ?_
 ·skip
  have o1 : Ok [] (M) w.heap.size := Ok.nil _ _
  have o2 : Ok (blkL none ++ (M)) (M) w.heap.size := (Ok.app (fun _ h => nomatch h) (Ok.refl _ _))
  have f1 := f1.chg (Chg.refl [] _) o1 o2
  have p_z12_M : ∀ x ∈ blkL none, x ∉ M := fun x hx hy => absurd (hM x (hy)) (Nat.not_lt.2 ((fun _ h => nomatch h) x hx))
  have e_z12 : ∀ x ∈ blkL none, w.heap.size ≤ x := fun x hx => Nat.le_trans hC.size ((fun _ h => nomatch h) x hx)
  have hM : MS (blkL none ++ (M)) w := (MS.app (fun _ h => nomatch h) (hM.chg (Chg.refl [] _)))
  have hC := hC.trans (Chg.refl [] _) (Ok.nil _ _)
  exact ⟨([] : List Int), (0 : Int), none, 0, H, (ha.sel (by kernel_rfl)), Own.nil, f1, e_z12, p_z12_M, hC, hM⟩
 ·rintro kk a w6 ⟨x8, x9, ao7, cap7, H, ha, f7, f1, e_i7, p_i7_M, hC, hM⟩
  obtain _ | kk := kk
  ·exact nomatch (show none = some _ from H)
  rw [attr_pathBytes.l0] at H
  refine wp_seq_k fun K13 hK13 => ?_
  refine wp_region_lit ?_
  refine seg ha 1 [(3, .slice ao7 x8.length cap7), (9, .slice ao1 a0.length cap1), (10, .int .i64 (a0.length : Int)), (11, .int .i64 x9), (12, .bool (decide (x9 < (a0.length : Int))))] (by kernel_rfl) fun a ha => ?_
  refine hK13 _ _ ?_; try clear hK13 K13
  refine wp_seq_k fun K14 hK14 => ?_
  refine cnd ha rfl (fun hc15 => ?_) (fun hc15 => ?_)
  ·have H := ite_t hc15 H
   refine wp_skip ?_
   refine hK14 _ _ ?_; try clear hK14 K14
   refine wp_seq_k fun K16 hK16 => ?_
   refine wp_block ?_
   refine wp_seq_k fun K17 hK17 => ?_
   refine wp_region_lit ?_
   obtain ⟨⟨hx18, hx18'⟩, H⟩ := ite_some H
   refine ix (r := rS_api_Segment) ha (by kernel_rfl) (by kernel_rfl) rfl rfl rfl rfl rfl f1 hx18 hx18' fun a ge19 oe20 cs21 hn24 hR22 hE23 ha => ?_
   rw [rd_get] at hR22
   obtain ⟨ao25, cap25, rfl, f25⟩ := rS_api_Segment.open hR22
   refine ldA (cs := (cS_api_Segment (rd a0 x9) ao25 cap25)) ha rfl (by kernel_rfl) rfl rfl rfl (cells_sub hE23 (all := (cS_api_Segment (rd a0 x9) ao25 cap25)) [] [] (by kernel_rfl)) fun a ha => ?_
   refine al (cs := (cS_api_Segment (⟨false, ([] : List Int)⟩ : S_api_Segment) none 0)) (z := .agg (cS_api_Segment (⟨false, ([] : List Int)⟩ : S_api_Segment) none 0).toArray) ha (fun w => by kernel_rfl) rfl rfl rfl rfl fun a w26 g27 hN28 ha => ?_
   have o1 : Ok [] (blkL ao7 ++ (M)) w6.heap.size := Ok.nil _ _
   have o2 : Ok ([g27] ++ (blkL ao7 ++ (M))) (blkL ao7 ++ (M)) w6.heap.size := (Ok.app (hN28.ok _) (Ok.refl _ _))
   have f7 := f7.chg hN28.chg o1 o2 (fun _ _ h => nomatch h) (fun _ h => mr (ml h))
   have f1 := f1.chg hN28.chg o1 o2
   have f25 := f25.chg hN28.chg o1 o2
   have p_i29_i7 : ∀ x ∈ [g27], x ∉ (blkL ao7) := fun x hx hy => absurd (hM x (ml hy)) (Nat.not_lt.2 ((hN28.ge1) x hx))
   have p_i29_M : ∀ x ∈ [g27], x ∉ M := fun x hx hy => absurd (hM x (mr (hy))) (Nat.not_lt.2 ((hN28.ge1) x hx))
   have e_i29 : ∀ x ∈ [g27], w.heap.size ≤ x := fun x hx => Nat.le_trans hC.size ((hN28.ge1) x hx)
   have hM : MS ([g27] ++ (blkL ao7 ++ (M))) w26 := (MS.app hN28.ms (hM.chg hN28.chg))
   have hC := hC.trans hN28.chg (Ok.nil _ _)
   have hBg27 : Box w26 g27 (cS_api_Segment (⟨false, ([] : List Int)⟩ : S_api_Segment) none 0) := hN28.box
   refine stA (l := (cS_api_Segment (rd a0 x9) ao25 cap25)) ha rfl rfl rfl (by kernel_rfl) rfl rfl hBg27 rfl fun a w30 ha hb2 hc31 _ => ?_
   have o1 : Ok [g27] ([g27] ++ (blkL ao7 ++ (M))) w26.heap.size := (fun _ h => .inl (ml h))
   have o2 : Ok ([g27] ++ (blkL ao7 ++ (M))) ([g27] ++ (blkL ao7 ++ (M))) w26.heap.size := (Ok.refl _ _)
   have f7 := f7.chg hc31 o1 o2 (fun x (hx : x ∈ blkL ao7) (hy : x ∈ [g27]) => p_i29_i7 x hy hx) (fun _ h => mr (ml h))
   have f1 := f1.chg hc31 o1 o2
   have f25 := f25.chg hc31 o1 o2
   have hM : MS ([g27] ++ (blkL ao7 ++ (M))) w30 := (hM.chg hc31)
   have hC := hC.trans hc31 (fun x h => .inr (e_i29 x h))
   have hBg27 : Box w30 g27 (cS_api_Segment (rd a0 x9) ao25 cap25) := hb2
   refine hK17 _ _ ?_; try clear hK17 K17
   refine wp_seq_k fun K32 hK32 => ?_
   refine wp_region_lit ?_
   refine seg ha 1 [(3, .slice ao7 x8.length cap7), (5, .pointer (some ⟨g27, 0, none⟩)), (6, .int .u8 (2 : Int)), (9, .slice ao1 a0.length cap1), (10, .int .i64 (a0.length : Int)), (11, .int .i64 x9)] (by kernel_rfl) fun a ha => ?_
   refine hK32 _ _ ?_; try clear hK32 K32
   refine wp_seq_k fun K33 hK33 => ?_
   obtain ⟨s34, H34, H⟩ := bind_some H
   have J34 : ∀ (a : Act) (w34 : World), Has a Tryd.f67.ntmps [(3, .slice ao7 x8.length cap7), (5, .pointer (some ⟨g27, 0, none⟩)), (6, .int .u8 s34), (9, .slice ao1 a0.length cap1), (10, .int .i64 (a0.length : Int)), (11, .int .i64 x9)] → (Own (rInt .u8) 5 w34 ([g27] ++ (blkL ao7 ++ (M))) ao7 cap7 x8) → (RSl rS_api_Segment 93 w34 ([g27] ++ (blkL ao7 ++ (M))) ao1 cap1 a0) → (RSl (rInt .i64) 3 w34 ([g27] ++ (blkL ao7 ++ (M))) ao25 cap25 ((rd a0 x9).AS)) → (Box w34 g27 (cS_api_Segment (rd a0 x9) ao25 cap25)) → (Chg [] w w34) → (MS ([g27] ++ (blkL ao7 ++ (M))) w34) → K33 a w34 := by
    intro a w34 ha f7 f1 f25 hBg27 hC hM
    refine hK33 _ _ ?_; try clear hK33 K33
    refine wp_seq_k fun K35 hK35 => ?_
    refine wp_region_lit ?_
    refine seg ha 3 [(5, .pointer (some ⟨g27, 0, none⟩)), (9, .slice ao1 a0.length cap1), (10, .int .i64 (a0.length : Int)), (11, .int .i64 x9), (17, .slice ao7 x8.length cap7), (18, .int .u8 s34), (19, .pointer (some ⟨g27, 1, none⟩))] (by kernel_rfl) fun a ha => ?_
    refine ld (v := .slice ao25 ((rd a0 x9).AS).length cap25) ha rfl (by kernel_rfl) rfl rfl rfl (hBg27.cell' (o := 1) rfl (by kernel_rfl)) fun a ha => ?_
    refine seg ha 2 [(5, .pointer (some ⟨g27, 0, none⟩)), (9, .slice ao1 a0.length cap1), (10, .int .i64 (a0.length : Int)), (11, .int .i64 x9), (17, .slice ao7 x8.length cap7), (18, .int .u8 s34), (22, .int .u8 (IntKind.u8.wrap (((rd a0 x9).AS).length : Int)))] (by kernel_rfl) fun a ha => ?_
    refine bsl (vals := ([.int .u8 s34, .int .u8 (IntKind.u8.wrap (((rd a0 x9).AS).length : Int))] : List Value)) (T := 5) ha rfl (([.int .u8 s34] : List Value) ++ (([.int .u8 (IntKind.u8.wrap (((rd a0 x9).AS).length : Int))] : List Value) ++ ([] : List Value))) (fun w => by kernel_rfl) rfl rfl rfl fun a w36 g37 hN38 ha => ?_
    have o1 : Ok [] ([g27] ++ (blkL ao7 ++ (M))) w34.heap.size := Ok.nil _ _
    have o2 : Ok ([g37] ++ ([g27] ++ (blkL ao7 ++ (M)))) ([g27] ++ (blkL ao7 ++ (M))) w34.heap.size := (Ok.app (hN38.ok _) (Ok.refl _ _))
    have f1 := f1.chg hN38.chg o1 o2
    have f7 := f7.chg hN38.chg o1 o2 (fun _ _ h => nomatch h) (fun _ h => mr (mr (ml h)))
    have f25 := f25.chg hN38.chg o1 o2
    have hBg27 := hBg27.chg hN38.chg (fun h => nomatch h)
    have p_i39_i29 : ∀ x ∈ [g37], x ∉ ([g27]) := fun x hx hy => absurd (hM x (ml hy)) (Nat.not_lt.2 ((hN38.ge1) x hx))
    have p_i39_i7 : ∀ x ∈ [g37], x ∉ (blkL ao7) := fun x hx hy => absurd (hM x (mr (ml hy))) (Nat.not_lt.2 ((hN38.ge1) x hx))
    have p_i39_M : ∀ x ∈ [g37], x ∉ M := fun x hx hy => absurd (hM x (mr (mr (hy)))) (Nat.not_lt.2 ((hN38.ge1) x hx))
    have e_i39 : ∀ x ∈ [g37], w.heap.size ≤ x := fun x hx => Nat.le_trans hC.size ((hN38.ge1) x hx)
    have hM : MS ([g37] ++ ([g27] ++ (blkL ao7 ++ (M)))) w36 := (MS.app hN38.ms (hM.chg hN38.chg))
    have hC := hC.trans hN38.chg (Ok.nil _ _)
    have f40 : Own (rInt .u8) 5 w36 ([g37] ++ ([g27] ++ (blkL ao7 ++ (M)))) (some ⟨g37, 0, none⟩) 2 ([s34, IntKind.u8.wrap (((rd a0 x9).AS).length : Int)] : List Int) := hN38.own ⟨([.int .u8 s34] : List Value), _, rfl, rfl, ⟨([.int .u8 (IntKind.u8.wrap (((rd a0 x9).AS).length : Int))] : List Value), _, rfl, rfl, rfl⟩⟩ (Nat.le_of_ble_eq_true rfl)
    obtain ⟨hx41, H⟩ := ite_some H
    refine app (r := (rInt .u8)) (xs := x8) (ys := ([s34, IntKind.u8.wrap (((rd a0 x9).AS).length : Int)] : List Int)) ha (ElemT.mk' (bytes := 1) (by kernel_rfl)) rfl rfl rfl rfl rfl f7 f40.src hx41 (by decide) fun a w42 ao43 cap43 hO43 hc43 hk43 hl43 ha => ?_
    have o1 : Ok (blkL ao7) ([g37] ++ ([g27] ++ (blkL ao7 ++ (M)))) w36.heap.size := (fun _ h => .inl (mr (mr (ml h))))
    have o2 : Ok (blkL ao43 ++ ([g37] ++ ([g27] ++ (M)))) ([g37] ++ ([g27] ++ (blkL ao7 ++ (M)))) w36.heap.size := (Ok.app (Ok.to hk43 (fun _ h => mr (mr (ml h)))) (Ok.app (fun _ h => .inl (ml h)) (Ok.app (fun _ h => .inl (mr (ml h))) (fun _ h => .inl (mr (mr (mr (h))))))))
    have f1 := f1.chg hc43 o1 o2
    have f40 := f40.chg hc43 o1 o2 p_i39_i7 (fun _ h => mr (ml h))
    have f25 := f25.chg hc43 o1 o2
    have hBg27 := hBg27.chg hc43 (p_i29_i7 g27 (by simp))
    have p_i43_i39 : ∀ x ∈ blkL ao43, x ∉ ([g37]) := fun x hx hy => (hk43 x hx).elim (fun h => (fun x hx hy => p_i39_i7 x hy hx) x h hy) (fun h => absurd (hM x (ml hy)) (Nat.not_lt.2 h))
    have p_i43_i29 : ∀ x ∈ blkL ao43, x ∉ ([g27]) := fun x hx hy => (hk43 x hx).elim (fun h => (fun x hx hy => p_i29_i7 x hy hx) x h hy) (fun h => absurd (hM x (mr (ml hy))) (Nat.not_lt.2 h))
    have p_i43_M : ∀ x ∈ blkL ao43, x ∉ M := fun x hx hy => (hk43 x hx).elim (fun h => p_i7_M x h hy) (fun h => absurd (hM x (mr (mr (mr (hy))))) (Nat.not_lt.2 h))
    have e_i43 : ∀ x ∈ blkL ao43, w.heap.size ≤ x := fun x hx => (hk43 x hx).elim (e_i7 x) (Nat.le_trans hC.size)
    have hM : MS (blkL ao43 ++ ([g37] ++ ([g27] ++ (M)))) w42 := (MS.app hl43 (MS.app (fun x h => hM.chg hc43 x (ml h)) (MS.app (fun x h => hM.chg hc43 x (mr (ml h))) (fun x h => hM.chg hc43 x (mr (mr (mr (h))))))))
    have hC := hC.trans hc43 (fun x h => .inr (e_i7 x h))
    have f43 := hO43.chg (M' := blkL ao43 ++ ([g37] ++ ([g27] ++ (M)))) (Chg.refl [] _) (Ok.nil _ _) (Ok.app (fun _ h => .inl (ml h)) (Ok.to (Ok.app (fun _ h => .inl (ml h)) (Ok.app (fun _ h => .inl (mr (ml h))) (fun _ h => .inl (mr (mr (mr (h))))))) (fun _ h => mr h))) (fun _ _ h => nomatch h) (fun _ h => ml h)
    refine seg ha 1 [(3, .slice ao43 (x8 ++ ([s34, IntKind.u8.wrap (((rd a0 x9).AS).length : Int)] : List Int)).length cap43), (5, .pointer (some ⟨g27, 0, none⟩)), (9, .slice ao1 a0.length cap1), (10, .int .i64 (a0.length : Int)), (11, .int .i64 x9)] (by kernel_rfl) fun a ha => ?_
    refine hK35 _ _ ?_; try clear hK35 K35
    refine wp_seq_k fun K44 hK44 => ?_
    refine wp_region_lit ?_
    refine seg ha 1 [(3, .slice ao43 (x8 ++ ([s34, IntKind.u8.wrap (((rd a0 x9).AS).length : Int)] : List Int)).length cap43), (9, .slice ao1 a0.length cap1), (10, .int .i64 (a0.length : Int)), (11, .int .i64 x9), (25, .pointer (some ⟨g27, 1, none⟩))] (by kernel_rfl) fun a ha => ?_
    refine ld (v := .slice ao25 ((rd a0 x9).AS).length cap25) ha rfl (by kernel_rfl) rfl rfl rfl (hBg27.cell' (o := 1) rfl (by kernel_rfl)) fun a ha => ?_
    refine seg ha 2 [(3, .slice ao43 (x8 ++ ([s34, IntKind.u8.wrap (((rd a0 x9).AS).length : Int)] : List Int)).length cap43), (9, .slice ao1 a0.length cap1), (10, .int .i64 (a0.length : Int)), (11, .int .i64 x9), (26, .slice ao25 ((rd a0 x9).AS).length cap25), (27, .int .i64 (((rd a0 x9).AS).length : Int)), (28, .int .i64 (0 : Int))] (by kernel_rfl) fun a ha => ?_
    refine hK44 _ _ ?_; try clear hK44 K44
    refine wp_block ?_
    obtain ⟨s45, H45, H⟩ := bind_some H
    have J45 : ∀ (a : Act) (wx45 : World) (ao49 : Option Addr) (cap49 : Nat), Has a Tryd.f67.ntmps [(3, .slice ao49 s45.length cap49), (9, .slice ao1 a0.length cap1), (10, .int .i64 (a0.length : Int)), (11, .int .i64 x9)] → (Own (rInt .u8) 5 wx45 (blkL ao49 ++ ([g27] ++ (M))) ao49 cap49 s45) → (RSl rS_api_Segment 93 wx45 (blkL ao49 ++ ([g27] ++ (M))) ao1 cap1 a0) → (RSl (rInt .i64) 3 wx45 (blkL ao49 ++ ([g27] ++ (M))) ao25 cap25 ((rd a0 x9).AS)) → (Box wx45 g27 (cS_api_Segment (rd a0 x9) ao25 cap25)) → (∀ x ∈ blkL ao49, w.heap.size ≤ x) → (∀ x ∈ blkL ao49, x ∉ [g27]) → (∀ x ∈ blkL ao49, x ∉ M) → (Chg [] w wx45) → (MS (blkL ao49 ++ ([g27] ++ (M))) wx45) → K16 a wx45 := by
     intro a wx45 ao49 cap49 ha f49 f1 f25 hBg27 e_i49 p_i49_i29 p_i49_M hC hM
     refine hK16 _ _ ?_; try clear hK16 K16
     refine wp_region_lit ?_
     refine seg ha 2 [(3, .slice ao49 s45.length cap49), (9, .slice ao1 a0.length cap1), (10, .int .i64 (a0.length : Int)), (11, .int .i64 (IntKind.i64.wrap (x9 + (1 : Int))))] (by kernel_rfl) fun a ha => ?_
     have o1 : Ok [] (blkL ao49 ++ ([g27] ++ (M))) wx45.heap.size := Ok.nil _ _
     have o2 : Ok (blkL ao49 ++ (M)) (blkL ao49 ++ ([g27] ++ (M))) wx45.heap.size := (Ok.app (fun _ h => .inl (ml h)) (fun _ h => .inl (mr (mr (h)))))
     have f49 := f49.chg (Chg.refl [] _) o1 o2 (fun _ _ h => nomatch h) (fun _ h => ml h)
     have f1 := f1.chg (Chg.refl [] _) o1 o2
     have f25 := f25.chg (Chg.refl [] _) o1 o2
     have hBg27 := hBg27.chg (Chg.refl [] _) (fun h => nomatch h)
     have hM : MS (blkL ao49 ++ (M)) wx45 := (MS.app (fun x h => hM.chg (Chg.refl [] _) x (ml h)) (fun x h => hM.chg (Chg.refl [] _) x (mr (mr (h)))))
     have hC := hC.trans (Chg.refl [] _) (Ok.nil _ _)
     exact ⟨kk, Nat.lt_succ_self _, ⟨s45, IntKind.i64.wrap (x9 + (1 : Int)), ao49, cap49, H, (ha.sel (by kernel_rfl)), f49, f1, e_i49, p_i49_M, hC, hM⟩⟩
    have Hc45 := H
    have H := H45
    refine wp_loop_ghost (fun kk a w45 => ∃ (x47 : List Int) (x48 : Int) (ao46 : Option Addr) (cap46 : Nat), attr_pathBytes.l1 k a0 x9 kk x47 x48 = some s45 ∧ Has a Tryd.f67.ntmps [(3, .slice ao46 x47.length cap46), (9, .slice ao1 a0.length cap1), (10, .int .i64 (a0.length : Int)), (11, .int .i64 x9), (26, .slice ao25 ((rd a0 x9).AS).length cap25), (27, .int .i64 (((rd a0 x9).AS).length : Int)), (28, .int .i64 x48)] ∧ (Own (rInt .u8) 5 w45 (blkL ao46 ++ ([g27] ++ (M))) ao46 cap46 x47) ∧ (RSl rS_api_Segment 93 w45 (blkL ao46 ++ ([g27] ++ (M))) ao1 cap1 a0) ∧ (RSl (rInt .i64) 3 w45 (blkL ao46 ++ ([g27] ++ (M))) ao25 cap25 ((rd a0 x9).AS)) ∧ (Box w45 g27 (cS_api_Segment (rd a0 x9) ao25 cap25)) ∧ (∀ x ∈ blkL ao46, w.heap.size ≤ x) ∧ (∀ x ∈ blkL ao46, x ∉ [g27]) ∧ (∀ x ∈ blkL ao46, x ∉ M) ∧ (Chg [] w w45) ∧ (MS (blkL ao46 ++ ([g27] ++ (M))) w45)) k ?_ ?_
    ·skip
     have o1 : Ok [] (blkL ao43 ++ ([g37] ++ ([g27] ++ (M)))) w42.heap.size := Ok.nil _ _
     have o2 : Ok (blkL ao43 ++ ([g27] ++ (M))) (blkL ao43 ++ ([g37] ++ ([g27] ++ (M)))) w42.heap.size := (Ok.app (fun _ h => .inl (ml h)) (fun _ h => .inl (mr (mr (h)))))
     have f1 := f1.chg (Chg.refl [] _) o1 o2
     have f43 := f43.chg (Chg.refl [] _) o1 o2 (fun _ _ h => nomatch h) (fun _ h => ml h)
     have f25 := f25.chg (Chg.refl [] _) o1 o2
     have hBg27 := hBg27.chg (Chg.refl [] _) (fun h => nomatch h)
     have hM : MS (blkL ao43 ++ ([g27] ++ (M))) w42 := (MS.app (fun x h => hM.chg (Chg.refl [] _) x (ml h)) (fun x h => hM.chg (Chg.refl [] _) x (mr (mr (h)))))
     have hC := hC.trans (Chg.refl [] _) (Ok.nil _ _)
     exact ⟨(x8 ++ ([s34, IntKind.u8.wrap (((rd a0 x9).AS).length : Int)] : List Int)), (0 : Int), ao43, cap43, H, (ha.sel (by kernel_rfl)), f43, f1, f25, hBg27, e_i43, p_i43_i29, p_i43_M, hC, hM⟩
    ·rintro kk a w45 ⟨x47, x48, ao46, cap46, H, ha, f46, f1, f25, hBg27, e_i46, p_i46_i29, p_i46_M, hC, hM⟩
     obtain _ | kk := kk
     ·exact nomatch (show none = some _ from H)
     rw [attr_pathBytes.l1] at H
     refine wp_seq_k fun K50 hK50 => ?_
     refine wp_region_lit ?_
     refine seg ha 1 [(3, .slice ao46 x47.length cap46), (9, .slice ao1 a0.length cap1), (10, .int .i64 (a0.length : Int)), (11, .int .i64 x9), (26, .slice ao25 ((rd a0 x9).AS).length cap25), (27, .int .i64 (((rd a0 x9).AS).length : Int)), (28, .int .i64 x48), (29, .bool (decide (x48 < (((rd a0 x9).AS).length : Int))))] (by kernel_rfl) fun a ha => ?_
     refine hK50 _ _ ?_; try clear hK50 K50
     refine wp_seq_k fun K51 hK51 => ?_
     refine cnd ha rfl (fun hc52 => ?_) (fun hc52 => ?_)
     ·have H := ite_t hc52 H
      refine wp_skip ?_
      refine hK51 _ _ ?_; try clear hK51 K51
      refine wp_seq_k fun K53 hK53 => ?_
      refine wp_block ?_
      refine wp_seq_k fun K54 hK54 => ?_
      refine wp_region_lit ?_
      obtain ⟨⟨hx55, hx55'⟩, H⟩ := ite_some H
      refine ix (r := (rInt .i64)) ha (by kernel_rfl) (by kernel_rfl) rfl rfl rfl rfl rfl f25 hx55 hx55' fun a ge56 oe57 cs58 hn61 hR59 hE60 ha => ?_
      rw [rd_get] at hR59
      obtain rfl := hR59
      have hE60 : ∀ j v, ([.int .i64 (rd ((rd a0 x9).AS) x48)] : List Value)[j]? = some v → w45.cell? ⟨ge56, oe57 + j, none⟩ = some v := hE60
      refine ld ha rfl (by kernel_rfl) rfl rfl rfl (hE60 0 (.int .i64 (rd ((rd a0 x9).AS) x48)) (by kernel_rfl)) fun a ha => ?_
      refine seg ha 1 [(3, .slice ao46 x47.length cap46), (8, .int .i64 (rd ((rd a0 x9).AS) x48)), (9, .slice ao1 a0.length cap1), (10, .int .i64 (a0.length : Int)), (11, .int .i64 x9), (26, .slice ao25 ((rd a0 x9).AS).length cap25), (27, .int .i64 (((rd a0 x9).AS).length : Int)), (28, .int .i64 x48)] (by kernel_rfl) fun a ha => ?_
      refine hK54 _ _ ?_; try clear hK54 K54
      refine wp_region_lit ?_
      refine seg ha 2 [(9, .slice ao1 a0.length cap1), (10, .int .i64 (a0.length : Int)), (11, .int .i64 x9), (26, .slice ao25 ((rd a0 x9).AS).length cap25), (27, .int .i64 (((rd a0 x9).AS).length : Int)), (28, .int .i64 x48), (32, .slice ao46 x47.length cap46), (33, .int .i64 (rd ((rd a0 x9).AS) x48))] (by kernel_rfl) fun a ha => ?_
      obtain ⟨t62, H62, H⟩ := bind_some H
      refine cl ha (by rfl) (by kernel_rfl) (by rfl) (by rfl) (by rfl) (attr_num.walk w45 _ hM (rd ((rd a0 x9).AS) x48) k _ H62) ?_
      rintro _ w62 ⟨ao63, cap63, rfl, f63, ne_i63, hc62, hMn⟩ a ha
      have o1 : Ok [] (blkL ao46 ++ ([g27] ++ (M))) w45.heap.size := Ok.nil _ _
      have o2 : Ok (blkL ao63 ++ (blkL ao46 ++ ([g27] ++ (M)))) (blkL ao46 ++ ([g27] ++ (M))) w45.heap.size := (Ok.app (fun x h => .inr (ne_i63 x h)) (Ok.refl _ _))
      have f1 := f1.chg hc62 o1 o2
      have f25 := f25.chg hc62 o1 o2
      have f46 := f46.chg hc62 o1 o2 (fun _ _ h => nomatch h) (fun _ h => mr (ml h))
      have hBg27 := hBg27.chg hc62 (fun h => nomatch h)
      have p_i63_i46 : ∀ x ∈ blkL ao63, x ∉ (blkL ao46) := fun x hx hy => absurd (hM x (ml hy)) (Nat.not_lt.2 (ne_i63 x hx))
      have p_i63_i29 : ∀ x ∈ blkL ao63, x ∉ ([g27]) := fun x hx hy => absurd (hM x (mr (ml hy))) (Nat.not_lt.2 (ne_i63 x hx))
      have p_i63_M : ∀ x ∈ blkL ao63, x ∉ M := fun x hx hy => absurd (hM x (mr (mr (hy)))) (Nat.not_lt.2 (ne_i63 x hx))
      have e_i63 : ∀ x ∈ blkL ao63, w.heap.size ≤ x := fun x hx => Nat.le_trans hC.size (ne_i63 x hx)
      have hM : MS (blkL ao63 ++ (blkL ao46 ++ ([g27] ++ (M)))) w62 := (MS.app (fun x h => hMn x (ml h)) (hM.chg hc62))
      have hC := hC.trans hc62 (Ok.nil _ _)
      obtain ⟨hx64, H⟩ := ite_some H
      refine app (r := (rInt .u8)) (xs := x47) (ys := t62) ha (ElemT.mk' (bytes := 1) (by kernel_rfl)) rfl rfl rfl rfl rfl f46 f63.src hx64 (by decide) fun a w65 ao66 cap66 hO66 hc66 hk66 hl66 ha => ?_
      have o1 : Ok (blkL ao46) (blkL ao63 ++ (blkL ao46 ++ ([g27] ++ (M)))) w62.heap.size := (fun _ h => .inl (mr (ml h)))
      have o2 : Ok (blkL ao66 ++ (blkL ao63 ++ ([g27] ++ (M)))) (blkL ao63 ++ (blkL ao46 ++ ([g27] ++ (M)))) w62.heap.size := (Ok.app (Ok.to hk66 (fun _ h => mr (ml h))) (Ok.app (fun _ h => .inl (ml h)) (fun _ h => .inl (mr (mr (h))))))
      have f1 := f1.chg hc66 o1 o2
      have f25 := f25.chg hc66 o1 o2
      have f63 := f63.chg hc66 o1 o2 p_i63_i46 (fun _ h => mr (ml h))
      have hBg27 := hBg27.chg hc66 ((fun x (hx : x ∈ [g27]) (hy : x ∈ blkL ao46) => p_i46_i29 x hy hx) g27 (by simp))
      have p_i66_i63 : ∀ x ∈ blkL ao66, x ∉ (blkL ao63) := fun x hx hy => (hk66 x hx).elim (fun h => (fun x hx hy => p_i63_i46 x hy hx) x h hy) (fun h => absurd (hM x (ml hy)) (Nat.not_lt.2 h))
      have p_i66_i29 : ∀ x ∈ blkL ao66, x ∉ ([g27]) := fun x hx hy => (hk66 x hx).elim (fun h => p_i46_i29 x h hy) (fun h => absurd (hM x (mr (mr (ml hy)))) (Nat.not_lt.2 h))
      have p_i66_M : ∀ x ∈ blkL ao66, x ∉ M := fun x hx hy => (hk66 x hx).elim (fun h => p_i46_M x h hy) (fun h => absurd (hM x (mr (mr (mr (hy))))) (Nat.not_lt.2 h))
      have e_i66 : ∀ x ∈ blkL ao66, w.heap.size ≤ x := fun x hx => (hk66 x hx).elim (e_i46 x) (Nat.le_trans hC.size)
      have hM : MS (blkL ao66 ++ (blkL ao63 ++ ([g27] ++ (M)))) w65 := (MS.app hl66 (MS.app (fun x h => hM.chg hc66 x (ml h)) (fun x h => hM.chg hc66 x (mr (mr (h))))))
      have hC := hC.trans hc66 (fun x h => .inr (e_i46 x h))
      have f66 := hO66.chg (M' := blkL ao66 ++ (blkL ao63 ++ ([g27] ++ (M)))) (Chg.refl [] _) (Ok.nil _ _) (Ok.app (fun _ h => .inl (ml h)) (Ok.to (Ok.app (fun _ h => .inl (ml h)) (fun _ h => .inl (mr (mr (h))))) (fun _ h => mr h))) (fun _ _ h => nomatch h) (fun _ h => ml h)
      refine seg ha 1 [(3, .slice ao66 (x47 ++ t62).length cap66), (9, .slice ao1 a0.length cap1), (10, .int .i64 (a0.length : Int)), (11, .int .i64 x9), (26, .slice ao25 ((rd a0 x9).AS).length cap25), (27, .int .i64 (((rd a0 x9).AS).length : Int)), (28, .int .i64 x48)] (by kernel_rfl) fun a ha => ?_
      refine hK53 _ _ ?_; try clear hK53 K53
      refine wp_region_lit ?_
      refine seg ha 2 [(3, .slice ao66 (x47 ++ t62).length cap66), (9, .slice ao1 a0.length cap1), (10, .int .i64 (a0.length : Int)), (11, .int .i64 x9), (26, .slice ao25 ((rd a0 x9).AS).length cap25), (27, .int .i64 (((rd a0 x9).AS).length : Int)), (28, .int .i64 (IntKind.i64.wrap (x48 + (1 : Int))))] (by kernel_rfl) fun a ha => ?_
      have o1 : Ok [] (blkL ao66 ++ (blkL ao63 ++ ([g27] ++ (M)))) w65.heap.size := Ok.nil _ _
      have o2 : Ok (blkL ao66 ++ ([g27] ++ (M))) (blkL ao66 ++ (blkL ao63 ++ ([g27] ++ (M)))) w65.heap.size := (Ok.app (fun _ h => .inl (ml h)) (fun _ h => .inl (mr (mr (h)))))
      have f1 := f1.chg (Chg.refl [] _) o1 o2
      have f25 := f25.chg (Chg.refl [] _) o1 o2
      have f66 := f66.chg (Chg.refl [] _) o1 o2 (fun _ _ h => nomatch h) (fun _ h => ml h)
      have hBg27 := hBg27.chg (Chg.refl [] _) (fun h => nomatch h)
      have hM : MS (blkL ao66 ++ ([g27] ++ (M))) w65 := (MS.app (fun x h => hM.chg (Chg.refl [] _) x (ml h)) (fun x h => hM.chg (Chg.refl [] _) x (mr (mr (h)))))
      have hC := hC.trans (Chg.refl [] _) (Ok.nil _ _)
      exact ⟨kk, Nat.lt_succ_self _, ⟨(x47 ++ t62), IntKind.i64.wrap (x48 + (1 : Int)), ao66, cap66, H, (ha.sel (by kernel_rfl)), f66, f1, f25, hBg27, e_i66, p_i66_i29, p_i66_M, hC, hM⟩⟩
     ·have H := ite_f hc52 H
      refine wp_exit ?_
      simp only [Exit.then, Exit.inBlock, ↓reduceIte, Nat.reduceEqDiff]
      obtain rfl := Option.some.inj H
      exact J45 _ _ ao46 cap46 (ha.sel (by kernel_rfl)) f46 f1 f25 hBg27 e_i46 p_i46_i29 p_i46_M hC hM
   have H := H34
   refine wp_seq_k fun K67 hK67 => ?_
   refine wp_region_lit ?_
   refine seg ha 1 [(3, .slice ao7 x8.length cap7), (5, .pointer (some ⟨g27, 0, none⟩)), (6, .int .u8 (2 : Int)), (9, .slice ao1 a0.length cap1), (10, .int .i64 (a0.length : Int)), (11, .int .i64 x9), (15, .pointer (some ⟨g27, 0, none⟩))] (by kernel_rfl) fun a ha => ?_
   refine ld (v := .bool ((rd a0 x9).Set)) ha rfl (by kernel_rfl) rfl rfl rfl (hBg27.cell' (o := 0) rfl (by kernel_rfl)) fun a ha => ?_
   refine hK67 _ _ ?_; try clear hK67 K67
   refine cnd ha rfl (fun hc68 => ?_) (fun hc68 => ?_)
   ·have H := ite_t hc68 H
    refine wp_region_lit ?_
    refine seg ha 1 [(3, .slice ao7 x8.length cap7), (5, .pointer (some ⟨g27, 0, none⟩)), (6, .int .u8 (1 : Int)), (9, .slice ao1 a0.length cap1), (10, .int .i64 (a0.length : Int)), (11, .int .i64 x9)] (by kernel_rfl) fun a ha => ?_
    obtain rfl := Option.some.inj H
    exact J34 _ _ (ha.sel (by kernel_rfl)) f7 f1 f25 hBg27 hC hM
   ·have H := ite_f hc68 H
    refine wp_skip ?_
    obtain rfl := Option.some.inj H
    exact J34 _ _ (ha.sel (by kernel_rfl)) f7 f1 f25 hBg27 hC hM
  ·have H := ite_f hc15 H
   refine wp_exit ?_
   simp only [Exit.then, Exit.inBlock, ↓reduceIte, Nat.reduceEqDiff]
   obtain rfl := Option.some.inj H
   exact J6 _ _ ao7 cap7 (ha.sel (by kernel_rfl)) f7 e_i7 p_i7_M hC hM
def community_Bytes.l0 (a0 : List (List Int)) : Nat → (List Int) → Int → Option (List Int)
  | 0, _, _ => none
  | kk + 1, x8, x9 => (if (decide (x9 < (a0.length : Int))) = true then (if 0 ≤ x9 ∧ x9 < (a0.length : Int) then (if (x8.length + (arL 8 (rd a0 x9)).length) * 1 ≤ 140737488355328 then community_Bytes.l0 a0 kk (x8 ++ (arL 8 (rd a0 x9))) (IntKind.i64.wrap (x9 + (1 : Int))) else none) else none) else some (x8 : List Int))
def community_Bytes.f (k : Nat) (a0 : List (List Int)) : Option (List Int) := (community_Bytes.l0 a0 k ([] : List Int) (0 : Int)).bind fun s6 => some ((s6 : List Int))
set_option maxRecDepth 100000 in
theorem community_Bytes.walk (w : World) (M : List Nat) (hM : MS M w) (a0 : List (List Int)) (ao1 : Option Addr) (cap1 : Nat) (f1 : RSl (rArr .u8 8) 114 w M ao1 cap1 a0) (k : Nat) (r : List Int) (H : community_Bytes.f k a0 = some r) :
    To Tryd.prog 69 [.slice ao1 a0.length cap1] w fun v w' => ∃ (ao35 : Option Addr) (cap35 : Nat), v = .slice ao35 r.length cap35 ∧ (Own (rInt .u8) 5 w' (blkL ao35 ++ (M)) ao35 cap35 r) ∧ (∀ x ∈ blkL ao35, w.heap.size ≤ x) ∧ Chg [] w w' ∧ MS (blkL ao35 ++ (M)) w' := by
 unfold community_Bytes.f at H
 refine ent Tryd.func69 rfl [(0, .slice ao1 a0.length cap1)] rfl (by rfl) fun a ha => ?_
 have hC : Chg [] w w := Chg.refl _ _
 refine wp_seq_k fun K2 hK2 => ?_
 refine wp_region_lit ?_
 refine seg ha 1 [(0, .slice ao1 a0.length cap1)] (by kernel_rfl) fun a ha => ?_
 refine hK2 _ _ ?_; try clear hK2 K2
 refine wp_seq_k fun K3 hK3 => ?_
 refine wp_region_lit ?_
 refine seg ha 1 [(0, .slice ao1 a0.length cap1), (3, .slice none 0 0)] (by kernel_rfl) fun a ha => ?_
 refine hK3 _ _ ?_; try clear hK3 K3
 refine wp_seq_k fun K4 hK4 => ?_
 refine wp_seq_k fun K5 hK5 => ?_
 refine wp_region_lit ?_
 refine seg ha 3 [(3, .slice none 0 0), (6, .slice ao1 a0.length cap1), (7, .int .i64 (a0.length : Int)), (8, .int .i64 (0 : Int))] (by kernel_rfl) fun a ha => ?_
 refine hK5 _ _ ?_; try clear hK5 K5
 refine wp_block ?_
 obtain ⟨s6, H6, H⟩ := bind_some H
 have J6 : ∀ (a : Act) (wx6 : World) (ao10 : Option Addr) (cap10 : Nat), Has a Tryd.f69.ntmps [(3, .slice ao10 s6.length cap10)] → (Own (rInt .u8) 5 wx6 (blkL ao10 ++ (M)) ao10 cap10 s6) → (∀ x ∈ blkL ao10, w.heap.size ≤ x) → (∀ x ∈ blkL ao10, x ∉ M) → (Chg [] w wx6) → (MS (blkL ao10 ++ (M)) wx6) → K4 a wx6 := by
  intro a wx6 ao10 cap10 ha f10 e_i10 p_i10_M hC hM
  refine hK4 _ _ ?_; try clear hK4 K4
  refine wp_seq_k fun K11 hK11 => ?_
  refine wp_region_lit ?_
  refine seg ha 2 [(2, .slice ao10 s6.length cap10)] (by kernel_rfl) fun a ha => ?_
  refine hK11 _ _ ?_; try clear hK11 K11
  refine wp_ret ?_
  try simp only [Exit.then, Exit.inBlock]
  obtain rfl := Option.some.inj H
  refine rt1 ha rfl rfl ?_
  exact ⟨ao10, cap10, rfl, f10, e_i10, hC, hM⟩
 have Hc6 := H
 have H := H6
 refine wp_loop_ghost (fun kk a w6 => ∃ (x8 : List Int) (x9 : Int) (ao7 : Option Addr) (cap7 : Nat), community_Bytes.l0 a0 kk x8 x9 = some s6 ∧ Has a Tryd.f69.ntmps [(3, .slice ao7 x8.length cap7), (6, .slice ao1 a0.length cap1), (7, .int .i64 (a0.length : Int)), (8, .int .i64 x9)] ∧ (Own (rInt .u8) 5 w6 (blkL ao7 ++ (M)) ao7 cap7 x8) ∧ (RSl (rArr .u8 8) 114 w6 (blkL ao7 ++ (M)) ao1 cap1 a0) ∧ (∀ x ∈ blkL ao7, w.heap.size ≤ x) ∧ (∀ x ∈ blkL ao7, x ∉ M) ∧ (Chg [] w w6) ∧ (MS (blkL ao7 ++ (M)) w6)) k ?_ ?_
 ·skip
  have o1 : Ok [] (M) w.heap.size := Ok.nil _ _
  have o2 : Ok (blkL none ++ (M)) (M) w.heap.size := (Ok.app (fun _ h => nomatch h) (Ok.refl _ _))
  have f1 := f1.chg (Chg.refl [] _) o1 o2
  have p_z12_M : ∀ x ∈ blkL none, x ∉ M := fun x hx hy => absurd (hM x (hy)) (Nat.not_lt.2 ((fun _ h => nomatch h) x hx))
  have e_z12 : ∀ x ∈ blkL none, w.heap.size ≤ x := fun x hx => Nat.le_trans hC.size ((fun _ h => nomatch h) x hx)
  have hM : MS (blkL none ++ (M)) w := (MS.app (fun _ h => nomatch h) (hM.chg (Chg.refl [] _)))
  have hC := hC.trans (Chg.refl [] _) (Ok.nil _ _)
  exact ⟨([] : List Int), (0 : Int), none, 0, H, (ha.sel (by kernel_rfl)), Own.nil, f1, e_z12, p_z12_M, hC, hM⟩
 ·rintro kk a w6 ⟨x8, x9, ao7, cap7, H, ha, f7, f1, e_i7, p_i7_M, hC, hM⟩
  obtain _ | kk := kk
  ·exact nomatch (show none = some _ from H)
  rw [community_Bytes.l0] at H
  refine wp_seq_k fun K13 hK13 => ?_
  refine wp_region_lit ?_
  refine seg ha 1 [(3, .slice ao7 x8.length cap7), (6, .slice ao1 a0.length cap1), (7, .int .i64 (a0.length : Int)), (8, .int .i64 x9), (9, .bool (decide (x9 < (a0.length : Int))))] (by kernel_rfl) fun a ha => ?_
  refine hK13 _ _ ?_; try clear hK13 K13
  refine wp_seq_k fun K14 hK14 => ?_
  refine cnd ha rfl (fun hc15 => ?_) (fun hc15 => ?_)
  ·have H := ite_t hc15 H
   refine wp_skip ?_
   refine hK14 _ _ ?_; try clear hK14 K14
   refine wp_seq_k fun K16 hK16 => ?_
   refine wp_block ?_
   refine wp_seq_k fun K17 hK17 => ?_
   refine wp_region_lit ?_
   obtain ⟨⟨hx18, hx18'⟩, H⟩ := ite_some H
   refine ix (r := (rArr .u8 8)) ha (by kernel_rfl) (by kernel_rfl) rfl rfl rfl rfl rfl f1 hx18 hx18' fun a ge19 oe20 cs21 hn24 hR22 hE23 ha => ?_
   rw [rd_get] at hR22
   obtain rfl := hR22
   have hE23 : ∀ j v, (cA .u8 8 (rd a0 x9))[j]? = some v → w6.cell? ⟨ge19, oe20 + j, none⟩ = some v := hE23
   refine ldA (cs := (cA .u8 8 (rd a0 x9))) ha rfl (by kernel_rfl) rfl rfl rfl (cells_sub hE23 (all := (cA .u8 8 (rd a0 x9))) [] [] (by kernel_rfl)) fun a ha => ?_
   refine al (cs := (cA .u8 8 (List.replicate 8 (0 : Int)))) (z := .agg (cA .u8 8 (List.replicate 8 (0 : Int))).toArray) ha (fun w => by kernel_rfl) rfl rfl rfl rfl fun a w25 g26 hN27 ha => ?_
   have o1 : Ok [] (blkL ao7 ++ (M)) w6.heap.size := Ok.nil _ _
   have o2 : Ok ([g26] ++ (blkL ao7 ++ (M))) (blkL ao7 ++ (M)) w6.heap.size := (Ok.app (hN27.ok _) (Ok.refl _ _))
   have f7 := f7.chg hN27.chg o1 o2 (fun _ _ h => nomatch h) (fun _ h => mr (ml h))
   have f1 := f1.chg hN27.chg o1 o2
   have p_i28_i7 : ∀ x ∈ [g26], x ∉ (blkL ao7) := fun x hx hy => absurd (hM x (ml hy)) (Nat.not_lt.2 ((hN27.ge1) x hx))
   have p_i28_M : ∀ x ∈ [g26], x ∉ M := fun x hx hy => absurd (hM x (mr (hy))) (Nat.not_lt.2 ((hN27.ge1) x hx))
   have e_i28 : ∀ x ∈ [g26], w.heap.size ≤ x := fun x hx => Nat.le_trans hC.size ((hN27.ge1) x hx)
   have hM : MS ([g26] ++ (blkL ao7 ++ (M))) w25 := (MS.app hN27.ms (hM.chg hN27.chg))
   have hC := hC.trans hN27.chg (Ok.nil _ _)
   have hBg26 : Box w25 g26 (cA .u8 8 (List.replicate 8 (0 : Int))) := hN27.box
   refine stA (l := (cA .u8 8 (rd a0 x9))) ha rfl rfl rfl (by kernel_rfl) rfl rfl hBg26 rfl fun a w29 ha hb2 hc30 _ => ?_
   have o1 : Ok [g26] ([g26] ++ (blkL ao7 ++ (M))) w25.heap.size := (fun _ h => .inl (ml h))
   have o2 : Ok ([g26] ++ (blkL ao7 ++ (M))) ([g26] ++ (blkL ao7 ++ (M))) w25.heap.size := (Ok.refl _ _)
   have f7 := f7.chg hc30 o1 o2 (fun x (hx : x ∈ blkL ao7) (hy : x ∈ [g26]) => p_i28_i7 x hy hx) (fun _ h => mr (ml h))
   have f1 := f1.chg hc30 o1 o2
   have hM : MS ([g26] ++ (blkL ao7 ++ (M))) w29 := (hM.chg hc30)
   have hC := hC.trans hc30 (fun x h => .inr (e_i28 x h))
   have hBg26 : Box w29 g26 (cA .u8 8 (rd a0 x9)) := hb2
   refine hK17 _ _ ?_; try clear hK17 K17
   refine wp_region_lit ?_
   refine seg ha 1 [(5, .pointer (some ⟨g26, 0, none⟩)), (6, .slice ao1 a0.length cap1), (7, .int .i64 (a0.length : Int)), (8, .int .i64 x9), (12, .slice ao7 x8.length cap7)] (by kernel_rfl) fun a ha => ?_
   refine opk (v := .slice (some ⟨g26, 0, none⟩) 8 8) ha rfl rfl rfl rfl rfl (fun w => by kernel_rfl) fun a ha => ?_
   have fw31 : RSl (rInt .u8) 5 w29 (butL g26 w29) (some ⟨g26, 0, none⟩) 8 (arL 8 (rd a0 x9)) := RSl.ofA ([] : List Value) ([] : List Value) (Box.cells hBg26) butL_self (by kernel_rfl) rfl
   obtain ⟨hx32, H⟩ := ite_some H
   refine app (r := (rInt .u8)) (xs := x8) (ys := (arL 8 (rd a0 x9))) ha (ElemT.mk' (bytes := 1) (by kernel_rfl)) rfl rfl rfl rfl rfl f7 fw31.src hx32 (by decide) fun a w33 ao34 cap34 hO34 hc34 hk34 hl34 ha => ?_
   have o1 : Ok (blkL ao7) ([g26] ++ (blkL ao7 ++ (M))) w29.heap.size := (fun _ h => .inl (mr (ml h)))
   have o2 : Ok (blkL ao34 ++ ([g26] ++ (M))) ([g26] ++ (blkL ao7 ++ (M))) w29.heap.size := (Ok.app (Ok.to hk34 (fun _ h => mr (ml h))) (Ok.app (fun _ h => .inl (ml h)) (fun _ h => .inl (mr (mr (h))))))
   have f1 := f1.chg hc34 o1 o2
   have fw31 := fw31.chg (M' := butL g26 w33) hc34 (butL_ok (fun x hx0 e0 => p_i28_i7 x (by rw [e0]; exact List.mem_singleton.2 rfl) hx0)) butL_chg
   have hBg26 := hBg26.chg hc34 (p_i28_i7 g26 (by simp))
   have p_i34_i28 : ∀ x ∈ blkL ao34, x ∉ ([g26]) := fun x hx hy => (hk34 x hx).elim (fun h => (fun x hx hy => p_i28_i7 x hy hx) x h hy) (fun h => absurd (hM x (ml hy)) (Nat.not_lt.2 h))
   have p_i34_M : ∀ x ∈ blkL ao34, x ∉ M := fun x hx hy => (hk34 x hx).elim (fun h => p_i7_M x h hy) (fun h => absurd (hM x (mr (mr (hy)))) (Nat.not_lt.2 h))
   have e_i34 : ∀ x ∈ blkL ao34, w.heap.size ≤ x := fun x hx => (hk34 x hx).elim (e_i7 x) (Nat.le_trans hC.size)
   have hM : MS (blkL ao34 ++ ([g26] ++ (M))) w33 := (MS.app hl34 (MS.app (fun x h => hM.chg hc34 x (ml h)) (fun x h => hM.chg hc34 x (mr (mr (h))))))
   have hC := hC.trans hc34 (fun x h => .inr (e_i7 x h))
   have f34 := hO34.chg (M' := blkL ao34 ++ ([g26] ++ (M))) (Chg.refl [] _) (Ok.nil _ _) (Ok.app (fun _ h => .inl (ml h)) (Ok.to (Ok.app (fun _ h => .inl (ml h)) (fun _ h => .inl (mr (mr (h))))) (fun _ h => mr h))) (fun _ _ h => nomatch h) (fun _ h => ml h)
   refine seg ha 1 [(3, .slice ao34 (x8 ++ (arL 8 (rd a0 x9))).length cap34), (6, .slice ao1 a0.length cap1), (7, .int .i64 (a0.length : Int)), (8, .int .i64 x9)] (by kernel_rfl) fun a ha => ?_
   refine hK16 _ _ ?_; try clear hK16 K16
   refine wp_region_lit ?_
   refine seg ha 2 [(3, .slice ao34 (x8 ++ (arL 8 (rd a0 x9))).length cap34), (6, .slice ao1 a0.length cap1), (7, .int .i64 (a0.length : Int)), (8, .int .i64 (IntKind.i64.wrap (x9 + (1 : Int))))] (by kernel_rfl) fun a ha => ?_
   have o1 : Ok [] (blkL ao34 ++ ([g26] ++ (M))) w33.heap.size := Ok.nil _ _
   have o2 : Ok (blkL ao34 ++ (M)) (blkL ao34 ++ ([g26] ++ (M))) w33.heap.size := (Ok.app (fun _ h => .inl (ml h)) (fun _ h => .inl (mr (mr (h)))))
   have f1 := f1.chg (Chg.refl [] _) o1 o2
   have f34 := f34.chg (Chg.refl [] _) o1 o2 (fun _ _ h => nomatch h) (fun _ h => ml h)
   have hBg26 := hBg26.chg (Chg.refl [] _) (fun h => nomatch h)
   have hM : MS (blkL ao34 ++ (M)) w33 := (MS.app (fun x h => hM.chg (Chg.refl [] _) x (ml h)) (fun x h => hM.chg (Chg.refl [] _) x (mr (mr (h)))))
   have hC := hC.trans (Chg.refl [] _) (Ok.nil _ _)
   exact ⟨kk, Nat.lt_succ_self _, ⟨(x8 ++ (arL 8 (rd a0 x9))), IntKind.i64.wrap (x9 + (1 : Int)), ao34, cap34, H, (ha.sel (by kernel_rfl)), f34, f1, e_i34, p_i34_M, hC, hM⟩⟩
  ·have H := ite_f hc15 H
   refine wp_exit ?_
   simp only [Exit.then, Exit.inBlock, ↓reduceIte, Nat.reduceEqDiff]
   obtain rfl := Option.some.inj H
   exact J6 _ _ ao7 cap7 (ha.sel (by kernel_rfl)) f7 e_i7 p_i7_M hC hM
def addr_Bytes.f (k : Nat) (a0 : S_api_Addr) : Option (List Int) := (addr_Right.f k a0).bind fun t9 => (if (!t9) = true then some ((([] : List Int) : List Int)) else (if 0 ≤ (0 : Int) ∧ (0 : Int) ≤ a0.Size ∧ a0.Size ≤ (16 : Int) then (bytes_Clone.f (((arL 16 a0.B).take (Int.toNat a0.Size)).drop (Int.toNat (0 : Int)))).bind fun t16 => some ((t16 : List Int)) else none))
set_option maxRecDepth 100000 in
theorem addr_Bytes.walk (w : World) (M : List Nat) (hM : MS M w) (a0 : S_api_Addr) (k : Nat) (r : List Int) (H : addr_Bytes.f k a0 = some r) :
    To Tryd.prog 66 [.agg (cS_api_Addr a0).toArray] w fun v w' => ∃ (ao18 : Option Addr) (cap18 : Nat), v = .slice ao18 r.length cap18 ∧ (Own (rInt .u8) 5 w' (blkL ao18 ++ (M)) ao18 cap18 r) ∧ (∀ x ∈ blkL ao18, w.heap.size ≤ x) ∧ Chg [] w w' ∧ MS (blkL ao18 ++ (M)) w' := by
 unfold addr_Bytes.f at H
 refine ent Tryd.func66 rfl [(0, .agg (cS_api_Addr a0).toArray)] rfl (by rfl) fun a ha => ?_
 have hC : Chg [] w w := Chg.refl _ _
 refine wp_seq_k fun K1 hK1 => ?_
 refine wp_region_lit ?_
 refine bx (cs := (cS_api_Addr a0)) ha rfl rfl rfl rfl rfl fun a w2 g3 hN4 ha => ?_
 have hn6 := hN4.notin hM
 have hM : MS (M) w2 := (hM.chg hN4.chg)
 have hC := hC.trans hN4.chg (Ok.nil _ _)
 have hE5 : ∀ j v, (cS_api_Addr a0)[j]? = some v → w2.cell? ⟨g3, 0 + j, none⟩ = some v := Box.cells (New.box hN4)
 refine seg ha 1 [(1, .pointer (some ⟨g3, 0, none⟩))] (by kernel_rfl) fun a ha => ?_
 refine hK1 _ _ ?_; try clear hK1 K1
 refine wp_seq_k fun K7 hK7 => ?_
 refine wp_seq_k fun K8 hK8 => ?_
 refine wp_region_lit ?_
 refine ldA (cs := (cS_api_Addr a0)) ha rfl (by kernel_rfl) rfl rfl rfl (cells_sub hE5 (all := (cS_api_Addr a0)) [] [] (by kernel_rfl)) fun a ha => ?_
 obtain ⟨t9, H9, H⟩ := bind_some H
 refine cl ha (by rfl) (by kernel_rfl) (by rfl) (by rfl) (by rfl) (addr_Right.walk w2 _ hM a0 k _ H9) ?_
 rintro _ w9 ⟨rfl, hc9, hMn⟩ a ha
 have o1 : Ok [] (M) w2.heap.size := Ok.nil _ _
 have o2 : Ok (M) (M) w2.heap.size := (Ok.refl _ _)
 have q_hn6 : g3 ∉ M := fun h => (o2 g3 h).elim hn6 (fun h => absurd (lt_cell (hE5 0 _ rfl)) (Nat.not_lt.2 h))
 have hE5 : ∀ j v, (cS_api_Addr a0)[j]? = some v → w9.cell? ⟨g3, 0 + j, none⟩ = some v := fun j v hv => (cell_keep hc9 o1 hn6 (hE5 j v hv))
 have hn6 := q_hn6
 have hM : MS (M) w9 := (hM.chg hc9)
 have hC := hC.trans hc9 (Ok.nil _ _)
 refine seg ha 1 [(1, .pointer (some ⟨g3, 0, none⟩)), (5, .bool (!t9))] (by kernel_rfl) fun a ha => ?_
 refine hK8 _ _ ?_; try clear hK8 K8
 refine cnd ha rfl (fun hc10 => ?_) (fun hc10 => ?_)
 ·have H := ite_t hc10 H
  refine wp_seq_k fun K11 hK11 => ?_
  refine wp_region_lit ?_
  refine seg ha 1 [(2, .slice none 0 0)] (by kernel_rfl) fun a ha => ?_
  refine hK11 _ _ ?_; try clear hK11 K11
  refine wp_ret ?_
  try simp only [Exit.then, Exit.inBlock]
  have p_z12_M : ∀ x ∈ blkL none, x ∉ M := fun x hx hy => absurd (hM x (hy)) (Nat.not_lt.2 ((fun _ h => nomatch h) x hx))
  have e_z12 : ∀ x ∈ blkL none, w.heap.size ≤ x := fun x hx => Nat.le_trans hC.size ((fun _ h => nomatch h) x hx)
  have hM : MS (blkL none ++ (M)) w9 := (MS.app (fun _ h => nomatch h) (hM.chg (Chg.refl [] _)))
  have hC := hC.trans (Chg.refl [] _) (Ok.nil _ _)
  obtain rfl := Option.some.inj H
  refine rt1 ha rfl rfl ?_
  exact ⟨none, 0, rfl, Own.nil, e_z12, hC, hM⟩
 ·have H := ite_f hc10 H
  refine wp_skip ?_
  refine hK7 _ _ ?_; try clear hK7 K7
  refine wp_seq_k fun K13 hK13 => ?_
  refine wp_region_lit ?_
  refine seg ha 2 [(6, .pointer (some ⟨g3, 0 + 1, none⟩)), (7, .pointer (some ⟨g3, 0, none⟩))] (by kernel_rfl) fun a ha => ?_
  refine ld ha rfl (by kernel_rfl) rfl rfl rfl (hE5 0 (.int .i64 a0.Size) (by kernel_rfl)) fun a ha => ?_
  have f14 : RSl (rInt .u8) 5 w9 (M) (some ⟨g3, 0 + 1, none⟩) 16 (arL 16 a0.B) := RSl.ofA [.int .i64 a0.Size] [] hE5 hn6 (by kernel_rfl) rfl
  obtain ⟨⟨hx15, hx15', hx15''⟩, H⟩ := ite_some H
  obtain ⟨ao15, cap15, f15, hr15⟩ := slA_run (kk := .u8) (T := 5) (N := 16) (g := g3) (o' := 0 + 1) (xs := (arL 16 a0.B)) (t := 22) (lo := Option.none) (hi := (Option.some (Operand.tmp 8))) (l := (0 : Int)) (h := a0.Size) (dd := some 9) (ty := 25) (pos := "addr.go:45") (af := #[{ on := 0, ground := Ground.data }, { on := 2, ground := Ground.data }]) (gd := Option.none) ha (by kernel_rfl) (by kernel_rfl) (x := (Operand.tmp 6)) rfl (arL_length _ _) rfl rfl f14 hx15 hx15' (by rw [arL_length]; exact hx15'')
  refine hop (v := .slice ao15 (((arL 16 a0.B).take (Int.toNat a0.Size)).drop (Int.toNat (0 : Int))).length cap15) (w' := w9) ha rfl rfl rfl (hr15 _) fun a ha => ?_
  obtain ⟨t16, H16, H⟩ := bind_some H
  refine cl ha (by rfl) (by kernel_rfl) (by rfl) (by rfl) (by rfl) (bytes_Clone.walk w9 _ hM (((arL 16 a0.B).take (Int.toNat a0.Size)).drop (Int.toNat (0 : Int))) ao15 cap15 f15 _ H16) ?_
  rintro _ w16 ⟨ao17, cap17, rfl, f17, ne_i17, hc16, hMn⟩ a ha
  have o1 : Ok [] (M) w9.heap.size := Ok.nil _ _
  have o2 : Ok (blkL ao17 ++ (M)) (M) w9.heap.size := (Ok.app (fun x h => .inr (ne_i17 x h)) (Ok.refl _ _))
  have f15 := f15.chg hc16 o1 o2
  have p_i17_M : ∀ x ∈ blkL ao17, x ∉ M := fun x hx hy => absurd (hM x (hy)) (Nat.not_lt.2 (ne_i17 x hx))
  have e_i17 : ∀ x ∈ blkL ao17, w.heap.size ≤ x := fun x hx => Nat.le_trans hC.size (ne_i17 x hx)
  have hM : MS (blkL ao17 ++ (M)) w16 := (MS.app (fun x h => hMn x (ml h)) (hM.chg hc16))
  have hC := hC.trans hc16 (Ok.nil _ _)
  refine seg ha 1 [(2, .slice ao17 t16.length cap17)] (by kernel_rfl) fun a ha => ?_
  refine hK13 _ _ ?_; try clear hK13 K13
  refine wp_ret ?_
  try simp only [Exit.then, Exit.inBlock]
  obtain rfl := Option.some.inj H
  refine rt1 ha rfl rfl ?_
  exact ⟨ao17, cap17, rfl, f17, e_i17, hC, hM⟩
def label_Bytes.f (k : Nat) (a0 : Int) (a1 : Bool) : Option (List Int × Int) := (if (if (decide (a0 < (0 : Int))) = true then true else (decide (a0 > (1048575 : Int)))) = true then some ((([] : List Int) : List Int), ((5 : Int) : Int)) else ((if a1 = true then some (IntKind.i64.wrap (BitVec.ofInt IntKind.i64.bits (IntKind.i64.wrap (a0 * 2 ^ (min (4 : Int).toNat IntKind.i64.bits))) ||| BitVec.ofInt IntKind.i64.bits (1 : Int)).toNat : Int) else some (IntKind.i64.wrap (a0 * 2 ^ (min (4 : Int).toNat IntKind.i64.bits)) : Int))).bind fun s9 => (cursor_Put.f k ([] : List Int) s9 (3 : Int)).bind fun t11 => some ((t11.1 : List Int), (t11.2 : Int)))
set_option maxRecDepth 100000 in
theorem label_Bytes.walk (w : World) (M : List Nat) (hM : MS M w) (a0 : Int) (a1 : Bool) (k : Nat) (r : List Int × Int) (H : label_Bytes.f k a0 a1 = some r) :
    To Tryd.prog 39 [.int .i64 a0, .bool a1] w fun v w' => ∃ (ao15 : Option Addr) (cap15 : Nat), v = .tuple #[.slice ao15 r.1.length cap15, .int .i64 r.2] ∧ (Own (rInt .u8) 5 w' (blkL ao15 ++ (M)) ao15 cap15 r.1) ∧ (∀ x ∈ blkL ao15, w.heap.size ≤ x) ∧ Chg [] w w' ∧ MS (blkL ao15 ++ (M)) w' := by
 unfold label_Bytes.f at H
 refine ent Tryd.func39 rfl [(0, .int .i64 a0), (1, .bool a1)] rfl (by rfl) fun a ha => ?_
 have hC : Chg [] w w := Chg.refl _ _
 refine wp_seq_k fun K1 hK1 => ?_
 refine wp_region_lit ?_
 refine seg ha 2 [(0, .int .i64 a0), (1, .bool a1)] (by kernel_rfl) fun a ha => ?_
 refine hK1 _ _ ?_; try clear hK1 K1
 refine wp_seq_k fun K2 hK2 => ?_
 refine wp_seq_k fun K3 hK3 => ?_
 refine wp_region_lit ?_
 refine seg ha 6 [(0, .int .i64 a0), (1, .bool a1), (12, .bool (if (decide (a0 < (0 : Int))) = true then true else (decide (a0 > (1048575 : Int)))))] (by kernel_rfl) fun a ha => ?_
 refine hK3 _ _ ?_; try clear hK3 K3
 refine cnd ha rfl (fun hc4 => ?_) (fun hc4 => ?_)
 ·have H := ite_t hc4 H
  refine wp_seq_k fun K5 hK5 => ?_
  refine wp_region_lit ?_
  refine seg ha 2 [(4, .slice none 0 0), (5, .int .i64 (5 : Int))] (by kernel_rfl) fun a ha => ?_
  refine hK5 _ _ ?_; try clear hK5 K5
  refine wp_ret ?_
  try simp only [Exit.then, Exit.inBlock]
  have p_z6_M : ∀ x ∈ blkL none, x ∉ M := fun x hx hy => absurd (hM x (hy)) (Nat.not_lt.2 ((fun _ h => nomatch h) x hx))
  have e_z6 : ∀ x ∈ blkL none, w.heap.size ≤ x := fun x hx => Nat.le_trans hC.size ((fun _ h => nomatch h) x hx)
  have hM : MS (blkL none ++ (M)) w := (MS.app (fun _ h => nomatch h) (hM.chg (Chg.refl [] _)))
  have hC := hC.trans (Chg.refl [] _) (Ok.nil _ _)
  obtain rfl := Option.some.inj H
  refine rt2 ha rfl rfl rfl ?_
  exact ⟨none, 0, rfl, Own.nil, e_z6, hC, hM⟩
 ·have H := ite_f hc4 H
  refine wp_skip ?_
  refine hK2 _ _ ?_; try clear hK2 K2
  refine wp_seq_k fun K7 hK7 => ?_
  refine wp_region_lit ?_
  refine seg ha 3 [(1, .bool a1), (6, .int .i64 (IntKind.i64.wrap (a0 * 2 ^ (min (4 : Int).toNat IntKind.i64.bits))))] (by kernel_rfl) fun a ha => ?_
  refine hK7 _ _ ?_; try clear hK7 K7
  refine wp_seq_k fun K8 hK8 => ?_
  obtain ⟨s9, H9, H⟩ := bind_some H
  have J9 : ∀ (a : Act) (w9 : World), Has a Tryd.f39.ntmps [(6, .int .i64 s9)] → (Chg [] w w9) → (MS (M) w9) → K8 a w9 := by
   intro a w9 ha hC hM
   refine hK8 _ _ ?_; try clear hK8 K8
   refine wp_seq_k fun K10 hK10 => ?_
   refine wp_region_lit ?_
   refine seg ha 1 [(18, .int .i64 s9)] (by kernel_rfl) fun a ha => ?_
   obtain ⟨t11, H11, H⟩ := bind_some H
   refine cl ha (by rfl) (by kernel_rfl) (by rfl) (by rfl) (by rfl) (cursor_Put.walk w9 _ hM ([] : List Int) none 0 (RSl.nil (Nat.zero_le _)) s9 (3 : Int) k _ H11) ?_
   rintro _ w11 ⟨ao12, cap12, rfl, f12, ne_i12, hc11, hMn⟩ a ha
   have p_i12_M : ∀ x ∈ blkL ao12, x ∉ M := fun x hx hy => absurd (hM x (hy)) (Nat.not_lt.2 (ne_i12 x hx))
   have e_i12 : ∀ x ∈ blkL ao12, w.heap.size ≤ x := fun x hx => Nat.le_trans hC.size (ne_i12 x hx)
   have hM : MS (blkL ao12 ++ (M)) w11 := (MS.app (fun x h => hMn x (ml h)) (hM.chg hc11))
   have hC := hC.trans hc11 (Ok.nil _ _)
   refine seg ha 4 [(4, .slice ao12 t11.1.length cap12), (5, .int .i64 t11.2)] (by kernel_rfl) fun a ha => ?_
   refine hK10 _ _ ?_; try clear hK10 K10
   refine wp_ret ?_
   try simp only [Exit.then, Exit.inBlock]
   obtain rfl := Option.some.inj H
   refine rt2 ha rfl rfl rfl ?_
   exact ⟨ao12, cap12, rfl, f12, e_i12, hC, hM⟩
  have H := H9
  refine wp_seq_k fun K13 hK13 => ?_
  refine wp_region_lit ?_
  refine seg ha 1 [(6, .int .i64 (IntKind.i64.wrap (a0 * 2 ^ (min (4 : Int).toNat IntKind.i64.bits)))), (15, .bool a1)] (by kernel_rfl) fun a ha => ?_
  refine hK13 _ _ ?_; try clear hK13 K13
  refine cnd ha rfl (fun hc14 => ?_) (fun hc14 => ?_)
  ·have H := ite_t hc14 H
   refine wp_region_lit ?_
   refine seg ha 3 [(6, .int .i64 (IntKind.i64.wrap (BitVec.ofInt IntKind.i64.bits (IntKind.i64.wrap (a0 * 2 ^ (min (4 : Int).toNat IntKind.i64.bits))) ||| BitVec.ofInt IntKind.i64.bits (1 : Int)).toNat))] (by kernel_rfl) fun a ha => ?_
   obtain rfl := Option.some.inj H
   exact J9 _ _ (ha.sel (by kernel_rfl)) hC hM
  ·have H := ite_f hc14 H
   refine wp_skip ?_
   obtain rfl := Option.some.inj H
   exact J9 _ _ (ha.sel (by kernel_rfl)) hC hM
def pmsi_family.f (a0 : S_api_Addr) : Option (Int) := (if (a0.Size == (4 : Int)) = true then some (((1 : Int) : Int)) else some (((2 : Int) : Int)))
set_option maxRecDepth 100000 in
theorem pmsi_family.walk (w : World) (M : List Nat) (hM : MS M w) (a0 : S_api_Addr) (r : Int) (H : pmsi_family.f a0 = some r) :
    To Tryd.prog 86 [.agg (cS_api_Addr a0).toArray] w fun v w' => v = .int .u8 r ∧ Chg [] w w' ∧ MS (M) w' := by
 unfold pmsi_family.f at H
 refine ent Tryd.func86 rfl [(0, .agg (cS_api_Addr a0).toArray)] rfl (by rfl) fun a ha => ?_
 have hC : Chg [] w w := Chg.refl _ _
 refine wp_seq_k fun K1 hK1 => ?_
 refine wp_region_lit ?_
 refine bx (cs := (cS_api_Addr a0)) ha rfl rfl rfl rfl rfl fun a w2 g3 hN4 ha => ?_
 have hn6 := hN4.notin hM
 have hM : MS (M) w2 := (hM.chg hN4.chg)
 have hC := hC.trans hN4.chg (Ok.nil _ _)
 have hE5 : ∀ j v, (cS_api_Addr a0)[j]? = some v → w2.cell? ⟨g3, 0 + j, none⟩ = some v := Box.cells (New.box hN4)
 refine seg ha 1 [(1, .pointer (some ⟨g3, 0, none⟩))] (by kernel_rfl) fun a ha => ?_
 refine hK1 _ _ ?_; try clear hK1 K1
 refine wp_seq_k fun K7 hK7 => ?_
 refine wp_seq_k fun K8 hK8 => ?_
 refine wp_region_lit ?_
 refine seg ha 1 [(3, .pointer (some ⟨g3, 0, none⟩))] (by kernel_rfl) fun a ha => ?_
 refine ld ha rfl (by kernel_rfl) rfl rfl rfl (hE5 0 (.int .i64 a0.Size) (by kernel_rfl)) fun a ha => ?_
 refine seg ha 1 [(5, .bool (a0.Size == (4 : Int)))] (by kernel_rfl) fun a ha => ?_
 refine hK8 _ _ ?_; try clear hK8 K8
 refine cnd ha rfl (fun hc9 => ?_) (fun hc9 => ?_)
 ·have H := ite_t hc9 H
  refine wp_seq_k fun K10 hK10 => ?_
  refine wp_region_lit ?_
  refine seg ha 1 [(2, .int .u8 (1 : Int))] (by kernel_rfl) fun a ha => ?_
  refine hK10 _ _ ?_; try clear hK10 K10
  refine wp_ret ?_
  try simp only [Exit.then, Exit.inBlock]
  obtain rfl := Option.some.inj H
  refine rt1 ha rfl rfl ?_
  exact ⟨rfl, hC, hM⟩
 ·have H := ite_f hc9 H
  refine wp_skip ?_
  refine hK7 _ _ ?_; try clear hK7 K7
  refine wp_seq_k fun K11 hK11 => ?_
  refine wp_region_lit ?_
  refine seg ha 1 [(2, .int .u8 (2 : Int))] (by kernel_rfl) fun a ha => ?_
  refine hK11 _ _ ?_; try clear hK11 K11
  refine wp_ret ?_
  try simp only [Exit.then, Exit.inBlock]
  obtain rfl := Option.some.inj H
  refine rt1 ha rfl rfl ?_
  exact ⟨rfl, hC, hM⟩
def pmsi_identifier.f (k : Nat) (a0 : S_api_Tunnel) : Option (List Int) := (addr_Bytes.f k a0.Root).bind fun t9 => (if (a0.Kind == (1 : Int)) = true then (if 0 ≤ (0 : Int) ∧ (0 : Int) ≤ (4 : Int) ∧ (4 : Int) ≤ (a0.Id.length : Int) then (bytes_Clone.f ((a0.Id.take (Int.toNat (4 : Int))).drop (Int.toNat (0 : Int)))).bind fun t25 => (if (t25.length + ([(0 : Int), (0 : Int)] : List Int).length) * 1 ≤ 140737488355328 then (if 0 ≤ (4 : Int) ∧ (4 : Int) ≤ (a0.Id.length : Int) ∧ (a0.Id.length : Int) ≤ (a0.Id.length : Int) then (if ((t25 ++ ([(0 : Int), (0 : Int)] : List Int)).length + ((a0.Id.take (Int.toNat (a0.Id.length : Int))).drop (Int.toNat (4 : Int))).length) * 1 ≤ 140737488355328 then (if (((t25 ++ ([(0 : Int), (0 : Int)] : List Int)) ++ ((a0.Id.take (Int.toNat (a0.Id.length : Int))).drop (Int.toNat (4 : Int)))).length + t9.length) * 1 ≤ 140737488355328 then some (((((t25 ++ ([(0 : Int), (0 : Int)] : List Int)) ++ ((a0.Id.take (Int.toNat (a0.Id.length : Int))).drop (Int.toNat (4 : Int)))) ++ t9) : List Int)) else none) else none) else none) else none) else none) else (if (a0.Kind == (7 : Int)) = true then (pmsi_family.f a0.Root).bind fun t52 => (if (([(7 : Int), (0 : Int), t52, IntKind.u8.wrap a0.Root.Size] : List Int).length + t9.length) * 1 ≤ 140737488355328 then (cursor_Put.f k (([(7 : Int), (0 : Int), t52, IntKind.u8.wrap a0.Root.Size] : List Int) ++ t9) (a0.Id.length : Int) (2 : Int)).bind fun t64 => (if (t64.1.length + a0.Id.length) * 1 ≤ 140737488355328 then some (((t64.1 ++ a0.Id) : List Int)) else none) else none) else (if (a0.Kind == (2 : Int)) = true then (pmsi_family.f a0.Root).bind fun t77 => (if (([(6 : Int), (0 : Int), t77, IntKind.u8.wrap a0.Root.Size] : List Int).length + t9.length) * 1 ≤ 140737488355328 then (cursor_Put.f k (([(6 : Int), (0 : Int), t77, IntKind.u8.wrap a0.Root.Size] : List Int) ++ t9) (a0.Id.length : Int) (2 : Int)).bind fun t89 => (if (t89.1.length + a0.Id.length) * 1 ≤ 140737488355328 then some (((t89.1 ++ a0.Id) : List Int)) else none) else none) else (if (t9.length + a0.Id.length) * 1 ≤ 140737488355328 then some (((t9 ++ a0.Id) : List Int)) else none))))
set_option maxRecDepth 100000 in
theorem pmsi_identifier.walk (w : World) (M : List Nat) (hM : MS M w) (a0 : S_api_Tunnel) (ao1 : Option Addr) (cap1 : Nat) (f1 : RSl (rInt .u8) 5 w M ao1 cap1 a0.Id) (k : Nat) (r : List Int) (H : pmsi_identifier.f k a0 = some r) :
    To Tryd.prog 40 [.agg (cS_api_Tunnel a0 ao1 cap1).toArray] w fun v w' => ∃ (ao99 : Option Addr) (cap99 : Nat), v = .slice ao99 r.length cap99 ∧ (Own (rInt .u8) 5 w' (blkL ao99 ++ (M)) ao99 cap99 r) ∧ (∀ x ∈ blkL ao99, w.heap.size ≤ x) ∧ Chg [] w w' ∧ MS (blkL ao99 ++ (M)) w' := by
 unfold pmsi_identifier.f at H
 refine ent Tryd.func40 rfl [(0, .agg (cS_api_Tunnel a0 ao1 cap1).toArray)] rfl (by rfl) fun a ha => ?_
 have hC : Chg [] w w := Chg.refl _ _
 refine wp_seq_k fun K2 hK2 => ?_
 refine wp_region_lit ?_
 refine bx (cs := (cS_api_Tunnel a0 ao1 cap1)) ha rfl rfl rfl rfl rfl fun a w3 g4 hN5 ha => ?_
 have hn7 := hN5.notin hM
 have o1 : Ok [] (M) w.heap.size := Ok.nil _ _
 have o2 : Ok (M) (M) w.heap.size := (Ok.refl _ _)
 have f1 := f1.chg hN5.chg o1 o2
 have hM : MS (M) w3 := (hM.chg hN5.chg)
 have hC := hC.trans hN5.chg (Ok.nil _ _)
 have hE6 : ∀ j v, (cS_api_Tunnel a0 ao1 cap1)[j]? = some v → w3.cell? ⟨g4, 0 + j, none⟩ = some v := Box.cells (New.box hN5)
 refine seg ha 1 [(1, .pointer (some ⟨g4, 0, none⟩))] (by kernel_rfl) fun a ha => ?_
 refine hK2 _ _ ?_; try clear hK2 K2
 refine wp_seq_k fun K8 hK8 => ?_
 refine wp_region_lit ?_
 refine seg ha 1 [(1, .pointer (some ⟨g4, 0, none⟩)), (7, .pointer (some ⟨g4, 0 + 3, none⟩))] (by kernel_rfl) fun a ha => ?_
 refine ldA (cs := (cS_api_Addr a0.Root)) ha rfl (by kernel_rfl) rfl rfl rfl (cells_sub hE6 (all := (cS_api_Tunnel a0 ao1 cap1)) [.bool a0.Leaf, .int .i64 a0.Kind, .int .i64 a0.Label] [.slice ao1 a0.Id.length cap1] (by kernel_rfl)) fun a ha => ?_
 obtain ⟨t9, H9, H⟩ := bind_some H
 refine cl ha (by rfl) (by kernel_rfl) (by rfl) (by rfl) (by rfl) (addr_Bytes.walk w3 _ hM a0.Root k _ H9) ?_
 rintro _ w9 ⟨ao10, cap10, rfl, f10, ne_i10, hc9, hMn⟩ a ha
 have o1 : Ok [] (M) w3.heap.size := Ok.nil _ _
 have o2 : Ok (blkL ao10 ++ (M)) (M) w3.heap.size := (Ok.app (fun x h => .inr (ne_i10 x h)) (Ok.refl _ _))
 have f1 := f1.chg hc9 o1 o2
 have q_hn7 : g4 ∉ blkL ao10 ++ (M) := fun h => (o2 g4 h).elim hn7 (fun h => absurd (lt_cell (hE6 0 _ rfl)) (Nat.not_lt.2 h))
 have hE6 : ∀ j v, (cS_api_Tunnel a0 ao1 cap1)[j]? = some v → w9.cell? ⟨g4, 0 + j, none⟩ = some v := fun j v hv => (cell_keep hc9 o1 hn7 (hE6 j v hv))
 have hn7 := q_hn7
 have p_i10_M : ∀ x ∈ blkL ao10, x ∉ M := fun x hx hy => absurd (hM x (hy)) (Nat.not_lt.2 (ne_i10 x hx))
 have e_i10 : ∀ x ∈ blkL ao10, w.heap.size ≤ x := fun x hx => Nat.le_trans hC.size (ne_i10 x hx)
 have hM : MS (blkL ao10 ++ (M)) w9 := (MS.app (fun x h => hMn x (ml h)) (hM.chg hc9))
 have hC := hC.trans hc9 (Ok.nil _ _)
 refine seg ha 1 [(1, .pointer (some ⟨g4, 0, none⟩)), (3, .slice ao10 t9.length cap10)] (by kernel_rfl) fun a ha => ?_
 refine hK8 _ _ ?_; try clear hK8 K8
 refine wp_seq_k fun K11 hK11 => ?_
 refine wp_region_lit ?_
 refine seg ha 1 [(1, .pointer (some ⟨g4, 0, none⟩)), (3, .slice ao10 t9.length cap10), (4, .int .u8 (6 : Int))] (by kernel_rfl) fun a ha => ?_
 refine hK11 _ _ ?_; try clear hK11 K11
 refine wp_seq_k fun K12 hK12 => ?_
 refine wp_seq_k fun K13 hK13 => ?_
 refine wp_region_lit ?_
 refine seg ha 1 [(1, .pointer (some ⟨g4, 0, none⟩)), (3, .slice ao10 t9.length cap10), (4, .int .u8 (6 : Int)), (10, .pointer (some ⟨g4, 0 + 1, none⟩))] (by kernel_rfl) fun a ha => ?_
 refine ld ha rfl (by kernel_rfl) rfl rfl rfl (hE6 1 (.int .i64 a0.Kind) (by kernel_rfl)) fun a ha => ?_
 refine hK13 _ _ ?_; try clear hK13 K13
 refine wp_block ?_
 refine wp_seq_k fun K14 hK14 => ?_
 refine wp_block ?_
 refine wp_seq_k fun K15 hK15 => ?_
 refine wp_block ?_
 refine wp_seq_k fun K16 hK16 => ?_
 refine wp_block ?_
 refine wp_seq_k fun K17 hK17 => ?_
 refine wp_seq_k fun K18 hK18 => ?_
 refine wp_seq_k fun K19 hK19 => ?_
 refine wp_region_lit ?_
 refine seg ha 2 [(1, .pointer (some ⟨g4, 0, none⟩)), (3, .slice ao10 t9.length cap10), (4, .int .u8 (6 : Int)), (11, .int .i64 a0.Kind), (12, .bool (a0.Kind == (1 : Int)))] (by kernel_rfl) fun a ha => ?_
 refine hK19 _ _ ?_; try clear hK19 K19
 refine cnd ha rfl (fun hc20 => ?_) (fun hc20 => ?_)
 ·have H := ite_t hc20 H
  refine wp_exit ?_
  simp only [Exit.then, Exit.inBlock, ↓reduceIte, Nat.reduceEqDiff]
  refine hK16 _ _ ?_; try clear hK16 K16
  refine wp_seq_k fun K21 hK21 => ?_
  refine wp_seq_k fun K22 hK22 => ?_
  refine wp_region_lit ?_
  refine seg ha 1 [(1, .pointer (some ⟨g4, 0, none⟩)), (3, .slice ao10 t9.length cap10), (18, .pointer (some ⟨g4, 0 + 20, none⟩))] (by kernel_rfl) fun a ha => ?_
  refine ld ha rfl (by kernel_rfl) rfl rfl rfl (hE6 20 (.slice ao1 a0.Id.length cap1) (by kernel_rfl)) fun a ha => ?_
  obtain ⟨⟨hx23, hx23', hx23''⟩, H⟩ := ite_some H
  refine slc (r := (rInt .u8)) (l := (0 : Int)) (h := (4 : Int)) ha (by kernel_rfl) (by kernel_rfl) rfl rfl rfl rfl rfl rfl f1 hx23 hx23' hx23'' fun a ao24 cap24 f24 ha => ?_
  obtain ⟨t25, H25, H⟩ := bind_some H
  refine cl ha (by rfl) (by kernel_rfl) (by rfl) (by rfl) (by rfl) (bytes_Clone.walk w9 _ hM ((a0.Id.take (Int.toNat (4 : Int))).drop (Int.toNat (0 : Int))) ao24 cap24 f24 _ H25) ?_
  rintro _ w25 ⟨ao26, cap26, rfl, f26, ne_i26, hc25, hMn⟩ a ha
  have o1 : Ok [] (blkL ao10 ++ (M)) w9.heap.size := Ok.nil _ _
  have o2 : Ok (blkL ao26 ++ (blkL ao10 ++ (M))) (blkL ao10 ++ (M)) w9.heap.size := (Ok.app (fun x h => .inr (ne_i26 x h)) (Ok.refl _ _))
  have f1 := f1.chg hc25 o1 o2
  have f10 := f10.chg hc25 o1 o2 (fun _ _ h => nomatch h) (fun _ h => mr (ml h))
  have f24 := f24.chg hc25 o1 o2
  have q_hn7 : g4 ∉ blkL ao26 ++ (blkL ao10 ++ (M)) := fun h => (o2 g4 h).elim hn7 (fun h => absurd (lt_cell (hE6 0 _ rfl)) (Nat.not_lt.2 h))
  have hE6 : ∀ j v, (cS_api_Tunnel a0 ao1 cap1)[j]? = some v → w25.cell? ⟨g4, 0 + j, none⟩ = some v := fun j v hv => (cell_keep hc25 o1 hn7 (hE6 j v hv))
  have hn7 := q_hn7
  have p_i26_i10 : ∀ x ∈ blkL ao26, x ∉ (blkL ao10) := fun x hx hy => absurd (hM x (ml hy)) (Nat.not_lt.2 (ne_i26 x hx))
  have p_i26_M : ∀ x ∈ blkL ao26, x ∉ M := fun x hx hy => absurd (hM x (mr (hy))) (Nat.not_lt.2 (ne_i26 x hx))
  have e_i26 : ∀ x ∈ blkL ao26, w.heap.size ≤ x := fun x hx => Nat.le_trans hC.size (ne_i26 x hx)
  have hM : MS (blkL ao26 ++ (blkL ao10 ++ (M))) w25 := (MS.app (fun x h => hMn x (ml h)) (hM.chg hc25))
  have hC := hC.trans hc25 (Ok.nil _ _)
  refine bsl (vals := ([.int .u8 (0 : Int), .int .u8 (0 : Int)] : List Value)) (T := 5) ha rfl (([.int .u8 (0 : Int)] : List Value) ++ (([.int .u8 (0 : Int)] : List Value) ++ ([] : List Value))) (fun w => by kernel_rfl) rfl rfl rfl fun a w27 g28 hN29 ha => ?_
  have o1 : Ok [] (blkL ao26 ++ (blkL ao10 ++ (M))) w25.heap.size := Ok.nil _ _
  have o2 : Ok ([g28] ++ (blkL ao26 ++ (blkL ao10 ++ (M)))) (blkL ao26 ++ (blkL ao10 ++ (M))) w25.heap.size := (Ok.app (hN29.ok _) (Ok.refl _ _))
  have f1 := f1.chg hN29.chg o1 o2
  have f10 := f10.chg hN29.chg o1 o2 (fun _ _ h => nomatch h) (fun _ h => mr (mr (ml h)))
  have f26 := f26.chg hN29.chg o1 o2 (fun _ _ h => nomatch h) (fun _ h => mr (ml h))
  have q_hn7 : g4 ∉ [g28] ++ (blkL ao26 ++ (blkL ao10 ++ (M))) := fun h => (o2 g4 h).elim hn7 (fun h => absurd (lt_cell (hE6 0 _ rfl)) (Nat.not_lt.2 h))
  have hE6 : ∀ j v, (cS_api_Tunnel a0 ao1 cap1)[j]? = some v → w27.cell? ⟨g4, 0 + j, none⟩ = some v := fun j v hv => (cell_keep hN29.chg o1 hn7 (hE6 j v hv))
  have hn7 := q_hn7
  have p_i30_i26 : ∀ x ∈ [g28], x ∉ (blkL ao26) := fun x hx hy => absurd (hM x (ml hy)) (Nat.not_lt.2 ((hN29.ge1) x hx))
  have p_i30_i10 : ∀ x ∈ [g28], x ∉ (blkL ao10) := fun x hx hy => absurd (hM x (mr (ml hy))) (Nat.not_lt.2 ((hN29.ge1) x hx))
  have p_i30_M : ∀ x ∈ [g28], x ∉ M := fun x hx hy => absurd (hM x (mr (mr (hy)))) (Nat.not_lt.2 ((hN29.ge1) x hx))
  have e_i30 : ∀ x ∈ [g28], w.heap.size ≤ x := fun x hx => Nat.le_trans hC.size ((hN29.ge1) x hx)
  have hM : MS ([g28] ++ (blkL ao26 ++ (blkL ao10 ++ (M)))) w27 := (MS.app hN29.ms (hM.chg hN29.chg))
  have hC := hC.trans hN29.chg (Ok.nil _ _)
  have f31 : Own (rInt .u8) 5 w27 ([g28] ++ (blkL ao26 ++ (blkL ao10 ++ (M)))) (some ⟨g28, 0, none⟩) 2 ([(0 : Int), (0 : Int)] : List Int) := hN29.own ⟨([.int .u8 (0 : Int)] : List Value), _, rfl, rfl, ⟨([.int .u8 (0 : Int)] : List Value), _, rfl, rfl, rfl⟩⟩ (Nat.le_of_ble_eq_true rfl)
  obtain ⟨hx32, H⟩ := ite_some H
  refine app (r := (rInt .u8)) (xs := t25) (ys := ([(0 : Int), (0 : Int)] : List Int)) ha (ElemT.mk' (bytes := 1) (by kernel_rfl)) rfl rfl rfl rfl rfl f26 f31.src hx32 (by decide) fun a w33 ao34 cap34 hO34 hc34 hk34 hl34 ha => ?_
  have o1 : Ok (blkL ao26) ([g28] ++ (blkL ao26 ++ (blkL ao10 ++ (M)))) w27.heap.size := (fun _ h => .inl (mr (ml h)))
  have o2 : Ok (blkL ao34 ++ ([g28] ++ (blkL ao10 ++ (M)))) ([g28] ++ (blkL ao26 ++ (blkL ao10 ++ (M)))) w27.heap.size := (Ok.app (Ok.to hk34 (fun _ h => mr (ml h))) (Ok.app (fun _ h => .inl (ml h)) (fun _ h => .inl (mr (mr (h))))))
  have f1 := f1.chg hc34 o1 o2
  have f10 := f10.chg hc34 o1 o2 (fun x (hx : x ∈ blkL ao10) (hy : x ∈ blkL ao26) => p_i26_i10 x hy hx) (fun _ h => mr (mr (ml h)))
  have f31 := f31.chg hc34 o1 o2 p_i30_i26 (fun _ h => mr (ml h))
  have q_hn7 : g4 ∉ blkL ao34 ++ ([g28] ++ (blkL ao10 ++ (M))) := fun h => (o2 g4 h).elim hn7 (fun h => absurd (lt_cell (hE6 0 _ rfl)) (Nat.not_lt.2 h))
  have hE6 : ∀ j v, (cS_api_Tunnel a0 ao1 cap1)[j]? = some v → w33.cell? ⟨g4, 0 + j, none⟩ = some v := fun j v hv => (cell_keep hc34 o1 hn7 (hE6 j v hv))
  have hn7 := q_hn7
  have p_i34_i30 : ∀ x ∈ blkL ao34, x ∉ ([g28]) := fun x hx hy => (hk34 x hx).elim (fun h => (fun x hx hy => p_i30_i26 x hy hx) x h hy) (fun h => absurd (hM x (ml hy)) (Nat.not_lt.2 h))
  have p_i34_i10 : ∀ x ∈ blkL ao34, x ∉ (blkL ao10) := fun x hx hy => (hk34 x hx).elim (fun h => p_i26_i10 x h hy) (fun h => absurd (hM x (mr (mr (ml hy)))) (Nat.not_lt.2 h))
  have p_i34_M : ∀ x ∈ blkL ao34, x ∉ M := fun x hx hy => (hk34 x hx).elim (fun h => p_i26_M x h hy) (fun h => absurd (hM x (mr (mr (mr (hy))))) (Nat.not_lt.2 h))
  have e_i34 : ∀ x ∈ blkL ao34, w.heap.size ≤ x := fun x hx => (hk34 x hx).elim (e_i26 x) (Nat.le_trans hC.size)
  have hM : MS (blkL ao34 ++ ([g28] ++ (blkL ao10 ++ (M)))) w33 := (MS.app hl34 (MS.app (fun x h => hM.chg hc34 x (ml h)) (fun x h => hM.chg hc34 x (mr (mr (h))))))
  have hC := hC.trans hc34 (fun x h => .inr (e_i26 x h))
  have f34 := hO34.chg (M' := blkL ao34 ++ ([g28] ++ (blkL ao10 ++ (M)))) (Chg.refl [] _) (Ok.nil _ _) (Ok.app (fun _ h => .inl (ml h)) (Ok.to (Ok.app (fun _ h => .inl (ml h)) (fun _ h => .inl (mr (mr (h))))) (fun _ h => mr h))) (fun _ _ h => nomatch h) (fun _ h => ml h)
  refine seg ha 1 [(1, .pointer (some ⟨g4, 0, none⟩)), (3, .slice ao10 t9.length cap10), (5, .slice ao34 (t25 ++ ([(0 : Int), (0 : Int)] : List Int)).length cap34)] (by kernel_rfl) fun a ha => ?_
  refine hK22 _ _ ?_; try clear hK22 K22
  refine wp_seq_k fun K35 hK35 => ?_
  refine wp_region_lit ?_
  refine seg ha 2 [(3, .slice ao10 t9.length cap10), (24, .slice ao34 (t25 ++ ([(0 : Int), (0 : Int)] : List Int)).length cap34), (25, .pointer (some ⟨g4, 0 + 20, none⟩))] (by kernel_rfl) fun a ha => ?_
  refine ld ha rfl (by kernel_rfl) rfl rfl rfl (hE6 20 (.slice ao1 a0.Id.length cap1) (by kernel_rfl)) fun a ha => ?_
  obtain ⟨⟨hx36, hx36', hx36''⟩, H⟩ := ite_some H
  refine slc (r := (rInt .u8)) (l := (4 : Int)) (h := (a0.Id.length : Int)) ha (by kernel_rfl) (by kernel_rfl) rfl rfl rfl rfl rfl rfl f1 hx36 hx36' hx36'' fun a ao37 cap37 f37 ha => ?_
  obtain ⟨hx38, H⟩ := ite_some H
  refine app (r := (rInt .u8)) (xs := (t25 ++ ([(0 : Int), (0 : Int)] : List Int))) (ys := ((a0.Id.take (Int.toNat (a0.Id.length : Int))).drop (Int.toNat (4 : Int)))) ha (ElemT.mk' (bytes := 1) (by kernel_rfl)) rfl rfl rfl rfl rfl f34 f37.src hx38 (by decide) fun a w39 ao40 cap40 hO40 hc40 hk40 hl40 ha => ?_
  have o1 : Ok (blkL ao34) (blkL ao34 ++ ([g28] ++ (blkL ao10 ++ (M)))) w33.heap.size := (fun _ h => .inl (ml h))
  have o2 : Ok (blkL ao40 ++ ([g28] ++ (blkL ao10 ++ (M)))) (blkL ao34 ++ ([g28] ++ (blkL ao10 ++ (M)))) w33.heap.size := (Ok.app (Ok.to hk40 (fun _ h => ml h)) (fun _ h => .inl (mr (h))))
  have f10 := f10.chg hc40 o1 o2 (fun x (hx : x ∈ blkL ao10) (hy : x ∈ blkL ao34) => p_i34_i10 x hy hx) (fun _ h => mr (mr (ml h)))
  have f37 := f37.chg hc40 o1 o2
  have p_i40_i30 : ∀ x ∈ blkL ao40, x ∉ ([g28]) := fun x hx hy => (hk40 x hx).elim (fun h => p_i34_i30 x h hy) (fun h => absurd (hM x (mr (ml hy))) (Nat.not_lt.2 h))
  have p_i40_i10 : ∀ x ∈ blkL ao40, x ∉ (blkL ao10) := fun x hx hy => (hk40 x hx).elim (fun h => p_i34_i10 x h hy) (fun h => absurd (hM x (mr (mr (ml hy)))) (Nat.not_lt.2 h))
  have p_i40_M : ∀ x ∈ blkL ao40, x ∉ M := fun x hx hy => (hk40 x hx).elim (fun h => p_i34_M x h hy) (fun h => absurd (hM x (mr (mr (mr (hy))))) (Nat.not_lt.2 h))
  have e_i40 : ∀ x ∈ blkL ao40, w.heap.size ≤ x := fun x hx => (hk40 x hx).elim (e_i34 x) (Nat.le_trans hC.size)
  have hM : MS (blkL ao40 ++ ([g28] ++ (blkL ao10 ++ (M)))) w39 := (MS.app hl40 (fun x h => hM.chg hc40 x (mr (h))))
  have hC := hC.trans hc40 (fun x h => .inr (e_i34 x h))
  have f40 := hO40.chg (M' := blkL ao40 ++ ([g28] ++ (blkL ao10 ++ (M)))) (Chg.refl [] _) (Ok.nil _ _) (Ok.app (fun _ h => .inl (ml h)) (Ok.to (fun _ h => .inl (mr (h))) (fun _ h => mr h))) (fun _ _ h => nomatch h) (fun _ h => ml h)
  refine seg ha 1 [(28, .slice ao40 ((t25 ++ ([(0 : Int), (0 : Int)] : List Int)) ++ ((a0.Id.take (Int.toNat (a0.Id.length : Int))).drop (Int.toNat (4 : Int)))).length cap40), (29, .slice ao10 t9.length cap10)] (by kernel_rfl) fun a ha => ?_
  obtain ⟨hx41, H⟩ := ite_some H
  refine app (r := (rInt .u8)) (xs := ((t25 ++ ([(0 : Int), (0 : Int)] : List Int)) ++ ((a0.Id.take (Int.toNat (a0.Id.length : Int))).drop (Int.toNat (4 : Int))))) (ys := t9) ha (ElemT.mk' (bytes := 1) (by kernel_rfl)) rfl rfl rfl rfl rfl f40 f10.src hx41 (by decide) fun a w42 ao43 cap43 hO43 hc43 hk43 hl43 ha => ?_
  have o1 : Ok (blkL ao40) (blkL ao40 ++ ([g28] ++ (blkL ao10 ++ (M)))) w39.heap.size := (fun _ h => .inl (ml h))
  have o2 : Ok (blkL ao43 ++ ([g28] ++ (blkL ao10 ++ (M)))) (blkL ao40 ++ ([g28] ++ (blkL ao10 ++ (M)))) w39.heap.size := (Ok.app (Ok.to hk43 (fun _ h => ml h)) (fun _ h => .inl (mr (h))))
  have f10 := f10.chg hc43 o1 o2 (fun x (hx : x ∈ blkL ao10) (hy : x ∈ blkL ao40) => p_i40_i10 x hy hx) (fun _ h => mr (mr (ml h)))
  have p_i43_i30 : ∀ x ∈ blkL ao43, x ∉ ([g28]) := fun x hx hy => (hk43 x hx).elim (fun h => p_i40_i30 x h hy) (fun h => absurd (hM x (mr (ml hy))) (Nat.not_lt.2 h))
  have p_i43_i10 : ∀ x ∈ blkL ao43, x ∉ (blkL ao10) := fun x hx hy => (hk43 x hx).elim (fun h => p_i40_i10 x h hy) (fun h => absurd (hM x (mr (mr (ml hy)))) (Nat.not_lt.2 h))
  have p_i43_M : ∀ x ∈ blkL ao43, x ∉ M := fun x hx hy => (hk43 x hx).elim (fun h => p_i40_M x h hy) (fun h => absurd (hM x (mr (mr (mr (hy))))) (Nat.not_lt.2 h))
  have e_i43 : ∀ x ∈ blkL ao43, w.heap.size ≤ x := fun x hx => (hk43 x hx).elim (e_i40 x) (Nat.le_trans hC.size)
  have hM : MS (blkL ao43 ++ ([g28] ++ (blkL ao10 ++ (M)))) w42 := (MS.app hl43 (fun x h => hM.chg hc43 x (mr (h))))
  have hC := hC.trans hc43 (fun x h => .inr (e_i40 x h))
  have f43 := hO43.chg (M' := blkL ao43 ++ ([g28] ++ (blkL ao10 ++ (M)))) (Chg.refl [] _) (Ok.nil _ _) (Ok.app (fun _ h => .inl (ml h)) (Ok.to (fun _ h => .inl (mr (h))) (fun _ h => mr h))) (fun _ _ h => nomatch h) (fun _ h => ml h)
  refine seg ha 1 [(2, .slice ao43 (((t25 ++ ([(0 : Int), (0 : Int)] : List Int)) ++ ((a0.Id.take (Int.toNat (a0.Id.length : Int))).drop (Int.toNat (4 : Int)))) ++ t9).length cap43)] (by kernel_rfl) fun a ha => ?_
  refine hK35 _ _ ?_; try clear hK35 K35
  refine wp_ret ?_
  try simp only [Exit.then, Exit.inBlock]
  have o1 : Ok [] (blkL ao43 ++ ([g28] ++ (blkL ao10 ++ (M)))) w42.heap.size := Ok.nil _ _
  have o2 : Ok (blkL ao43 ++ (M)) (blkL ao43 ++ ([g28] ++ (blkL ao10 ++ (M)))) w42.heap.size := (Ok.app (fun _ h => .inl (ml h)) (fun _ h => .inl (mr (mr (mr (h))))))
  have f43 := f43.chg (Chg.refl [] _) o1 o2 (fun _ _ h => nomatch h) (fun _ h => ml h)
  have hM : MS (blkL ao43 ++ (M)) w42 := (MS.app (fun x h => hM.chg (Chg.refl [] _) x (ml h)) (fun x h => hM.chg (Chg.refl [] _) x (mr (mr (mr (h))))))
  have hC := hC.trans (Chg.refl [] _) (Ok.nil _ _)
  obtain rfl := Option.some.inj H
  refine rt1 ha rfl rfl ?_
  exact ⟨ao43, cap43, rfl, f43, e_i43, hC, hM⟩
 ·have H := ite_f hc20 H
  refine wp_skip ?_
  refine hK18 _ _ ?_; try clear hK18 K18
  refine wp_seq_k fun K44 hK44 => ?_
  refine wp_seq_k fun K45 hK45 => ?_
  refine wp_region_lit ?_
  refine seg ha 2 [(1, .pointer (some ⟨g4, 0, none⟩)), (3, .slice ao10 t9.length cap10), (4, .int .u8 (6 : Int)), (11, .int .i64 a0.Kind), (14, .bool (a0.Kind == (7 : Int)))] (by kernel_rfl) fun a ha => ?_
  refine hK45 _ _ ?_; try clear hK45 K45
  refine cnd ha rfl (fun hc46 => ?_) (fun hc46 => ?_)
  ·have H := ite_t hc46 H
   refine wp_exit ?_
   simp only [Exit.then, Exit.inBlock, ↓reduceIte, Nat.reduceEqDiff]
   refine hK15 _ _ ?_; try clear hK15 K15
   refine wp_region_lit ?_
   refine seg ha 1 [(1, .pointer (some ⟨g4, 0, none⟩)), (3, .slice ao10 t9.length cap10), (4, .int .u8 (7 : Int))] (by kernel_rfl) fun a ha => ?_
   refine hK14 _ _ ?_; try clear hK14 K14
   refine wp_seq_k fun K47 hK47 => ?_
   refine wp_seq_k fun K48 hK48 => ?_
   have okS : Ok [] (blkL ao10 ++ (M)) w9.heap.size := Ok.nil _ _
   have z_f1 := f1
   have z_f10 := (Own.toRSl (M' := []) f10 (Ok.nil _ _) (fun _ _ h => nomatch h))
   have z_hE6 := hE6
   have z_hn7 := hn7
   refine drw (fun w' => Chg [] w9 w') (by kernel_rfl) fun w49 hc50 _ => ?_
   have hS : Chg [] w9 w49 := (Chg.refl [] _).trans hc50 (Ok.nil _ _)
   have o1 : Ok [] (blkL ao10 ++ (M)) w9.heap.size := Ok.nil _ _
   have o2 : Ok (blkL ao10 ++ (M)) (blkL ao10 ++ (M)) w9.heap.size := (Ok.refl _ _)
   have f1 := f1.chg hc50 o1 o2
   have f10 := f10.chg hc50 o1 o2 (fun _ _ h => nomatch h) (fun _ h => ml h)
   have q_hn7 : g4 ∉ blkL ao10 ++ (M) := fun h => (o2 g4 h).elim hn7 (fun h => absurd (lt_cell (hE6 0 _ rfl)) (Nat.not_lt.2 h))
   have hE6 : ∀ j v, (cS_api_Tunnel a0 ao1 cap1)[j]? = some v → w49.cell? ⟨g4, 0 + j, none⟩ = some v := fun j v hv => (cell_keep hc50 o1 hn7 (hE6 j v hv))
   have hn7 := q_hn7
   have hM : MS (blkL ao10 ++ (M)) w49 := (hM.chg hc50)
   have hC := hC.trans hc50 (Ok.nil _ _)
   refine tkpz 0 0 (.int .u8 (7 : Int)) ha (s := hS) (q := fun a ha => ?_)
   refine tkpz 1 0 (.pointer (some ⟨g4, 0 + 3, none⟩)) ha (s := hS) (q := fun a ha => ?_)
   refine tkz 2 ha (v := .agg (cS_api_Addr a0.Root).toArray) (y := fun w' hs => ldA_run (cs := (cS_api_Addr a0.Root)) ha rfl (by kernel_rfl) (cells_sub (fun j v hv => cell_keep hs okS z_hn7 (z_hE6 j v hv)) (all := (cS_api_Tunnel a0 ao1 cap1)) [.bool a0.Leaf, .int .i64 a0.Kind, .int .i64 a0.Label] [.slice ao1 a0.Id.length cap1] (by kernel_rfl))) (s := hS) (q := fun a ha => ?_)
   refine tkpz 4 0 (.pointer (some ⟨g4, 0 + 3, none⟩)) ha (s := hS) (q := fun a ha => ?_)
   refine tkpz 5 0 (.pointer (some ⟨g4, 0 + 3, none⟩)) ha (s := hS) (q := fun a ha => ?_)
   refine tkz 6 ha (v := .int .i64 a0.Root.Size) (y := fun w' hs => ld_run ha rfl (by kernel_rfl) (cell_keep hs okS z_hn7 (z_hE6 3 (.int .i64 a0.Root.Size) (by kernel_rfl)))) (s := hS) (q := fun a ha => ?_)
   refine tkpz 7 0 (.int .u8 (IntKind.u8.wrap a0.Root.Size)) ha (s := hS) (q := fun a ha => ?_)
   refine tkpz 9 0 (.slice ao10 t9.length cap10) ha (s := hS) (q := fun a ha => ?_)
   refine ac 3 (by kernel_rfl) (by rfl) fun K51 hK51 => ?_
   obtain ⟨t52, H52, H⟩ := bind_some H
   refine cl ha (by rfl) (by kernel_rfl) (by rfl) (by rfl) (by rfl) (pmsi_family.walk w49 _ hM a0.Root _ H52) ?_
   rintro _ w52 ⟨rfl, hc52, hMn⟩ a ha
   have o1 : Ok [] (blkL ao10 ++ (M)) w49.heap.size := Ok.nil _ _
   have o2 : Ok (blkL ao10 ++ (M)) (blkL ao10 ++ (M)) w49.heap.size := (Ok.refl _ _)
   have f1 := f1.chg hc52 o1 o2
   have f10 := f10.chg hc52 o1 o2 (fun _ _ h => nomatch h) (fun _ h => ml h)
   have q_hn7 : g4 ∉ blkL ao10 ++ (M) := fun h => (o2 g4 h).elim hn7 (fun h => absurd (lt_cell (hE6 0 _ rfl)) (Nat.not_lt.2 h))
   have hE6 : ∀ j v, (cS_api_Tunnel a0 ao1 cap1)[j]? = some v → w52.cell? ⟨g4, 0 + j, none⟩ = some v := fun j v hv => (cell_keep hc52 o1 hn7 (hE6 j v hv))
   have hn7 := q_hn7
   have hM : MS (blkL ao10 ++ (M)) w52 := (hM.chg hc52)
   have hC := hC.trans hc52 (Ok.nil _ _)
   have hS := hS.trans hc52 (Ok.nil _ _)
   refine ae hK51 hS ?_; clear hK51 K51
   refine ac 8 (by kernel_rfl) (by rfl) fun K53 hK53 => ?_
   refine bsl (vals := ([.int .u8 (7 : Int), .int .u8 (0 : Int), .int .u8 t52, .int .u8 (IntKind.u8.wrap a0.Root.Size)] : List Value)) (T := 5) ha rfl (([.int .u8 (7 : Int)] : List Value) ++ (([.int .u8 (0 : Int)] : List Value) ++ (([.int .u8 t52] : List Value) ++ (([.int .u8 (IntKind.u8.wrap a0.Root.Size)] : List Value) ++ ([] : List Value))))) (fun w => by kernel_rfl) rfl rfl rfl fun a w54 g55 hN56 ha => ?_
   have o1 : Ok [] (blkL ao10 ++ (M)) w52.heap.size := Ok.nil _ _
   have o2 : Ok ([g55] ++ (blkL ao10 ++ (M))) (blkL ao10 ++ (M)) w52.heap.size := (Ok.app (hN56.ok _) (Ok.refl _ _))
   have f1 := f1.chg hN56.chg o1 o2
   have f10 := f10.chg hN56.chg o1 o2 (fun _ _ h => nomatch h) (fun _ h => mr (ml h))
   have q_hn7 : g4 ∉ [g55] ++ (blkL ao10 ++ (M)) := fun h => (o2 g4 h).elim hn7 (fun h => absurd (lt_cell (hE6 0 _ rfl)) (Nat.not_lt.2 h))
   have hE6 : ∀ j v, (cS_api_Tunnel a0 ao1 cap1)[j]? = some v → w54.cell? ⟨g4, 0 + j, none⟩ = some v := fun j v hv => (cell_keep hN56.chg o1 hn7 (hE6 j v hv))
   have hn7 := q_hn7
   have p_iD000057_i10 : ∀ x ∈ [g55], x ∉ (blkL ao10) := fun x hx hy => absurd (hM x (ml hy)) (Nat.not_lt.2 ((hN56.ge1) x hx))
   have p_iD000057_M : ∀ x ∈ [g55], x ∉ M := fun x hx hy => absurd (hM x (mr (hy))) (Nat.not_lt.2 ((hN56.ge1) x hx))
   have e_iD000057 : ∀ x ∈ [g55], w.heap.size ≤ x := fun x hx => Nat.le_trans hC.size ((hN56.ge1) x hx)
   have hM : MS ([g55] ++ (blkL ao10 ++ (M))) w54 := (MS.app hN56.ms (hM.chg hN56.chg))
   have hC := hC.trans hN56.chg (Ok.nil _ _)
   have d_iD000057 : Ok ([g55]) [] w9.heap.size := fun x hx => .inr (Nat.le_trans hS.size ((hN56.ge1) x hx))
   have hS := hS.trans hN56.chg (Ok.nil _ _)
   have f58 : Own (rInt .u8) 5 w54 ([g55] ++ (blkL ao10 ++ (M))) (some ⟨g55, 0, none⟩) 4 ([(7 : Int), (0 : Int), t52, IntKind.u8.wrap a0.Root.Size] : List Int) := hN56.own ⟨([.int .u8 (7 : Int)] : List Value), _, rfl, rfl, ⟨([.int .u8 (0 : Int)] : List Value), _, rfl, rfl, ⟨([.int .u8 t52] : List Value), _, rfl, rfl, ⟨([.int .u8 (IntKind.u8.wrap a0.Root.Size)] : List Value), _, rfl, rfl, rfl⟩⟩⟩⟩ (Nat.le_of_ble_eq_true rfl)
   refine ae hK53 hS ?_; clear hK53 K53
   refine ac 10 (by kernel_rfl) (by rfl) fun K59 hK59 => ?_
   obtain ⟨hx60, H⟩ := ite_some H
   refine app (r := (rInt .u8)) (xs := ([(7 : Int), (0 : Int), t52, IntKind.u8.wrap a0.Root.Size] : List Int)) (ys := t9) ha (ElemT.mk' (bytes := 1) (by kernel_rfl)) rfl rfl rfl rfl rfl f58 f10.src hx60 (by decide) fun a w61 ao62 cap62 hO62 hc62 hk62 hl62 ha => ?_
   have o1 : Ok [g55] ([g55] ++ (blkL ao10 ++ (M))) w54.heap.size := (fun _ h => .inl (ml h))
   have o2 : Ok (blkL ao62 ++ (blkL ao10 ++ (M))) ([g55] ++ (blkL ao10 ++ (M))) w54.heap.size := (Ok.app (Ok.to hk62 (fun _ h => ml h)) (fun _ h => .inl (mr (h))))
   have f1 := f1.chg hc62 o1 o2
   have f10 := f10.chg hc62 o1 o2 (fun x (hx : x ∈ blkL ao10) (hy : x ∈ [g55]) => p_iD000057_i10 x hy hx) (fun _ h => mr (ml h))
   have q_hn7 : g4 ∉ blkL ao62 ++ (blkL ao10 ++ (M)) := fun h => (o2 g4 h).elim hn7 (fun h => absurd (lt_cell (hE6 0 _ rfl)) (Nat.not_lt.2 h))
   have hE6 : ∀ j v, (cS_api_Tunnel a0 ao1 cap1)[j]? = some v → w61.cell? ⟨g4, 0 + j, none⟩ = some v := fun j v hv => (cell_keep hc62 o1 hn7 (hE6 j v hv))
   have hn7 := q_hn7
   have p_iD000062_i10 : ∀ x ∈ blkL ao62, x ∉ (blkL ao10) := fun x hx hy => (hk62 x hx).elim (fun h => p_iD000057_i10 x h hy) (fun h => absurd (hM x (mr (ml hy))) (Nat.not_lt.2 h))
   have p_iD000062_M : ∀ x ∈ blkL ao62, x ∉ M := fun x hx hy => (hk62 x hx).elim (fun h => p_iD000057_M x h hy) (fun h => absurd (hM x (mr (mr (hy)))) (Nat.not_lt.2 h))
   have e_iD000062 : ∀ x ∈ blkL ao62, w.heap.size ≤ x := fun x hx => (hk62 x hx).elim (e_iD000057 x) (Nat.le_trans hC.size)
   have hM : MS (blkL ao62 ++ (blkL ao10 ++ (M))) w61 := (MS.app hl62 (fun x h => hM.chg hc62 x (mr (h))))
   have hC := hC.trans hc62 (fun x h => .inr (e_iD000057 x h))
   have d_iD000062 : Ok (blkL ao62) [] w9.heap.size := fun x hx => (hk62 x hx).elim (fun h => d_iD000057 x h) (fun h => .inr (Nat.le_trans hS.size h))
   have hS := hS.trans hc62 d_iD000057
   have f62 := hO62.chg (M' := blkL ao62 ++ (blkL ao10 ++ (M))) (Chg.refl [] _) (Ok.nil _ _) (Ok.app (fun _ h => .inl (ml h)) (Ok.to (fun _ h => .inl (mr (h))) (fun _ h => mr h))) (fun _ _ h => nomatch h) (fun _ h => ml h)
   refine ae hK59 hS ?_; clear hK59 K59
   refine tkpz 11 0 (.slice ao62 (([(7 : Int), (0 : Int), t52, IntKind.u8.wrap a0.Root.Size] : List Int) ++ t9).length cap62) ha (s := hS) (q := fun a ha => ?_)
   refine dn (by kernel_rfl) ?_
   refine hK48 _ _ ?_; try clear hK48 K48
   refine wp_seq_k fun K63 hK63 => ?_
   refine wp_region_lit ?_
   refine seg ha 2 [(1, .pointer (some ⟨g4, 0, none⟩)), (43, .slice ao62 (([(7 : Int), (0 : Int), t52, IntKind.u8.wrap a0.Root.Size] : List Int) ++ t9).length cap62), (44, .pointer (some ⟨g4, 0 + 20, none⟩))] (by kernel_rfl) fun a ha => ?_
   refine ld ha rfl (by kernel_rfl) rfl rfl rfl (hE6 20 (.slice ao1 a0.Id.length cap1) (by kernel_rfl)) fun a ha => ?_
   refine seg ha 1 [(1, .pointer (some ⟨g4, 0, none⟩)), (43, .slice ao62 (([(7 : Int), (0 : Int), t52, IntKind.u8.wrap a0.Root.Size] : List Int) ++ t9).length cap62), (46, .int .i64 (a0.Id.length : Int))] (by kernel_rfl) fun a ha => ?_
   have hML : MS (blkL ao10 ++ (M)) w61 := MS.rest hM (fun _ h => (List.mem_append.1 h).elim (fun h => mr (ml h)) (fun h => mr (mr (h))))
   have oL : Ok (blkL ao10 ++ (M)) (blkL ao62 ++ (blkL ao10 ++ (M))) w61.heap.size := (fun _ h => .inl (mr (h)))
   obtain ⟨t64, H64, H⟩ := bind_some H
   refine cl ha (by rfl) (by kernel_rfl) (by rfl) (by rfl) (by rfl) (cursor_Put.walk w61 _ hML (([(7 : Int), (0 : Int), t52, IntKind.u8.wrap a0.Root.Size] : List Int) ++ t9) ao62 cap62 (Own.toRSl (M' := blkL ao10 ++ (M)) f62 oL (fun x hx hm => (List.mem_append.1 hm).elim (fun h => p_iD000062_i10 x hx h) (fun h => p_iD000062_M x hx h))) (a0.Id.length : Int) (2 : Int) k _ H64) ?_
   rintro _ w64 ⟨ao65, cap65, rfl, f65, ne_i65, hc64, hMn⟩ a ha
   have o1 : Ok [] (blkL ao62 ++ (blkL ao10 ++ (M))) w61.heap.size := Ok.nil _ _
   have o2 : Ok (blkL ao65 ++ (blkL ao62 ++ (blkL ao10 ++ (M)))) (blkL ao62 ++ (blkL ao10 ++ (M))) w61.heap.size := (Ok.app (fun x h => .inr (ne_i65 x h)) (Ok.refl _ _))
   have f1 := f1.chg hc64 o1 o2
   have f62 := f62.chg hc64 o1 o2 (fun _ _ h => nomatch h) (fun _ h => mr (ml h))
   have q_hn7 : g4 ∉ blkL ao65 ++ (blkL ao62 ++ (blkL ao10 ++ (M))) := fun h => (o2 g4 h).elim hn7 (fun h => absurd (lt_cell (hE6 0 _ rfl)) (Nat.not_lt.2 h))
   have hE6 : ∀ j v, (cS_api_Tunnel a0 ao1 cap1)[j]? = some v → w64.cell? ⟨g4, 0 + j, none⟩ = some v := fun j v hv => (cell_keep hc64 o1 hn7 (hE6 j v hv))
   have hn7 := q_hn7
   have p_i65_iD000062 : ∀ x ∈ blkL ao65, x ∉ (blkL ao62) := fun x hx hy => absurd (hM x (ml hy)) (Nat.not_lt.2 (ne_i65 x hx))
   have p_i65_i10 : ∀ x ∈ blkL ao65, x ∉ (blkL ao10) := fun x hx hy => absurd (hM x (mr (ml hy))) (Nat.not_lt.2 (ne_i65 x hx))
   have p_i65_M : ∀ x ∈ blkL ao65, x ∉ M := fun x hx hy => absurd (hM x (mr (mr (hy)))) (Nat.not_lt.2 (ne_i65 x hx))
   have e_i65 : ∀ x ∈ blkL ao65, w.heap.size ≤ x := fun x hx => Nat.le_trans hC.size (ne_i65 x hx)
   have hM : MS (blkL ao65 ++ (blkL ao62 ++ (blkL ao10 ++ (M)))) w64 := (MS.app (fun x h => hMn x (ml h)) (hM.chg hc64))
   have hC := hC.trans hc64 (Ok.nil _ _)
   have f65 := Own.re (M' := blkL ao65 ++ (blkL ao62 ++ (blkL ao10 ++ (M)))) (fun _ _ _ _ _ h => h) f65 (fun _ h => ml h)
   refine seg ha 4 [(1, .pointer (some ⟨g4, 0, none⟩)), (6, .slice ao65 t64.1.length cap65)] (by kernel_rfl) fun a ha => ?_
   refine hK63 _ _ ?_; try clear hK63 K63
   refine wp_seq_k fun K66 hK66 => ?_
   refine wp_region_lit ?_
   refine seg ha 2 [(50, .slice ao65 t64.1.length cap65), (51, .pointer (some ⟨g4, 0 + 20, none⟩))] (by kernel_rfl) fun a ha => ?_
   refine ld ha rfl (by kernel_rfl) rfl rfl rfl (hE6 20 (.slice ao1 a0.Id.length cap1) (by kernel_rfl)) fun a ha => ?_
   obtain ⟨hx67, H⟩ := ite_some H
   refine app (r := (rInt .u8)) (xs := t64.1) (ys := a0.Id) ha (ElemT.mk' (bytes := 1) (by kernel_rfl)) rfl rfl rfl rfl rfl f65 f1.src hx67 (by decide) fun a w68 ao69 cap69 hO69 hc69 hk69 hl69 ha => ?_
   have o1 : Ok (blkL ao65) (blkL ao65 ++ (blkL ao62 ++ (blkL ao10 ++ (M)))) w64.heap.size := (fun _ h => .inl (ml h))
   have o2 : Ok (blkL ao69 ++ (blkL ao62 ++ (blkL ao10 ++ (M)))) (blkL ao65 ++ (blkL ao62 ++ (blkL ao10 ++ (M)))) w64.heap.size := (Ok.app (Ok.to hk69 (fun _ h => ml h)) (fun _ h => .inl (mr (h))))
   have f1 := f1.chg hc69 o1 o2
   have p_i69_iD000062 : ∀ x ∈ blkL ao69, x ∉ (blkL ao62) := fun x hx hy => (hk69 x hx).elim (fun h => p_i65_iD000062 x h hy) (fun h => absurd (hM x (mr (ml hy))) (Nat.not_lt.2 h))
   have p_i69_i10 : ∀ x ∈ blkL ao69, x ∉ (blkL ao10) := fun x hx hy => (hk69 x hx).elim (fun h => p_i65_i10 x h hy) (fun h => absurd (hM x (mr (mr (ml hy)))) (Nat.not_lt.2 h))
   have p_i69_M : ∀ x ∈ blkL ao69, x ∉ M := fun x hx hy => (hk69 x hx).elim (fun h => p_i65_M x h hy) (fun h => absurd (hM x (mr (mr (mr (hy))))) (Nat.not_lt.2 h))
   have e_i69 : ∀ x ∈ blkL ao69, w.heap.size ≤ x := fun x hx => (hk69 x hx).elim (e_i65 x) (Nat.le_trans hC.size)
   have hM : MS (blkL ao69 ++ (blkL ao62 ++ (blkL ao10 ++ (M)))) w68 := (MS.app hl69 (fun x h => hM.chg hc69 x (mr (h))))
   have hC := hC.trans hc69 (fun x h => .inr (e_i65 x h))
   have f69 := hO69.chg (M' := blkL ao69 ++ (blkL ao62 ++ (blkL ao10 ++ (M)))) (Chg.refl [] _) (Ok.nil _ _) (Ok.app (fun _ h => .inl (ml h)) (Ok.to (fun _ h => .inl (mr (h))) (fun _ h => mr h))) (fun _ _ h => nomatch h) (fun _ h => ml h)
   refine seg ha 1 [(2, .slice ao69 (t64.1 ++ a0.Id).length cap69)] (by kernel_rfl) fun a ha => ?_
   refine hK66 _ _ ?_; try clear hK66 K66
   refine wp_ret ?_
   try simp only [Exit.then, Exit.inBlock]
   have o1 : Ok [] (blkL ao69 ++ (blkL ao62 ++ (blkL ao10 ++ (M)))) w68.heap.size := Ok.nil _ _
   have o2 : Ok (blkL ao69 ++ (M)) (blkL ao69 ++ (blkL ao62 ++ (blkL ao10 ++ (M)))) w68.heap.size := (Ok.app (fun _ h => .inl (ml h)) (fun _ h => .inl (mr (mr (mr (h))))))
   have f69 := f69.chg (Chg.refl [] _) o1 o2 (fun _ _ h => nomatch h) (fun _ h => ml h)
   have hM : MS (blkL ao69 ++ (M)) w68 := (MS.app (fun x h => hM.chg (Chg.refl [] _) x (ml h)) (fun x h => hM.chg (Chg.refl [] _) x (mr (mr (mr (h))))))
   have hC := hC.trans (Chg.refl [] _) (Ok.nil _ _)
   obtain rfl := Option.some.inj H
   refine rt1 ha rfl rfl ?_
   exact ⟨ao69, cap69, rfl, f69, e_i69, hC, hM⟩
  ·have H := ite_f hc46 H
   refine wp_skip ?_
   refine hK44 _ _ ?_; try clear hK44 K44
   refine wp_seq_k fun K70 hK70 => ?_
   refine wp_region_lit ?_
   refine seg ha 2 [(1, .pointer (some ⟨g4, 0, none⟩)), (3, .slice ao10 t9.length cap10), (4, .int .u8 (6 : Int)), (16, .bool (a0.Kind == (2 : Int)))] (by kernel_rfl) fun a ha => ?_
   refine hK70 _ _ ?_; try clear hK70 K70
   refine cnd ha rfl (fun hc71 => ?_) (fun hc71 => ?_)
   ·have H := ite_t hc71 H
    refine wp_exit ?_
    simp only [Exit.then, Exit.inBlock, ↓reduceIte, Nat.reduceEqDiff]
    refine hK14 _ _ ?_; try clear hK14 K14
    refine wp_seq_k fun K72 hK72 => ?_
    refine wp_seq_k fun K73 hK73 => ?_
    have okS : Ok [] (blkL ao10 ++ (M)) w9.heap.size := Ok.nil _ _
    have z_f1 := f1
    have z_f10 := (Own.toRSl (M' := []) f10 (Ok.nil _ _) (fun _ _ h => nomatch h))
    have z_hE6 := hE6
    have z_hn7 := hn7
    refine drw (fun w' => Chg [] w9 w') (by kernel_rfl) fun w74 hc75 _ => ?_
    have hS : Chg [] w9 w74 := (Chg.refl [] _).trans hc75 (Ok.nil _ _)
    have o1 : Ok [] (blkL ao10 ++ (M)) w9.heap.size := Ok.nil _ _
    have o2 : Ok (blkL ao10 ++ (M)) (blkL ao10 ++ (M)) w9.heap.size := (Ok.refl _ _)
    have f1 := f1.chg hc75 o1 o2
    have f10 := f10.chg hc75 o1 o2 (fun _ _ h => nomatch h) (fun _ h => ml h)
    have q_hn7 : g4 ∉ blkL ao10 ++ (M) := fun h => (o2 g4 h).elim hn7 (fun h => absurd (lt_cell (hE6 0 _ rfl)) (Nat.not_lt.2 h))
    have hE6 : ∀ j v, (cS_api_Tunnel a0 ao1 cap1)[j]? = some v → w74.cell? ⟨g4, 0 + j, none⟩ = some v := fun j v hv => (cell_keep hc75 o1 hn7 (hE6 j v hv))
    have hn7 := q_hn7
    have hM : MS (blkL ao10 ++ (M)) w74 := (hM.chg hc75)
    have hC := hC.trans hc75 (Ok.nil _ _)
    refine tkpz 0 0 (.int .u8 (6 : Int)) ha (s := hS) (q := fun a ha => ?_)
    refine tkpz 1 0 (.pointer (some ⟨g4, 0 + 3, none⟩)) ha (s := hS) (q := fun a ha => ?_)
    refine tkz 2 ha (v := .agg (cS_api_Addr a0.Root).toArray) (y := fun w' hs => ldA_run (cs := (cS_api_Addr a0.Root)) ha rfl (by kernel_rfl) (cells_sub (fun j v hv => cell_keep hs okS z_hn7 (z_hE6 j v hv)) (all := (cS_api_Tunnel a0 ao1 cap1)) [.bool a0.Leaf, .int .i64 a0.Kind, .int .i64 a0.Label] [.slice ao1 a0.Id.length cap1] (by kernel_rfl))) (s := hS) (q := fun a ha => ?_)
    refine tkpz 4 0 (.pointer (some ⟨g4, 0 + 3, none⟩)) ha (s := hS) (q := fun a ha => ?_)
    refine tkpz 5 0 (.pointer (some ⟨g4, 0 + 3, none⟩)) ha (s := hS) (q := fun a ha => ?_)
    refine tkz 6 ha (v := .int .i64 a0.Root.Size) (y := fun w' hs => ld_run ha rfl (by kernel_rfl) (cell_keep hs okS z_hn7 (z_hE6 3 (.int .i64 a0.Root.Size) (by kernel_rfl)))) (s := hS) (q := fun a ha => ?_)
    refine tkpz 7 0 (.int .u8 (IntKind.u8.wrap a0.Root.Size)) ha (s := hS) (q := fun a ha => ?_)
    refine tkpz 9 0 (.slice ao10 t9.length cap10) ha (s := hS) (q := fun a ha => ?_)
    refine ac 3 (by kernel_rfl) (by rfl) fun K76 hK76 => ?_
    obtain ⟨t77, H77, H⟩ := bind_some H
    refine cl ha (by rfl) (by kernel_rfl) (by rfl) (by rfl) (by rfl) (pmsi_family.walk w74 _ hM a0.Root _ H77) ?_
    rintro _ w77 ⟨rfl, hc77, hMn⟩ a ha
    have o1 : Ok [] (blkL ao10 ++ (M)) w74.heap.size := Ok.nil _ _
    have o2 : Ok (blkL ao10 ++ (M)) (blkL ao10 ++ (M)) w74.heap.size := (Ok.refl _ _)
    have f1 := f1.chg hc77 o1 o2
    have f10 := f10.chg hc77 o1 o2 (fun _ _ h => nomatch h) (fun _ h => ml h)
    have q_hn7 : g4 ∉ blkL ao10 ++ (M) := fun h => (o2 g4 h).elim hn7 (fun h => absurd (lt_cell (hE6 0 _ rfl)) (Nat.not_lt.2 h))
    have hE6 : ∀ j v, (cS_api_Tunnel a0 ao1 cap1)[j]? = some v → w77.cell? ⟨g4, 0 + j, none⟩ = some v := fun j v hv => (cell_keep hc77 o1 hn7 (hE6 j v hv))
    have hn7 := q_hn7
    have hM : MS (blkL ao10 ++ (M)) w77 := (hM.chg hc77)
    have hC := hC.trans hc77 (Ok.nil _ _)
    have hS := hS.trans hc77 (Ok.nil _ _)
    refine ae hK76 hS ?_; clear hK76 K76
    refine ac 8 (by kernel_rfl) (by rfl) fun K78 hK78 => ?_
    refine bsl (vals := ([.int .u8 (6 : Int), .int .u8 (0 : Int), .int .u8 t77, .int .u8 (IntKind.u8.wrap a0.Root.Size)] : List Value)) (T := 5) ha rfl (([.int .u8 (6 : Int)] : List Value) ++ (([.int .u8 (0 : Int)] : List Value) ++ (([.int .u8 t77] : List Value) ++ (([.int .u8 (IntKind.u8.wrap a0.Root.Size)] : List Value) ++ ([] : List Value))))) (fun w => by kernel_rfl) rfl rfl rfl fun a w79 g80 hN81 ha => ?_
    have o1 : Ok [] (blkL ao10 ++ (M)) w77.heap.size := Ok.nil _ _
    have o2 : Ok ([g80] ++ (blkL ao10 ++ (M))) (blkL ao10 ++ (M)) w77.heap.size := (Ok.app (hN81.ok _) (Ok.refl _ _))
    have f1 := f1.chg hN81.chg o1 o2
    have f10 := f10.chg hN81.chg o1 o2 (fun _ _ h => nomatch h) (fun _ h => mr (ml h))
    have q_hn7 : g4 ∉ [g80] ++ (blkL ao10 ++ (M)) := fun h => (o2 g4 h).elim hn7 (fun h => absurd (lt_cell (hE6 0 _ rfl)) (Nat.not_lt.2 h))
    have hE6 : ∀ j v, (cS_api_Tunnel a0 ao1 cap1)[j]? = some v → w79.cell? ⟨g4, 0 + j, none⟩ = some v := fun j v hv => (cell_keep hN81.chg o1 hn7 (hE6 j v hv))
    have hn7 := q_hn7
    have p_iD000082_i10 : ∀ x ∈ [g80], x ∉ (blkL ao10) := fun x hx hy => absurd (hM x (ml hy)) (Nat.not_lt.2 ((hN81.ge1) x hx))
    have p_iD000082_M : ∀ x ∈ [g80], x ∉ M := fun x hx hy => absurd (hM x (mr (hy))) (Nat.not_lt.2 ((hN81.ge1) x hx))
    have e_iD000082 : ∀ x ∈ [g80], w.heap.size ≤ x := fun x hx => Nat.le_trans hC.size ((hN81.ge1) x hx)
    have hM : MS ([g80] ++ (blkL ao10 ++ (M))) w79 := (MS.app hN81.ms (hM.chg hN81.chg))
    have hC := hC.trans hN81.chg (Ok.nil _ _)
    have d_iD000082 : Ok ([g80]) [] w9.heap.size := fun x hx => .inr (Nat.le_trans hS.size ((hN81.ge1) x hx))
    have hS := hS.trans hN81.chg (Ok.nil _ _)
    have f83 : Own (rInt .u8) 5 w79 ([g80] ++ (blkL ao10 ++ (M))) (some ⟨g80, 0, none⟩) 4 ([(6 : Int), (0 : Int), t77, IntKind.u8.wrap a0.Root.Size] : List Int) := hN81.own ⟨([.int .u8 (6 : Int)] : List Value), _, rfl, rfl, ⟨([.int .u8 (0 : Int)] : List Value), _, rfl, rfl, ⟨([.int .u8 t77] : List Value), _, rfl, rfl, ⟨([.int .u8 (IntKind.u8.wrap a0.Root.Size)] : List Value), _, rfl, rfl, rfl⟩⟩⟩⟩ (Nat.le_of_ble_eq_true rfl)
    refine ae hK78 hS ?_; clear hK78 K78
    refine ac 10 (by kernel_rfl) (by rfl) fun K84 hK84 => ?_
    obtain ⟨hx85, H⟩ := ite_some H
    refine app (r := (rInt .u8)) (xs := ([(6 : Int), (0 : Int), t77, IntKind.u8.wrap a0.Root.Size] : List Int)) (ys := t9) ha (ElemT.mk' (bytes := 1) (by kernel_rfl)) rfl rfl rfl rfl rfl f83 f10.src hx85 (by decide) fun a w86 ao87 cap87 hO87 hc87 hk87 hl87 ha => ?_
    have o1 : Ok [g80] ([g80] ++ (blkL ao10 ++ (M))) w79.heap.size := (fun _ h => .inl (ml h))
    have o2 : Ok (blkL ao87 ++ (blkL ao10 ++ (M))) ([g80] ++ (blkL ao10 ++ (M))) w79.heap.size := (Ok.app (Ok.to hk87 (fun _ h => ml h)) (fun _ h => .inl (mr (h))))
    have f1 := f1.chg hc87 o1 o2
    have f10 := f10.chg hc87 o1 o2 (fun x (hx : x ∈ blkL ao10) (hy : x ∈ [g80]) => p_iD000082_i10 x hy hx) (fun _ h => mr (ml h))
    have q_hn7 : g4 ∉ blkL ao87 ++ (blkL ao10 ++ (M)) := fun h => (o2 g4 h).elim hn7 (fun h => absurd (lt_cell (hE6 0 _ rfl)) (Nat.not_lt.2 h))
    have hE6 : ∀ j v, (cS_api_Tunnel a0 ao1 cap1)[j]? = some v → w86.cell? ⟨g4, 0 + j, none⟩ = some v := fun j v hv => (cell_keep hc87 o1 hn7 (hE6 j v hv))
    have hn7 := q_hn7
    have p_iD000087_i10 : ∀ x ∈ blkL ao87, x ∉ (blkL ao10) := fun x hx hy => (hk87 x hx).elim (fun h => p_iD000082_i10 x h hy) (fun h => absurd (hM x (mr (ml hy))) (Nat.not_lt.2 h))
    have p_iD000087_M : ∀ x ∈ blkL ao87, x ∉ M := fun x hx hy => (hk87 x hx).elim (fun h => p_iD000082_M x h hy) (fun h => absurd (hM x (mr (mr (hy)))) (Nat.not_lt.2 h))
    have e_iD000087 : ∀ x ∈ blkL ao87, w.heap.size ≤ x := fun x hx => (hk87 x hx).elim (e_iD000082 x) (Nat.le_trans hC.size)
    have hM : MS (blkL ao87 ++ (blkL ao10 ++ (M))) w86 := (MS.app hl87 (fun x h => hM.chg hc87 x (mr (h))))
    have hC := hC.trans hc87 (fun x h => .inr (e_iD000082 x h))
    have d_iD000087 : Ok (blkL ao87) [] w9.heap.size := fun x hx => (hk87 x hx).elim (fun h => d_iD000082 x h) (fun h => .inr (Nat.le_trans hS.size h))
    have hS := hS.trans hc87 d_iD000082
    have f87 := hO87.chg (M' := blkL ao87 ++ (blkL ao10 ++ (M))) (Chg.refl [] _) (Ok.nil _ _) (Ok.app (fun _ h => .inl (ml h)) (Ok.to (fun _ h => .inl (mr (h))) (fun _ h => mr h))) (fun _ _ h => nomatch h) (fun _ h => ml h)
    refine ae hK84 hS ?_; clear hK84 K84
    refine tkpz 11 0 (.slice ao87 (([(6 : Int), (0 : Int), t77, IntKind.u8.wrap a0.Root.Size] : List Int) ++ t9).length cap87) ha (s := hS) (q := fun a ha => ?_)
    refine dn (by kernel_rfl) ?_
    refine hK73 _ _ ?_; try clear hK73 K73
    refine wp_seq_k fun K88 hK88 => ?_
    refine wp_region_lit ?_
    refine seg ha 2 [(1, .pointer (some ⟨g4, 0, none⟩)), (43, .slice ao87 (([(6 : Int), (0 : Int), t77, IntKind.u8.wrap a0.Root.Size] : List Int) ++ t9).length cap87), (44, .pointer (some ⟨g4, 0 + 20, none⟩))] (by kernel_rfl) fun a ha => ?_
    refine ld ha rfl (by kernel_rfl) rfl rfl rfl (hE6 20 (.slice ao1 a0.Id.length cap1) (by kernel_rfl)) fun a ha => ?_
    refine seg ha 1 [(1, .pointer (some ⟨g4, 0, none⟩)), (43, .slice ao87 (([(6 : Int), (0 : Int), t77, IntKind.u8.wrap a0.Root.Size] : List Int) ++ t9).length cap87), (46, .int .i64 (a0.Id.length : Int))] (by kernel_rfl) fun a ha => ?_
    have hML : MS (blkL ao10 ++ (M)) w86 := MS.rest hM (fun _ h => (List.mem_append.1 h).elim (fun h => mr (ml h)) (fun h => mr (mr (h))))
    have oL : Ok (blkL ao10 ++ (M)) (blkL ao87 ++ (blkL ao10 ++ (M))) w86.heap.size := (fun _ h => .inl (mr (h)))
    obtain ⟨t89, H89, H⟩ := bind_some H
    refine cl ha (by rfl) (by kernel_rfl) (by rfl) (by rfl) (by rfl) (cursor_Put.walk w86 _ hML (([(6 : Int), (0 : Int), t77, IntKind.u8.wrap a0.Root.Size] : List Int) ++ t9) ao87 cap87 (Own.toRSl (M' := blkL ao10 ++ (M)) f87 oL (fun x hx hm => (List.mem_append.1 hm).elim (fun h => p_iD000087_i10 x hx h) (fun h => p_iD000087_M x hx h))) (a0.Id.length : Int) (2 : Int) k _ H89) ?_
    rintro _ w89 ⟨ao90, cap90, rfl, f90, ne_i90, hc89, hMn⟩ a ha
    have o1 : Ok [] (blkL ao87 ++ (blkL ao10 ++ (M))) w86.heap.size := Ok.nil _ _
    have o2 : Ok (blkL ao90 ++ (blkL ao87 ++ (blkL ao10 ++ (M)))) (blkL ao87 ++ (blkL ao10 ++ (M))) w86.heap.size := (Ok.app (fun x h => .inr (ne_i90 x h)) (Ok.refl _ _))
    have f1 := f1.chg hc89 o1 o2
    have f87 := f87.chg hc89 o1 o2 (fun _ _ h => nomatch h) (fun _ h => mr (ml h))
    have q_hn7 : g4 ∉ blkL ao90 ++ (blkL ao87 ++ (blkL ao10 ++ (M))) := fun h => (o2 g4 h).elim hn7 (fun h => absurd (lt_cell (hE6 0 _ rfl)) (Nat.not_lt.2 h))
    have hE6 : ∀ j v, (cS_api_Tunnel a0 ao1 cap1)[j]? = some v → w89.cell? ⟨g4, 0 + j, none⟩ = some v := fun j v hv => (cell_keep hc89 o1 hn7 (hE6 j v hv))
    have hn7 := q_hn7
    have p_i90_iD000087 : ∀ x ∈ blkL ao90, x ∉ (blkL ao87) := fun x hx hy => absurd (hM x (ml hy)) (Nat.not_lt.2 (ne_i90 x hx))
    have p_i90_i10 : ∀ x ∈ blkL ao90, x ∉ (blkL ao10) := fun x hx hy => absurd (hM x (mr (ml hy))) (Nat.not_lt.2 (ne_i90 x hx))
    have p_i90_M : ∀ x ∈ blkL ao90, x ∉ M := fun x hx hy => absurd (hM x (mr (mr (hy)))) (Nat.not_lt.2 (ne_i90 x hx))
    have e_i90 : ∀ x ∈ blkL ao90, w.heap.size ≤ x := fun x hx => Nat.le_trans hC.size (ne_i90 x hx)
    have hM : MS (blkL ao90 ++ (blkL ao87 ++ (blkL ao10 ++ (M)))) w89 := (MS.app (fun x h => hMn x (ml h)) (hM.chg hc89))
    have hC := hC.trans hc89 (Ok.nil _ _)
    have f90 := Own.re (M' := blkL ao90 ++ (blkL ao87 ++ (blkL ao10 ++ (M)))) (fun _ _ _ _ _ h => h) f90 (fun _ h => ml h)
    refine seg ha 4 [(1, .pointer (some ⟨g4, 0, none⟩)), (6, .slice ao90 t89.1.length cap90)] (by kernel_rfl) fun a ha => ?_
    refine hK88 _ _ ?_; try clear hK88 K88
    refine wp_seq_k fun K91 hK91 => ?_
    refine wp_region_lit ?_
    refine seg ha 2 [(50, .slice ao90 t89.1.length cap90), (51, .pointer (some ⟨g4, 0 + 20, none⟩))] (by kernel_rfl) fun a ha => ?_
    refine ld ha rfl (by kernel_rfl) rfl rfl rfl (hE6 20 (.slice ao1 a0.Id.length cap1) (by kernel_rfl)) fun a ha => ?_
    obtain ⟨hx92, H⟩ := ite_some H
    refine app (r := (rInt .u8)) (xs := t89.1) (ys := a0.Id) ha (ElemT.mk' (bytes := 1) (by kernel_rfl)) rfl rfl rfl rfl rfl f90 f1.src hx92 (by decide) fun a w93 ao94 cap94 hO94 hc94 hk94 hl94 ha => ?_
    have o1 : Ok (blkL ao90) (blkL ao90 ++ (blkL ao87 ++ (blkL ao10 ++ (M)))) w89.heap.size := (fun _ h => .inl (ml h))
    have o2 : Ok (blkL ao94 ++ (blkL ao87 ++ (blkL ao10 ++ (M)))) (blkL ao90 ++ (blkL ao87 ++ (blkL ao10 ++ (M)))) w89.heap.size := (Ok.app (Ok.to hk94 (fun _ h => ml h)) (fun _ h => .inl (mr (h))))
    have f1 := f1.chg hc94 o1 o2
    have p_i94_iD000087 : ∀ x ∈ blkL ao94, x ∉ (blkL ao87) := fun x hx hy => (hk94 x hx).elim (fun h => p_i90_iD000087 x h hy) (fun h => absurd (hM x (mr (ml hy))) (Nat.not_lt.2 h))
    have p_i94_i10 : ∀ x ∈ blkL ao94, x ∉ (blkL ao10) := fun x hx hy => (hk94 x hx).elim (fun h => p_i90_i10 x h hy) (fun h => absurd (hM x (mr (mr (ml hy)))) (Nat.not_lt.2 h))
    have p_i94_M : ∀ x ∈ blkL ao94, x ∉ M := fun x hx hy => (hk94 x hx).elim (fun h => p_i90_M x h hy) (fun h => absurd (hM x (mr (mr (mr (hy))))) (Nat.not_lt.2 h))
    have e_i94 : ∀ x ∈ blkL ao94, w.heap.size ≤ x := fun x hx => (hk94 x hx).elim (e_i90 x) (Nat.le_trans hC.size)
    have hM : MS (blkL ao94 ++ (blkL ao87 ++ (blkL ao10 ++ (M)))) w93 := (MS.app hl94 (fun x h => hM.chg hc94 x (mr (h))))
    have hC := hC.trans hc94 (fun x h => .inr (e_i90 x h))
    have f94 := hO94.chg (M' := blkL ao94 ++ (blkL ao87 ++ (blkL ao10 ++ (M)))) (Chg.refl [] _) (Ok.nil _ _) (Ok.app (fun _ h => .inl (ml h)) (Ok.to (fun _ h => .inl (mr (h))) (fun _ h => mr h))) (fun _ _ h => nomatch h) (fun _ h => ml h)
    refine seg ha 1 [(2, .slice ao94 (t89.1 ++ a0.Id).length cap94)] (by kernel_rfl) fun a ha => ?_
    refine hK91 _ _ ?_; try clear hK91 K91
    refine wp_ret ?_
    try simp only [Exit.then, Exit.inBlock]
    have o1 : Ok [] (blkL ao94 ++ (blkL ao87 ++ (blkL ao10 ++ (M)))) w93.heap.size := Ok.nil _ _
    have o2 : Ok (blkL ao94 ++ (M)) (blkL ao94 ++ (blkL ao87 ++ (blkL ao10 ++ (M)))) w93.heap.size := (Ok.app (fun _ h => .inl (ml h)) (fun _ h => .inl (mr (mr (mr (h))))))
    have f94 := f94.chg (Chg.refl [] _) o1 o2 (fun _ _ h => nomatch h) (fun _ h => ml h)
    have hM : MS (blkL ao94 ++ (M)) w93 := (MS.app (fun x h => hM.chg (Chg.refl [] _) x (ml h)) (fun x h => hM.chg (Chg.refl [] _) x (mr (mr (mr (h))))))
    have hC := hC.trans (Chg.refl [] _) (Ok.nil _ _)
    obtain rfl := Option.some.inj H
    refine rt1 ha rfl rfl ?_
    exact ⟨ao94, cap94, rfl, f94, e_i94, hC, hM⟩
   ·have H := ite_f hc71 H
    refine wp_skip ?_
    refine hK17 _ _ ?_; try clear hK17 K17
    refine wp_exit ?_
    simp only [Exit.then, Exit.inBlock, ↓reduceIte, Nat.reduceEqDiff]
    refine hK12 _ _ ?_; try clear hK12 K12
    refine wp_seq_k fun K95 hK95 => ?_
    refine wp_region_lit ?_
    refine seg ha 2 [(54, .slice ao10 t9.length cap10), (55, .pointer (some ⟨g4, 0 + 20, none⟩))] (by kernel_rfl) fun a ha => ?_
    refine ld ha rfl (by kernel_rfl) rfl rfl rfl (hE6 20 (.slice ao1 a0.Id.length cap1) (by kernel_rfl)) fun a ha => ?_
    obtain ⟨hx96, H⟩ := ite_some H
    refine app (r := (rInt .u8)) (xs := t9) (ys := a0.Id) ha (ElemT.mk' (bytes := 1) (by kernel_rfl)) rfl rfl rfl rfl rfl f10 f1.src hx96 (by decide) fun a w97 ao98 cap98 hO98 hc98 hk98 hl98 ha => ?_
    have o1 : Ok (blkL ao10) (blkL ao10 ++ (M)) w9.heap.size := (fun _ h => .inl (ml h))
    have o2 : Ok (blkL ao98 ++ (M)) (blkL ao10 ++ (M)) w9.heap.size := (Ok.app (Ok.to hk98 (fun _ h => ml h)) (fun _ h => .inl (mr (h))))
    have f1 := f1.chg hc98 o1 o2
    have p_i98_M : ∀ x ∈ blkL ao98, x ∉ M := fun x hx hy => (hk98 x hx).elim (fun h => p_i10_M x h hy) (fun h => absurd (hM x (mr (hy))) (Nat.not_lt.2 h))
    have e_i98 : ∀ x ∈ blkL ao98, w.heap.size ≤ x := fun x hx => (hk98 x hx).elim (e_i10 x) (Nat.le_trans hC.size)
    have hM : MS (blkL ao98 ++ (M)) w97 := (MS.app hl98 (fun x h => hM.chg hc98 x (mr (h))))
    have hC := hC.trans hc98 (fun x h => .inr (e_i10 x h))
    have f98 := hO98.chg (M' := blkL ao98 ++ (M)) (Chg.refl [] _) (Ok.nil _ _) (Ok.app (fun _ h => .inl (ml h)) (Ok.to (fun _ h => .inl (mr (h))) (fun _ h => mr h))) (fun _ _ h => nomatch h) (fun _ h => ml h)
    refine seg ha 1 [(2, .slice ao98 (t9 ++ a0.Id).length cap98)] (by kernel_rfl) fun a ha => ?_
    refine hK95 _ _ ?_; try clear hK95 K95
    refine wp_ret ?_
    try simp only [Exit.then, Exit.inBlock]
    obtain rfl := Option.some.inj H
    refine rt1 ha rfl rfl ?_
    exact ⟨ao98, cap98, rfl, f98, e_i98, hC, hM⟩
def pmsi_Bytes.f (k : Nat) (a0 : S_api_Tunnel) : Option (List Int × Int) := (pmsi_Right.f k a0).bind fun t10 => (if (!t10) = true then some ((([] : List Int) : List Int), ((1 : Int) : Int)) else ((if a0.Leaf = true then some ((1 : Int) : Int) else some ((0 : Int) : Int))).bind fun s16 => (label_Bytes.f k a0.Label false).bind fun t18 => (if (([s16, IntKind.u8.wrap a0.Kind] : List Int).length + t18.1.length) * 1 ≤ 140737488355328 then (pmsi_identifier.f k a0).bind fun t34 => (if ((([s16, IntKind.u8.wrap a0.Kind] : List Int) ++ t18.1).length + t34.length) * 1 ≤ 140737488355328 then some ((((([s16, IntKind.u8.wrap a0.Kind] : List Int) ++ t18.1) ++ t34) : List Int), ((0 : Int) : Int)) else none) else none))
set_option maxRecDepth 100000 in
theorem pmsi_Bytes.walk (w : World) (M : List Nat) (hM : MS M w) (a0 : S_api_Tunnel) (ao1 : Option Addr) (cap1 : Nat) (f1 : RSl (rInt .u8) 5 w M ao1 cap1 a0.Id) (k : Nat) (r : List Int × Int) (H : pmsi_Bytes.f k a0 = some r) :
    To Tryd.prog 14 [.agg (cS_api_Tunnel a0 ao1 cap1).toArray] w fun v w' => ∃ (ao42 : Option Addr) (cap42 : Nat), v = .tuple #[.slice ao42 r.1.length cap42, .int .i64 r.2] ∧ (Own (rInt .u8) 5 w' (blkL ao42 ++ (M)) ao42 cap42 r.1) ∧ (∀ x ∈ blkL ao42, w.heap.size ≤ x) ∧ Chg [] w w' ∧ MS (blkL ao42 ++ (M)) w' := by
 unfold pmsi_Bytes.f at H
 refine ent Tryd.func14 rfl [(0, .agg (cS_api_Tunnel a0 ao1 cap1).toArray)] rfl (by rfl) fun a ha => ?_
 have hC : Chg [] w w := Chg.refl _ _
 refine wp_seq_k fun K2 hK2 => ?_
 refine wp_region_lit ?_
 refine bx (cs := (cS_api_Tunnel a0 ao1 cap1)) ha rfl rfl rfl rfl rfl fun a w3 g4 hN5 ha => ?_
 have hn7 := hN5.notin hM
 have o1 : Ok [] (M) w.heap.size := Ok.nil _ _
 have o2 : Ok (M) (M) w.heap.size := (Ok.refl _ _)
 have f1 := f1.chg hN5.chg o1 o2
 have hM : MS (M) w3 := (hM.chg hN5.chg)
 have hC := hC.trans hN5.chg (Ok.nil _ _)
 have hE6 : ∀ j v, (cS_api_Tunnel a0 ao1 cap1)[j]? = some v → w3.cell? ⟨g4, 0 + j, none⟩ = some v := Box.cells (New.box hN5)
 refine seg ha 2 [(1, .pointer (some ⟨g4, 0, none⟩))] (by kernel_rfl) fun a ha => ?_
 refine hK2 _ _ ?_; try clear hK2 K2
 refine wp_seq_k fun K8 hK8 => ?_
 refine wp_seq_k fun K9 hK9 => ?_
 refine wp_region_lit ?_
 refine ldA (cs := (cS_api_Tunnel a0 ao1 cap1)) ha rfl (by kernel_rfl) rfl rfl rfl (cells_sub hE6 (all := (cS_api_Tunnel a0 ao1 cap1)) [] [] (by kernel_rfl)) fun a ha => ?_
 obtain ⟨t10, H10, H⟩ := bind_some H
 refine cl ha (by rfl) (by kernel_rfl) (by rfl) (by rfl) (by rfl) (pmsi_Right.walk w3 _ hM a0 ao1 cap1 f1 k _ H10) ?_
 rintro _ w10 ⟨rfl, hc10, hMn⟩ a ha
 have o1 : Ok [] (M) w3.heap.size := Ok.nil _ _
 have o2 : Ok (M) (M) w3.heap.size := (Ok.refl _ _)
 have f1 := f1.chg hc10 o1 o2
 have q_hn7 : g4 ∉ M := fun h => (o2 g4 h).elim hn7 (fun h => absurd (lt_cell (hE6 0 _ rfl)) (Nat.not_lt.2 h))
 have hE6 : ∀ j v, (cS_api_Tunnel a0 ao1 cap1)[j]? = some v → w10.cell? ⟨g4, 0 + j, none⟩ = some v := fun j v hv => (cell_keep hc10 o1 hn7 (hE6 j v hv))
 have hn7 := q_hn7
 have hM : MS (M) w10 := (hM.chg hc10)
 have hC := hC.trans hc10 (Ok.nil _ _)
 refine seg ha 1 [(1, .pointer (some ⟨g4, 0, none⟩)), (9, .bool (!t10))] (by kernel_rfl) fun a ha => ?_
 refine hK9 _ _ ?_; try clear hK9 K9
 refine cnd ha rfl (fun hc11 => ?_) (fun hc11 => ?_)
 ·have H := ite_t hc11 H
  refine wp_seq_k fun K12 hK12 => ?_
  refine wp_region_lit ?_
  refine seg ha 2 [(2, .slice none 0 0), (3, .int .i64 (1 : Int))] (by kernel_rfl) fun a ha => ?_
  refine hK12 _ _ ?_; try clear hK12 K12
  refine wp_ret ?_
  try simp only [Exit.then, Exit.inBlock]
  have p_z13_M : ∀ x ∈ blkL none, x ∉ M := fun x hx hy => absurd (hM x (hy)) (Nat.not_lt.2 ((fun _ h => nomatch h) x hx))
  have e_z13 : ∀ x ∈ blkL none, w.heap.size ≤ x := fun x hx => Nat.le_trans hC.size ((fun _ h => nomatch h) x hx)
  have hM : MS (blkL none ++ (M)) w10 := (MS.app (fun _ h => nomatch h) (hM.chg (Chg.refl [] _)))
  have hC := hC.trans (Chg.refl [] _) (Ok.nil _ _)
  obtain rfl := Option.some.inj H
  refine rt2 ha rfl rfl rfl ?_
  exact ⟨none, 0, rfl, Own.nil, e_z13, hC, hM⟩
 ·have H := ite_f hc11 H
  refine wp_skip ?_
  refine hK8 _ _ ?_; try clear hK8 K8
  refine wp_seq_k fun K14 hK14 => ?_
  refine wp_region_lit ?_
  refine seg ha 1 [(1, .pointer (some ⟨g4, 0, none⟩)), (4, .int .u8 (0 : Int))] (by kernel_rfl) fun a ha => ?_
  refine hK14 _ _ ?_; try clear hK14 K14
  refine wp_seq_k fun K15 hK15 => ?_
  obtain ⟨s16, H16, H⟩ := bind_some H
  have J16 : ∀ (a : Act) (w16 : World), Has a Tryd.f14.ntmps [(1, .pointer (some ⟨g4, 0, none⟩)), (4, .int .u8 s16)] → (RSl (rInt .u8) 5 w16 (M) ao1 cap1 a0.Id) → (∀ j v, (cS_api_Tunnel a0 ao1 cap1)[j]? = some v → w16.cell? ⟨g4, 0 + j, none⟩ = some v) → (g4 ∉ (M)) → (Chg [] w w16) → (MS (M) w16) → K15 a w16 := by
   intro a w16 ha f1 hE6 hn7 hC hM
   refine hK15 _ _ ?_; try clear hK15 K15
   refine wp_seq_k fun K17 hK17 => ?_
   refine wp_region_lit ?_
   refine seg ha 1 [(1, .pointer (some ⟨g4, 0, none⟩)), (4, .int .u8 s16), (13, .pointer (some ⟨g4, 0 + 2, none⟩))] (by kernel_rfl) fun a ha => ?_
   refine ld ha rfl (by kernel_rfl) rfl rfl rfl (hE6 2 (.int .i64 a0.Label) (by kernel_rfl)) fun a ha => ?_
   obtain ⟨t18, H18, H⟩ := bind_some H
   refine cl ha (by rfl) (by kernel_rfl) (by rfl) (by rfl) (by rfl) (label_Bytes.walk w16 _ hM a0.Label false k _ H18) ?_
   rintro _ w18 ⟨ao19, cap19, rfl, f19, ne_i19, hc18, hMn⟩ a ha
   have o1 : Ok [] (M) w16.heap.size := Ok.nil _ _
   have o2 : Ok (blkL ao19 ++ (M)) (M) w16.heap.size := (Ok.app (fun x h => .inr (ne_i19 x h)) (Ok.refl _ _))
   have f1 := f1.chg hc18 o1 o2
   have q_hn7 : g4 ∉ blkL ao19 ++ (M) := fun h => (o2 g4 h).elim hn7 (fun h => absurd (lt_cell (hE6 0 _ rfl)) (Nat.not_lt.2 h))
   have hE6 : ∀ j v, (cS_api_Tunnel a0 ao1 cap1)[j]? = some v → w18.cell? ⟨g4, 0 + j, none⟩ = some v := fun j v hv => (cell_keep hc18 o1 hn7 (hE6 j v hv))
   have hn7 := q_hn7
   have p_i19_M : ∀ x ∈ blkL ao19, x ∉ M := fun x hx hy => absurd (hM x (hy)) (Nat.not_lt.2 (ne_i19 x hx))
   have e_i19 : ∀ x ∈ blkL ao19, w.heap.size ≤ x := fun x hx => Nat.le_trans hC.size (ne_i19 x hx)
   have hM : MS (blkL ao19 ++ (M)) w18 := (MS.app (fun x h => hMn x (ml h)) (hM.chg hc18))
   have hC := hC.trans hc18 (Ok.nil _ _)
   refine seg ha 5 [(1, .pointer (some ⟨g4, 0, none⟩)), (4, .int .u8 s16), (5, .slice ao19 t18.1.length cap19)] (by kernel_rfl) fun a ha => ?_
   refine hK17 _ _ ?_; try clear hK17 K17
   refine wp_seq_k fun K20 hK20 => ?_
   have okS : Ok [] (blkL ao19 ++ (M)) w18.heap.size := Ok.nil _ _
   have z_f1 := f1
   have z_f19 := (Own.toRSl (M' := []) f19 (Ok.nil _ _) (fun _ _ h => nomatch h))
   have z_hE6 := hE6
   have z_hn7 := hn7
   refine drw (fun w' => Chg [] w18 w') (by kernel_rfl) fun w21 hc22 _ => ?_
   have hS : Chg [] w18 w21 := (Chg.refl [] _).trans hc22 (Ok.nil _ _)
   have o1 : Ok [] (blkL ao19 ++ (M)) w18.heap.size := Ok.nil _ _
   have o2 : Ok (blkL ao19 ++ (M)) (blkL ao19 ++ (M)) w18.heap.size := (Ok.refl _ _)
   have f1 := f1.chg hc22 o1 o2
   have f19 := f19.chg hc22 o1 o2 (fun _ _ h => nomatch h) (fun _ h => ml h)
   have q_hn7 : g4 ∉ blkL ao19 ++ (M) := fun h => (o2 g4 h).elim hn7 (fun h => absurd (lt_cell (hE6 0 _ rfl)) (Nat.not_lt.2 h))
   have hE6 : ∀ j v, (cS_api_Tunnel a0 ao1 cap1)[j]? = some v → w21.cell? ⟨g4, 0 + j, none⟩ = some v := fun j v hv => (cell_keep hc22 o1 hn7 (hE6 j v hv))
   have hn7 := q_hn7
   have hM : MS (blkL ao19 ++ (M)) w21 := (hM.chg hc22)
   have hC := hC.trans hc22 (Ok.nil _ _)
   refine tkpz 0 0 (.int .u8 s16) ha (s := hS) (q := fun a ha => ?_)
   refine tkpz 1 0 (.pointer (some ⟨g4, 0 + 1, none⟩)) ha (s := hS) (q := fun a ha => ?_)
   refine tkz 2 ha (v := .int .i64 a0.Kind) (y := fun w' hs => ld_run ha rfl (by kernel_rfl) (cell_keep hs okS z_hn7 (z_hE6 1 (.int .i64 a0.Kind) (by kernel_rfl)))) (s := hS) (q := fun a ha => ?_)
   refine tkpz 3 0 (.int .u8 (IntKind.u8.wrap a0.Kind)) ha (s := hS) (q := fun a ha => ?_)
   refine tkpz 5 0 (.slice ao19 t18.1.length cap19) ha (s := hS) (q := fun a ha => ?_)
   refine tkz 7 ha (v := .agg (cS_api_Tunnel a0 ao1 cap1).toArray) (y := fun w' hs => ldA_run (cs := (cS_api_Tunnel a0 ao1 cap1)) ha rfl (by kernel_rfl) (cells_sub (fun j v hv => cell_keep hs okS z_hn7 (z_hE6 j v hv)) (all := (cS_api_Tunnel a0 ao1 cap1)) [] [] (by kernel_rfl))) (s := hS) (q := fun a ha => ?_)
   refine ac 4 (by kernel_rfl) (by rfl) fun K23 hK23 => ?_
   refine bsl (vals := ([.int .u8 s16, .int .u8 (IntKind.u8.wrap a0.Kind)] : List Value)) (T := 5) ha rfl (([.int .u8 s16] : List Value) ++ (([.int .u8 (IntKind.u8.wrap a0.Kind)] : List Value) ++ ([] : List Value))) (fun w => by kernel_rfl) rfl rfl rfl fun a w24 g25 hN26 ha => ?_
   have o1 : Ok [] (blkL ao19 ++ (M)) w21.heap.size := Ok.nil _ _
   have o2 : Ok ([g25] ++ (blkL ao19 ++ (M))) (blkL ao19 ++ (M)) w21.heap.size := (Ok.app (hN26.ok _) (Ok.refl _ _))
   have f1 := f1.chg hN26.chg o1 o2
   have f19 := f19.chg hN26.chg o1 o2 (fun _ _ h => nomatch h) (fun _ h => mr (ml h))
   have q_hn7 : g4 ∉ [g25] ++ (blkL ao19 ++ (M)) := fun h => (o2 g4 h).elim hn7 (fun h => absurd (lt_cell (hE6 0 _ rfl)) (Nat.not_lt.2 h))
   have hE6 : ∀ j v, (cS_api_Tunnel a0 ao1 cap1)[j]? = some v → w24.cell? ⟨g4, 0 + j, none⟩ = some v := fun j v hv => (cell_keep hN26.chg o1 hn7 (hE6 j v hv))
   have hn7 := q_hn7
   have p_iD000027_i19 : ∀ x ∈ [g25], x ∉ (blkL ao19) := fun x hx hy => absurd (hM x (ml hy)) (Nat.not_lt.2 ((hN26.ge1) x hx))
   have p_iD000027_M : ∀ x ∈ [g25], x ∉ M := fun x hx hy => absurd (hM x (mr (hy))) (Nat.not_lt.2 ((hN26.ge1) x hx))
   have e_iD000027 : ∀ x ∈ [g25], w.heap.size ≤ x := fun x hx => Nat.le_trans hC.size ((hN26.ge1) x hx)
   have hM : MS ([g25] ++ (blkL ao19 ++ (M))) w24 := (MS.app hN26.ms (hM.chg hN26.chg))
   have hC := hC.trans hN26.chg (Ok.nil _ _)
   have d_iD000027 : Ok ([g25]) [] w18.heap.size := fun x hx => .inr (Nat.le_trans hS.size ((hN26.ge1) x hx))
   have hS := hS.trans hN26.chg (Ok.nil _ _)
   have f28 : Own (rInt .u8) 5 w24 ([g25] ++ (blkL ao19 ++ (M))) (some ⟨g25, 0, none⟩) 2 ([s16, IntKind.u8.wrap a0.Kind] : List Int) := hN26.own ⟨([.int .u8 s16] : List Value), _, rfl, rfl, ⟨([.int .u8 (IntKind.u8.wrap a0.Kind)] : List Value), _, rfl, rfl, rfl⟩⟩ (Nat.le_of_ble_eq_true rfl)
   refine ae hK23 hS ?_; clear hK23 K23
   refine ac 6 (by kernel_rfl) (by rfl) fun K29 hK29 => ?_
   obtain ⟨hx30, H⟩ := ite_some H
   refine app (r := (rInt .u8)) (xs := ([s16, IntKind.u8.wrap a0.Kind] : List Int)) (ys := t18.1) ha (ElemT.mk' (bytes := 1) (by kernel_rfl)) rfl rfl rfl rfl rfl f28 f19.src hx30 (by decide) fun a w31 ao32 cap32 hO32 hc32 hk32 hl32 ha => ?_
   have o1 : Ok [g25] ([g25] ++ (blkL ao19 ++ (M))) w24.heap.size := (fun _ h => .inl (ml h))
   have o2 : Ok (blkL ao32 ++ (blkL ao19 ++ (M))) ([g25] ++ (blkL ao19 ++ (M))) w24.heap.size := (Ok.app (Ok.to hk32 (fun _ h => ml h)) (fun _ h => .inl (mr (h))))
   have f1 := f1.chg hc32 o1 o2
   have f19 := f19.chg hc32 o1 o2 (fun x (hx : x ∈ blkL ao19) (hy : x ∈ [g25]) => p_iD000027_i19 x hy hx) (fun _ h => mr (ml h))
   have q_hn7 : g4 ∉ blkL ao32 ++ (blkL ao19 ++ (M)) := fun h => (o2 g4 h).elim hn7 (fun h => absurd (lt_cell (hE6 0 _ rfl)) (Nat.not_lt.2 h))
   have hE6 : ∀ j v, (cS_api_Tunnel a0 ao1 cap1)[j]? = some v → w31.cell? ⟨g4, 0 + j, none⟩ = some v := fun j v hv => (cell_keep hc32 o1 hn7 (hE6 j v hv))
   have hn7 := q_hn7
   have p_iD000032_i19 : ∀ x ∈ blkL ao32, x ∉ (blkL ao19) := fun x hx hy => (hk32 x hx).elim (fun h => p_iD000027_i19 x h hy) (fun h => absurd (hM x (mr (ml hy))) (Nat.not_lt.2 h))
   have p_iD000032_M : ∀ x ∈ blkL ao32, x ∉ M := fun x hx hy => (hk32 x hx).elim (fun h => p_iD000027_M x h hy) (fun h => absurd (hM x (mr (mr (hy)))) (Nat.not_lt.2 h))
   have e_iD000032 : ∀ x ∈ blkL ao32, w.heap.size ≤ x := fun x hx => (hk32 x hx).elim (e_iD000027 x) (Nat.le_trans hC.size)
   have hM : MS (blkL ao32 ++ (blkL ao19 ++ (M))) w31 := (MS.app hl32 (fun x h => hM.chg hc32 x (mr (h))))
   have hC := hC.trans hc32 (fun x h => .inr (e_iD000027 x h))
   have d_iD000032 : Ok (blkL ao32) [] w18.heap.size := fun x hx => (hk32 x hx).elim (fun h => d_iD000027 x h) (fun h => .inr (Nat.le_trans hS.size h))
   have hS := hS.trans hc32 d_iD000027
   have f32 := hO32.chg (M' := blkL ao32 ++ (blkL ao19 ++ (M))) (Chg.refl [] _) (Ok.nil _ _) (Ok.app (fun _ h => .inl (ml h)) (Ok.to (fun _ h => .inl (mr (h))) (fun _ h => mr h))) (fun _ _ h => nomatch h) (fun _ h => ml h)
   refine ae hK29 hS ?_; clear hK29 K29
   refine ac 8 (by kernel_rfl) (by rfl) fun K33 hK33 => ?_
   obtain ⟨t34, H34, H⟩ := bind_some H
   refine cl ha (by rfl) (by kernel_rfl) (by rfl) (by rfl) (by rfl) (pmsi_identifier.walk w31 _ hM a0 ao1 cap1 f1 k _ H34) ?_
   rintro _ w34 ⟨ao35, cap35, rfl, f35, ne_iD000035, hc34, hMn⟩ a ha
   have o1 : Ok [] (blkL ao32 ++ (blkL ao19 ++ (M))) w31.heap.size := Ok.nil _ _
   have o2 : Ok (blkL ao35 ++ (blkL ao32 ++ (blkL ao19 ++ (M)))) (blkL ao32 ++ (blkL ao19 ++ (M))) w31.heap.size := (Ok.app (fun x h => .inr (ne_iD000035 x h)) (Ok.refl _ _))
   have f1 := f1.chg hc34 o1 o2
   have f19 := f19.chg hc34 o1 o2 (fun _ _ h => nomatch h) (fun _ h => mr (mr (ml h)))
   have f32 := f32.chg hc34 o1 o2 (fun _ _ h => nomatch h) (fun _ h => mr (ml h))
   have q_hn7 : g4 ∉ blkL ao35 ++ (blkL ao32 ++ (blkL ao19 ++ (M))) := fun h => (o2 g4 h).elim hn7 (fun h => absurd (lt_cell (hE6 0 _ rfl)) (Nat.not_lt.2 h))
   have hE6 : ∀ j v, (cS_api_Tunnel a0 ao1 cap1)[j]? = some v → w34.cell? ⟨g4, 0 + j, none⟩ = some v := fun j v hv => (cell_keep hc34 o1 hn7 (hE6 j v hv))
   have hn7 := q_hn7
   have p_iD000035_iD000032 : ∀ x ∈ blkL ao35, x ∉ (blkL ao32) := fun x hx hy => absurd (hM x (ml hy)) (Nat.not_lt.2 (ne_iD000035 x hx))
   have p_iD000035_i19 : ∀ x ∈ blkL ao35, x ∉ (blkL ao19) := fun x hx hy => absurd (hM x (mr (ml hy))) (Nat.not_lt.2 (ne_iD000035 x hx))
   have p_iD000035_M : ∀ x ∈ blkL ao35, x ∉ M := fun x hx hy => absurd (hM x (mr (mr (hy)))) (Nat.not_lt.2 (ne_iD000035 x hx))
   have e_iD000035 : ∀ x ∈ blkL ao35, w.heap.size ≤ x := fun x hx => Nat.le_trans hC.size (ne_iD000035 x hx)
   have hM : MS (blkL ao35 ++ (blkL ao32 ++ (blkL ao19 ++ (M)))) w34 := (MS.app (fun x h => hMn x (ml h)) (hM.chg hc34))
   have hC := hC.trans hc34 (Ok.nil _ _)
   have d_iD000035 : Ok (blkL ao35) [] w18.heap.size := fun x hx => .inr (Nat.le_trans hS.size (ne_iD000035 x hx))
   have hS := hS.trans hc34 (Ok.nil _ _)
   refine ae hK33 hS ?_; clear hK33 K33
   refine ac 9 (by kernel_rfl) (by rfl) fun K36 hK36 => ?_
   obtain ⟨hx37, H⟩ := ite_some H
   refine app (r := (rInt .u8)) (xs := (([s16, IntKind.u8.wrap a0.Kind] : List Int) ++ t18.1)) (ys := t34) ha (ElemT.mk' (bytes := 1) (by kernel_rfl)) rfl rfl rfl rfl rfl f32 f35.src hx37 (by decide) fun a w38 ao39 cap39 hO39 hc39 hk39 hl39 ha => ?_
   have o1 : Ok (blkL ao32) (blkL ao35 ++ (blkL ao32 ++ (blkL ao19 ++ (M)))) w34.heap.size := (fun _ h => .inl (mr (ml h)))
   have o2 : Ok (blkL ao39 ++ (blkL ao35 ++ (blkL ao19 ++ (M)))) (blkL ao35 ++ (blkL ao32 ++ (blkL ao19 ++ (M)))) w34.heap.size := (Ok.app (Ok.to hk39 (fun _ h => mr (ml h))) (Ok.app (fun _ h => .inl (ml h)) (fun _ h => .inl (mr (mr (h))))))
   have f1 := f1.chg hc39 o1 o2
   have f19 := f19.chg hc39 o1 o2 (fun x (hx : x ∈ blkL ao19) (hy : x ∈ blkL ao32) => p_iD000032_i19 x hy hx) (fun _ h => mr (mr (ml h)))
   have f35 := f35.chg hc39 o1 o2 p_iD000035_iD000032 (fun _ h => mr (ml h))
   have q_hn7 : g4 ∉ blkL ao39 ++ (blkL ao35 ++ (blkL ao19 ++ (M))) := fun h => (o2 g4 h).elim hn7 (fun h => absurd (lt_cell (hE6 0 _ rfl)) (Nat.not_lt.2 h))
   have hE6 : ∀ j v, (cS_api_Tunnel a0 ao1 cap1)[j]? = some v → w38.cell? ⟨g4, 0 + j, none⟩ = some v := fun j v hv => (cell_keep hc39 o1 hn7 (hE6 j v hv))
   have hn7 := q_hn7
   have p_iD000039_iD000035 : ∀ x ∈ blkL ao39, x ∉ (blkL ao35) := fun x hx hy => (hk39 x hx).elim (fun h => (fun x hx hy => p_iD000035_iD000032 x hy hx) x h hy) (fun h => absurd (hM x (ml hy)) (Nat.not_lt.2 h))
   have p_iD000039_i19 : ∀ x ∈ blkL ao39, x ∉ (blkL ao19) := fun x hx hy => (hk39 x hx).elim (fun h => p_iD000032_i19 x h hy) (fun h => absurd (hM x (mr (mr (ml hy)))) (Nat.not_lt.2 h))
   have p_iD000039_M : ∀ x ∈ blkL ao39, x ∉ M := fun x hx hy => (hk39 x hx).elim (fun h => p_iD000032_M x h hy) (fun h => absurd (hM x (mr (mr (mr (hy))))) (Nat.not_lt.2 h))
   have e_iD000039 : ∀ x ∈ blkL ao39, w.heap.size ≤ x := fun x hx => (hk39 x hx).elim (e_iD000032 x) (Nat.le_trans hC.size)
   have hM : MS (blkL ao39 ++ (blkL ao35 ++ (blkL ao19 ++ (M)))) w38 := (MS.app hl39 (MS.app (fun x h => hM.chg hc39 x (ml h)) (fun x h => hM.chg hc39 x (mr (mr (h))))))
   have hC := hC.trans hc39 (fun x h => .inr (e_iD000032 x h))
   have d_iD000039 : Ok (blkL ao39) [] w18.heap.size := fun x hx => (hk39 x hx).elim (fun h => d_iD000032 x h) (fun h => .inr (Nat.le_trans hS.size h))
   have hS := hS.trans hc39 d_iD000032
   have f39 := hO39.chg (M' := blkL ao39 ++ (blkL ao35 ++ (blkL ao19 ++ (M)))) (Chg.refl [] _) (Ok.nil _ _) (Ok.app (fun _ h => .inl (ml h)) (Ok.to (Ok.app (fun _ h => .inl (ml h)) (fun _ h => .inl (mr (mr (h))))) (fun _ h => mr h))) (fun _ _ h => nomatch h) (fun _ h => ml h)
   refine ae hK36 hS ?_; clear hK36 K36
   refine tkpz 10 0 (.slice ao39 ((([s16, IntKind.u8.wrap a0.Kind] : List Int) ++ t18.1) ++ t34).length cap39) ha (s := hS) (q := fun a ha => ?_)
   refine tkpz 11 0 (.int .i64 (0 : Int)) ha (s := hS) (q := fun a ha => ?_)
   refine dn (by kernel_rfl) ?_
   refine hK20 _ _ ?_; try clear hK20 K20
   refine wp_ret ?_
   try simp only [Exit.then, Exit.inBlock]
   have o1 : Ok [] (blkL ao39 ++ (blkL ao35 ++ (blkL ao19 ++ (M)))) w38.heap.size := Ok.nil _ _
   have o2 : Ok (blkL ao39 ++ (M)) (blkL ao39 ++ (blkL ao35 ++ (blkL ao19 ++ (M)))) w38.heap.size := (Ok.app (fun _ h => .inl (ml h)) (fun _ h => .inl (mr (mr (mr (h))))))
   have f39 := f39.chg (Chg.refl [] _) o1 o2 (fun _ _ h => nomatch h) (fun _ h => ml h)
   have hM : MS (blkL ao39 ++ (M)) w38 := (MS.app (fun x h => hM.chg (Chg.refl [] _) x (ml h)) (fun x h => hM.chg (Chg.refl [] _) x (mr (mr (mr (h))))))
   have hC := hC.trans (Chg.refl [] _) (Ok.nil _ _)
   obtain rfl := Option.some.inj H
   refine rt2 ha rfl rfl rfl ?_
   exact ⟨ao39, cap39, rfl, f39, e_iD000039, hC, hM⟩
  have H := H16
  refine wp_seq_k fun K40 hK40 => ?_
  refine wp_region_lit ?_
  refine seg ha 1 [(1, .pointer (some ⟨g4, 0, none⟩)), (4, .int .u8 (0 : Int)), (10, .pointer (some ⟨g4, 0, none⟩))] (by kernel_rfl) fun a ha => ?_
  refine ld ha rfl (by kernel_rfl) rfl rfl rfl (hE6 0 (.bool a0.Leaf) (by kernel_rfl)) fun a ha => ?_
  refine hK40 _ _ ?_; try clear hK40 K40
  refine cnd ha rfl (fun hc41 => ?_) (fun hc41 => ?_)
  ·have H := ite_t hc41 H
   refine wp_region_lit ?_
   refine seg ha 1 [(1, .pointer (some ⟨g4, 0, none⟩)), (4, .int .u8 (1 : Int))] (by kernel_rfl) fun a ha => ?_
   obtain rfl := Option.some.inj H
   exact J16 _ _ (ha.sel (by kernel_rfl)) f1 hE6 hn7 hC hM
  ·have H := ite_f hc41 H
   refine wp_skip ?_
   obtain rfl := Option.some.inj H
   exact J16 _ _ (ha.sel (by kernel_rfl)) f1 hE6 hn7 hC hM
end Go.E
