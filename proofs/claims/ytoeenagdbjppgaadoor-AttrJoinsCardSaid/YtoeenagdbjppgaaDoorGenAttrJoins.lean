/- What the functions that the law reaches compute, and the walks that show it. -/
import Derived.Test.YtoeenagdbjppgaaDoorEngO
import Derived.Test.YtoeenagdbjppgaaDoorEngX
import Derived.Test.YtoeenagdbjppgaaDoorProg
import Derived.Test.YtoeenagdbjppgaaDoorGenAttrJoinsP0
set_option linter.unusedVariables false
set_option linter.unusedSimpArgs false
namespace Go.E
open Go.RowKit Go.Proofs
def attr_Join.l0 (k : Nat) (a0 : List S_api_Raw) : Nat → (List Int) → Int → Option ((List Int × Int) ⊕ (List Int))
  | 0, _, _ => none
  | kk + 1, x13, x14 => (if (decide (x14 < (a0.length : Int))) = true then (if 0 ≤ x14 ∧ x14 < (a0.length : Int) then ((if (decide (((rd a0 x14).Flags) < (0 : Int))) = true then some (decide (((rd a0 x14).Flags) < (0 : Int)) : Bool) else (if (decide (((rd a0 x14).Flags) > (255 : Int))) = true then some (decide (((rd a0 x14).Flags) > (255 : Int)) : Bool) else (if ((IntKind.i64.wrap (BitVec.ofInt IntKind.i64.bits ((rd a0 x14).Flags) &&& BitVec.ofInt IntKind.i64.bits (16 : Int)).toNat) != (0 : Int)) = true then some ((IntKind.i64.wrap (BitVec.ofInt IntKind.i64.bits ((rd a0 x14).Flags) &&& BitVec.ofInt IntKind.i64.bits (16 : Int)).toNat) != (0 : Int) : Bool) else (if (decide (((rd a0 x14).Kind) < (0 : Int))) = true then some (decide (((rd a0 x14).Kind) < (0 : Int)) : Bool) else some (decide (((rd a0 x14).Kind) > (255 : Int)) : Bool)))))).bind fun s40 => (if s40 = true then some (.inl ((([] : List Int) : List Int), ((1 : Int) : Int))) else (if (decide ((((rd a0 x14).Value).length : Int) > (4096 : Int))) = true then some (.inl ((([] : List Int) : List Int), ((2 : Int) : Int))) else (if (decide ((((rd a0 x14).Value).length : Int) > (255 : Int))) = true then (if (x13.length + ([IntKind.u8.wrap (IntKind.i64.wrap (BitVec.ofInt IntKind.i64.bits ((rd a0 x14).Flags) ||| BitVec.ofInt IntKind.i64.bits (16 : Int)).toNat), IntKind.u8.wrap ((rd a0 x14).Kind)] : List Int).length) * 1 ≤ 140737488355328 then (cursor_Put.f k (x13 ++ ([IntKind.u8.wrap (IntKind.i64.wrap (BitVec.ofInt IntKind.i64.bits ((rd a0 x14).Flags) ||| BitVec.ofInt IntKind.i64.bits (16 : Int)).toNat), IntKind.u8.wrap ((rd a0 x14).Kind)] : List Int)) (((rd a0 x14).Value).length : Int) (2 : Int)).bind fun t59 => (if (t59.1.length + ((rd a0 x14).Value).length) * 1 ≤ 140737488355328 then attr_Join.l0 k a0 kk (t59.1 ++ ((rd a0 x14).Value)) (IntKind.i64.wrap (x14 + (1 : Int))) else none) else none) else (if (x13.length + ([IntKind.u8.wrap ((rd a0 x14).Flags), IntKind.u8.wrap ((rd a0 x14).Kind), IntKind.u8.wrap (((rd a0 x14).Value).length : Int)] : List Int).length) * 1 ≤ 140737488355328 then (if ((x13 ++ ([IntKind.u8.wrap ((rd a0 x14).Flags), IntKind.u8.wrap ((rd a0 x14).Kind), IntKind.u8.wrap (((rd a0 x14).Value).length : Int)] : List Int)).length + ((rd a0 x14).Value).length) * 1 ≤ 140737488355328 then attr_Join.l0 k a0 kk ((x13 ++ ([IntKind.u8.wrap ((rd a0 x14).Flags), IntKind.u8.wrap ((rd a0 x14).Kind), IntKind.u8.wrap (((rd a0 x14).Value).length : Int)] : List Int)) ++ ((rd a0 x14).Value)) (IntKind.i64.wrap (x14 + (1 : Int))) else none) else none)))) else none) else some (.inr (x13 : List Int)))
def attr_Join.f (k : Nat) (a0 : List S_api_Raw) : Option (List Int × Int) := (if (decide ((a0.length : Int) > (64 : Int))) = true then some ((([] : List Int) : List Int), ((2 : Int) : Int)) else (attr_Join.l0 k a0 k ([] : List Int) (0 : Int)).bind fun s11 => match s11 with | .inl r => some r | .inr s11' => some ((s11' : List Int), ((0 : Int) : Int)))
set_option maxRecDepth 100000 in
theorem attr_Join.walk (w : World) (M : List Nat) (hM : MS M w) (a0 : List S_api_Raw) (ao1 : Option Addr) (cap1 : Nat) (f1 : RSl rS_api_Raw 61 w M ao1 cap1 a0) (k : Nat) (r : List Int × Int) (H : attr_Join.f k a0 = some r) :
    To Tryd.prog 29 [.slice ao1 a0.length cap1] w fun v w' => ∃ (ao83 : Option Addr) (cap83 : Nat), v = .tuple #[.slice ao83 r.1.length cap83, .int .i64 r.2] ∧ (Own (rInt .u8) 5 w' (blkL ao83 ++ (M)) ao83 cap83 r.1) ∧ (∀ x ∈ blkL ao83, w.heap.size ≤ x) ∧ Chg [] w w' ∧ MS (blkL ao83 ++ (M)) w' := by
 unfold attr_Join.f at H
 refine ent Tryd.func29 rfl [(0, .slice ao1 a0.length cap1)] rfl (by rfl) fun a ha => ?_
 have hC : Chg [] w w := Chg.refl _ _
 refine wp_seq_k fun K2 hK2 => ?_
 refine wp_region_lit ?_
 refine seg ha 2 [(0, .slice ao1 a0.length cap1)] (by kernel_rfl) fun a ha => ?_
 refine hK2 _ _ ?_; try clear hK2 K2
 refine wp_seq_k fun K3 hK3 => ?_
 refine wp_seq_k fun K4 hK4 => ?_
 refine wp_region_lit ?_
 refine seg ha 3 [(0, .slice ao1 a0.length cap1), (10, .bool (decide ((a0.length : Int) > (64 : Int))))] (by kernel_rfl) fun a ha => ?_
 refine hK4 _ _ ?_; try clear hK4 K4
 refine cnd ha rfl (fun hc5 => ?_) (fun hc5 => ?_)
 ·have H := ite_t hc5 H
  refine wp_seq_k fun K6 hK6 => ?_
  refine wp_region_lit ?_
  refine seg ha 2 [(2, .slice none 0 0), (3, .int .i64 (2 : Int))] (by kernel_rfl) fun a ha => ?_
  refine hK6 _ _ ?_; try clear hK6 K6
  refine wp_ret ?_
  try simp only [Exit.then, Exit.inBlock]
  have p_z7_M : ∀ x ∈ blkL none, x ∉ M := fun x hx hy => absurd (hM x (hy)) (Nat.not_lt.2 ((fun _ h => nomatch h) x hx))
  have e_z7 : ∀ x ∈ blkL none, w.heap.size ≤ x := fun x hx => Nat.le_trans hC.size ((fun _ h => nomatch h) x hx)
  have hM : MS (blkL none ++ (M)) w := (MS.app (fun _ h => nomatch h) (hM.chg (Chg.refl [] _)))
  have hC := hC.trans (Chg.refl [] _) (Ok.nil _ _)
  obtain rfl := Option.some.inj H
  refine rt2 ha rfl rfl rfl ?_
  exact ⟨none, 0, rfl, Own.nil, e_z7, hC, hM⟩
 ·have H := ite_f hc5 H
  refine wp_skip ?_
  refine hK3 _ _ ?_; try clear hK3 K3
  refine wp_seq_k fun K8 hK8 => ?_
  refine wp_region_lit ?_
  refine seg ha 1 [(0, .slice ao1 a0.length cap1), (4, .slice none 0 0)] (by kernel_rfl) fun a ha => ?_
  refine hK8 _ _ ?_; try clear hK8 K8
  refine wp_seq_k fun K9 hK9 => ?_
  refine wp_seq_k fun K10 hK10 => ?_
  refine wp_region_lit ?_
  refine seg ha 3 [(4, .slice none 0 0), (11, .slice ao1 a0.length cap1), (12, .int .i64 (a0.length : Int)), (13, .int .i64 (0 : Int))] (by kernel_rfl) fun a ha => ?_
  refine hK10 _ _ ?_; try clear hK10 K10
  refine wp_block ?_
  obtain ⟨s11, H11, H⟩ := bind_some H
  have J11 : ∀ s11' (a : Act) (wx11 : World) (ao15 : Option Addr) (cap15 : Nat), s11 = .inr s11' → Has a Tryd.f29.ntmps [(4, .slice ao15 s11'.length cap15)] → (Own (rInt .u8) 5 wx11 (blkL ao15 ++ (M)) ao15 cap15 s11') → (∀ x ∈ blkL ao15, w.heap.size ≤ x) → (∀ x ∈ blkL ao15, x ∉ M) → (Chg [] w wx11) → (MS (blkL ao15 ++ (M)) wx11) → K9 a wx11 := by
   intro s11' a wx11 ao15 cap15 hs ha f15 e_i15 p_i15_M hC hM
   subst hs
   refine hK9 _ _ ?_; try clear hK9 K9
   refine wp_seq_k fun K16 hK16 => ?_
   refine wp_region_lit ?_
   refine seg ha 3 [(2, .slice ao15 s11'.length cap15), (3, .int .i64 (0 : Int))] (by kernel_rfl) fun a ha => ?_
   refine hK16 _ _ ?_; try clear hK16 K16
   refine wp_ret ?_
   try simp only [Exit.then, Exit.inBlock]
   obtain rfl := Option.some.inj H
   refine rt2 ha rfl rfl rfl ?_
   exact ⟨ao15, cap15, rfl, f15, e_i15, hC, hM⟩
  have Hc11 := H
  have H := H11
  refine wp_loop_ghost (fun kk a w11 => ∃ (x13 : List Int) (x14 : Int) (ao12 : Option Addr) (cap12 : Nat), attr_Join.l0 k a0 kk x13 x14 = some s11 ∧ Has a Tryd.f29.ntmps [(4, .slice ao12 x13.length cap12), (11, .slice ao1 a0.length cap1), (12, .int .i64 (a0.length : Int)), (13, .int .i64 x14)] ∧ (Own (rInt .u8) 5 w11 (blkL ao12 ++ (M)) ao12 cap12 x13) ∧ (RSl rS_api_Raw 61 w11 (blkL ao12 ++ (M)) ao1 cap1 a0) ∧ (∀ x ∈ blkL ao12, w.heap.size ≤ x) ∧ (∀ x ∈ blkL ao12, x ∉ M) ∧ (Chg [] w w11) ∧ (MS (blkL ao12 ++ (M)) w11)) k ?_ ?_
  ·skip
   have o1 : Ok [] (M) w.heap.size := Ok.nil _ _
   have o2 : Ok (blkL none ++ (M)) (M) w.heap.size := (Ok.app (fun _ h => nomatch h) (Ok.refl _ _))
   have f1 := f1.chg (Chg.refl [] _) o1 o2
   have p_z17_M : ∀ x ∈ blkL none, x ∉ M := fun x hx hy => absurd (hM x (hy)) (Nat.not_lt.2 ((fun _ h => nomatch h) x hx))
   have e_z17 : ∀ x ∈ blkL none, w.heap.size ≤ x := fun x hx => Nat.le_trans hC.size ((fun _ h => nomatch h) x hx)
   have hM : MS (blkL none ++ (M)) w := (MS.app (fun _ h => nomatch h) (hM.chg (Chg.refl [] _)))
   have hC := hC.trans (Chg.refl [] _) (Ok.nil _ _)
   exact ⟨([] : List Int), (0 : Int), none, 0, H, (ha.sel (by kernel_rfl)), Own.nil, f1, e_z17, p_z17_M, hC, hM⟩
  ·rintro kk a w11 ⟨x13, x14, ao12, cap12, H, ha, f12, f1, e_i12, p_i12_M, hC, hM⟩
   obtain _ | kk := kk
   ·exact nomatch (show none = some _ from H)
   rw [attr_Join.l0] at H
   refine wp_seq_k fun K18 hK18 => ?_
   refine wp_region_lit ?_
   refine seg ha 1 [(4, .slice ao12 x13.length cap12), (11, .slice ao1 a0.length cap1), (12, .int .i64 (a0.length : Int)), (13, .int .i64 x14), (14, .bool (decide (x14 < (a0.length : Int))))] (by kernel_rfl) fun a ha => ?_
   refine hK18 _ _ ?_; try clear hK18 K18
   refine wp_seq_k fun K19 hK19 => ?_
   refine cnd ha rfl (fun hc20 => ?_) (fun hc20 => ?_)
   ·have H := ite_t hc20 H
    refine wp_skip ?_
    refine hK19 _ _ ?_; try clear hK19 K19
    refine wp_seq_k fun K21 hK21 => ?_
    refine wp_block ?_
    refine wp_seq_k fun K22 hK22 => ?_
    refine wp_region_lit ?_
    obtain ⟨⟨hx23, hx23'⟩, H⟩ := ite_some H
    refine ix (r := rS_api_Raw) ha (by kernel_rfl) (by kernel_rfl) rfl rfl rfl rfl rfl f1 hx23 hx23' fun a ge24 oe25 cs26 hn29 hR27 hE28 ha => ?_
    rw [rd_get] at hR27
    obtain ⟨ao30, cap30, rfl, f30⟩ := rS_api_Raw.open hR27
    refine ldA (cs := (cS_api_Raw (rd a0 x14) ao30 cap30)) ha rfl (by kernel_rfl) rfl rfl rfl (cells_sub hE28 (all := (cS_api_Raw (rd a0 x14) ao30 cap30)) [] [] (by kernel_rfl)) fun a ha => ?_
    refine al (cs := (cS_api_Raw (⟨(0 : Int), (0 : Int), ([] : List Int)⟩ : S_api_Raw) none 0)) (z := .agg (cS_api_Raw (⟨(0 : Int), (0 : Int), ([] : List Int)⟩ : S_api_Raw) none 0).toArray) ha (fun w => by kernel_rfl) rfl rfl rfl rfl fun a w31 g32 hN33 ha => ?_
    have o1 : Ok [] (blkL ao12 ++ (M)) w11.heap.size := Ok.nil _ _
    have o2 : Ok ([g32] ++ (blkL ao12 ++ (M))) (blkL ao12 ++ (M)) w11.heap.size := (Ok.app (hN33.ok _) (Ok.refl _ _))
    have f12 := f12.chg hN33.chg o1 o2 (fun _ _ h => nomatch h) (fun _ h => mr (ml h))
    have f1 := f1.chg hN33.chg o1 o2
    have f30 := f30.chg hN33.chg o1 o2
    have p_i34_i12 : ∀ x ∈ [g32], x ∉ (blkL ao12) := fun x hx hy => absurd (hM x (ml hy)) (Nat.not_lt.2 ((hN33.ge1) x hx))
    have p_i34_M : ∀ x ∈ [g32], x ∉ M := fun x hx hy => absurd (hM x (mr (hy))) (Nat.not_lt.2 ((hN33.ge1) x hx))
    have e_i34 : ∀ x ∈ [g32], w.heap.size ≤ x := fun x hx => Nat.le_trans hC.size ((hN33.ge1) x hx)
    have hM : MS ([g32] ++ (blkL ao12 ++ (M))) w31 := (MS.app hN33.ms (hM.chg hN33.chg))
    have hC := hC.trans hN33.chg (Ok.nil _ _)
    have hBg32 : Box w31 g32 (cS_api_Raw (⟨(0 : Int), (0 : Int), ([] : List Int)⟩ : S_api_Raw) none 0) := hN33.box
    refine stA (l := (cS_api_Raw (rd a0 x14) ao30 cap30)) ha rfl rfl rfl (by kernel_rfl) rfl rfl hBg32 rfl fun a w35 ha hb2 hc36 _ => ?_
    have o1 : Ok [g32] ([g32] ++ (blkL ao12 ++ (M))) w31.heap.size := (fun _ h => .inl (ml h))
    have o2 : Ok ([g32] ++ (blkL ao12 ++ (M))) ([g32] ++ (blkL ao12 ++ (M))) w31.heap.size := (Ok.refl _ _)
    have f12 := f12.chg hc36 o1 o2 (fun x (hx : x ∈ blkL ao12) (hy : x ∈ [g32]) => p_i34_i12 x hy hx) (fun _ h => mr (ml h))
    have f1 := f1.chg hc36 o1 o2
    have f30 := f30.chg hc36 o1 o2
    have hM : MS ([g32] ++ (blkL ao12 ++ (M))) w35 := (hM.chg hc36)
    have hC := hC.trans hc36 (fun x h => .inr (e_i34 x h))
    have hBg32 : Box w35 g32 (cS_api_Raw (rd a0 x14) ao30 cap30) := hb2
    refine hK22 _ _ ?_; try clear hK22 K22
    refine wp_seq_k fun K37 hK37 => ?_
    refine wp_region_lit ?_
    refine seg ha 1 [(4, .slice ao12 x13.length cap12), (6, .pointer (some ⟨g32, 0, none⟩)), (11, .slice ao1 a0.length cap1), (12, .int .i64 (a0.length : Int)), (13, .int .i64 x14), (17, .pointer (some ⟨g32, 2, none⟩))] (by kernel_rfl) fun a ha => ?_
    refine ld (v := .slice ao30 ((rd a0 x14).Value).length cap30) ha rfl (by kernel_rfl) rfl rfl rfl (hBg32.cell' (o := 2) rfl (by kernel_rfl)) fun a ha => ?_
    refine seg ha 2 [(4, .slice ao12 x13.length cap12), (6, .pointer (some ⟨g32, 0, none⟩)), (7, .int .i64 (((rd a0 x14).Value).length : Int)), (11, .slice ao1 a0.length cap1), (12, .int .i64 (a0.length : Int)), (13, .int .i64 x14)] (by kernel_rfl) fun a ha => ?_
    refine hK37 _ _ ?_; try clear hK37 K37
    refine wp_seq_k fun K38 hK38 => ?_
    refine wp_block ?_
    refine wp_seq_k fun K39 hK39 => ?_
    obtain ⟨s40, H40, H⟩ := bind_some H
    have J40 : ∀ (a : Act) (w40 : World), Has a Tryd.f29.ntmps [(4, .slice ao12 x13.length cap12), (6, .pointer (some ⟨g32, 0, none⟩)), (7, .int .i64 (((rd a0 x14).Value).length : Int)), (11, .slice ao1 a0.length cap1), (12, .int .i64 (a0.length : Int)), (13, .int .i64 x14), (31, .bool s40)] → (Own (rInt .u8) 5 w40 ([g32] ++ (blkL ao12 ++ (M))) ao12 cap12 x13) → (RSl rS_api_Raw 61 w40 ([g32] ++ (blkL ao12 ++ (M))) ao1 cap1 a0) → (RSl (rInt .u8) 5 w40 ([g32] ++ (blkL ao12 ++ (M))) ao30 cap30 ((rd a0 x14).Value)) → (Box w40 g32 (cS_api_Raw (rd a0 x14) ao30 cap30)) → (Chg [] w w40) → (MS ([g32] ++ (blkL ao12 ++ (M))) w40) → K39 a w40 := by
     intro a w40 ha f12 f1 f30 hBg32 hC hM
     refine hK39 _ _ ?_; try clear hK39 K39
     refine cnd ha rfl (fun hc41 => ?_) (fun hc41 => ?_)
     ·have H := ite_t hc41 H
      refine wp_seq_k fun K42 hK42 => ?_
      refine wp_region_lit ?_
      refine seg ha 2 [(2, .slice none 0 0), (3, .int .i64 (1 : Int))] (by kernel_rfl) fun a ha => ?_
      refine hK42 _ _ ?_; try clear hK42 K42
      refine wp_ret ?_
      try simp only [Exit.then, Exit.inBlock]
      have o1 : Ok [] ([g32] ++ (blkL ao12 ++ (M))) w40.heap.size := Ok.nil _ _
      have o2 : Ok (blkL none ++ (M)) ([g32] ++ (blkL ao12 ++ (M))) w40.heap.size := (Ok.app (fun _ h => nomatch h) (fun _ h => .inl (mr (mr (h)))))
      have f30 := f30.chg (Chg.refl [] _) o1 o2
      have hBg32 := hBg32.chg (Chg.refl [] _) (fun h => nomatch h)
      have p_z43_M : ∀ x ∈ blkL none, x ∉ M := fun x hx hy => absurd (hM x (mr (mr (hy)))) (Nat.not_lt.2 ((fun _ h => nomatch h) x hx))
      have e_z43 : ∀ x ∈ blkL none, w.heap.size ≤ x := fun x hx => Nat.le_trans hC.size ((fun _ h => nomatch h) x hx)
      have hM : MS (blkL none ++ (M)) w40 := (MS.app (fun _ h => nomatch h) (fun x h => hM.chg (Chg.refl [] _) x (mr (mr (h)))))
      have hC := hC.trans (Chg.refl [] _) (Ok.nil _ _)
      obtain rfl := Option.some.inj H
      have H := (show some _ = some _ from Hc11)
      obtain rfl := Option.some.inj H
      refine rt2 ha rfl rfl rfl ?_
      exact ⟨none, 0, rfl, Own.nil, e_z43, hC, hM⟩
     ·have H := ite_f hc41 H
      refine wp_seq_k fun K44 hK44 => ?_
      refine wp_region_lit ?_
      refine seg ha 3 [(4, .slice ao12 x13.length cap12), (6, .pointer (some ⟨g32, 0, none⟩)), (7, .int .i64 (((rd a0 x14).Value).length : Int)), (11, .slice ao1 a0.length cap1), (12, .int .i64 (a0.length : Int)), (13, .int .i64 x14), (48, .bool (decide ((((rd a0 x14).Value).length : Int) > (4096 : Int))))] (by kernel_rfl) fun a ha => ?_
      refine hK44 _ _ ?_; try clear hK44 K44
      refine cnd ha rfl (fun hc45 => ?_) (fun hc45 => ?_)
      ·have H := ite_t hc45 H
       refine wp_seq_k fun K46 hK46 => ?_
       refine wp_region_lit ?_
       refine seg ha 2 [(2, .slice none 0 0), (3, .int .i64 (2 : Int))] (by kernel_rfl) fun a ha => ?_
       refine hK46 _ _ ?_; try clear hK46 K46
       refine wp_ret ?_
       try simp only [Exit.then, Exit.inBlock]
       have o1 : Ok [] ([g32] ++ (blkL ao12 ++ (M))) w40.heap.size := Ok.nil _ _
       have o2 : Ok (blkL none ++ (M)) ([g32] ++ (blkL ao12 ++ (M))) w40.heap.size := (Ok.app (fun _ h => nomatch h) (fun _ h => .inl (mr (mr (h)))))
       have f30 := f30.chg (Chg.refl [] _) o1 o2
       have hBg32 := hBg32.chg (Chg.refl [] _) (fun h => nomatch h)
       have p_z47_M : ∀ x ∈ blkL none, x ∉ M := fun x hx hy => absurd (hM x (mr (mr (hy)))) (Nat.not_lt.2 ((fun _ h => nomatch h) x hx))
       have e_z47 : ∀ x ∈ blkL none, w.heap.size ≤ x := fun x hx => Nat.le_trans hC.size ((fun _ h => nomatch h) x hx)
       have hM : MS (blkL none ++ (M)) w40 := (MS.app (fun _ h => nomatch h) (fun x h => hM.chg (Chg.refl [] _) x (mr (mr (h)))))
       have hC := hC.trans (Chg.refl [] _) (Ok.nil _ _)
       obtain rfl := Option.some.inj H
       have H := (show some _ = some _ from Hc11)
       obtain rfl := Option.some.inj H
       refine rt2 ha rfl rfl rfl ?_
       exact ⟨none, 0, rfl, Own.nil, e_z47, hC, hM⟩
      ·have H := ite_f hc45 H
       refine wp_seq_k fun K48 hK48 => ?_
       refine wp_region_lit ?_
       refine seg ha 3 [(4, .slice ao12 x13.length cap12), (6, .pointer (some ⟨g32, 0, none⟩)), (7, .int .i64 (((rd a0 x14).Value).length : Int)), (11, .slice ao1 a0.length cap1), (12, .int .i64 (a0.length : Int)), (13, .int .i64 x14), (51, .bool (decide ((((rd a0 x14).Value).length : Int) > (255 : Int))))] (by kernel_rfl) fun a ha => ?_
       refine hK48 _ _ ?_; try clear hK48 K48
       refine cnd ha rfl (fun hc49 => ?_) (fun hc49 => ?_)
       ·have H := ite_t hc49 H
        refine wp_seq_k fun K50 hK50 => ?_
        refine wp_region_lit ?_
        refine seg ha 2 [(6, .pointer (some ⟨g32, 0, none⟩)), (7, .int .i64 (((rd a0 x14).Value).length : Int)), (11, .slice ao1 a0.length cap1), (12, .int .i64 (a0.length : Int)), (13, .int .i64 x14), (54, .slice ao12 x13.length cap12), (55, .pointer (some ⟨g32, 0, none⟩))] (by kernel_rfl) fun a ha => ?_
        refine ld (v := .int .i64 ((rd a0 x14).Flags)) ha rfl (by kernel_rfl) rfl rfl rfl (hBg32.cell' (o := 0) rfl (by kernel_rfl)) fun a ha => ?_
        refine seg ha 3 [(6, .pointer (some ⟨g32, 0, none⟩)), (7, .int .i64 (((rd a0 x14).Value).length : Int)), (11, .slice ao1 a0.length cap1), (12, .int .i64 (a0.length : Int)), (13, .int .i64 x14), (54, .slice ao12 x13.length cap12), (58, .int .u8 (IntKind.u8.wrap (IntKind.i64.wrap (BitVec.ofInt IntKind.i64.bits ((rd a0 x14).Flags) ||| BitVec.ofInt IntKind.i64.bits (16 : Int)).toNat))), (59, .pointer (some ⟨g32, 1, none⟩))] (by kernel_rfl) fun a ha => ?_
        refine ld (v := .int .i64 ((rd a0 x14).Kind)) ha rfl (by kernel_rfl) rfl rfl rfl (hBg32.cell' (o := 1) rfl (by kernel_rfl)) fun a ha => ?_
        refine seg ha 1 [(6, .pointer (some ⟨g32, 0, none⟩)), (7, .int .i64 (((rd a0 x14).Value).length : Int)), (11, .slice ao1 a0.length cap1), (12, .int .i64 (a0.length : Int)), (13, .int .i64 x14), (54, .slice ao12 x13.length cap12), (58, .int .u8 (IntKind.u8.wrap (IntKind.i64.wrap (BitVec.ofInt IntKind.i64.bits ((rd a0 x14).Flags) ||| BitVec.ofInt IntKind.i64.bits (16 : Int)).toNat))), (61, .int .u8 (IntKind.u8.wrap ((rd a0 x14).Kind)))] (by kernel_rfl) fun a ha => ?_
        refine bsl (vals := ([.int .u8 (IntKind.u8.wrap (IntKind.i64.wrap (BitVec.ofInt IntKind.i64.bits ((rd a0 x14).Flags) ||| BitVec.ofInt IntKind.i64.bits (16 : Int)).toNat)), .int .u8 (IntKind.u8.wrap ((rd a0 x14).Kind))] : List Value)) (T := 5) ha rfl (([.int .u8 (IntKind.u8.wrap (IntKind.i64.wrap (BitVec.ofInt IntKind.i64.bits ((rd a0 x14).Flags) ||| BitVec.ofInt IntKind.i64.bits (16 : Int)).toNat))] : List Value) ++ (([.int .u8 (IntKind.u8.wrap ((rd a0 x14).Kind))] : List Value) ++ ([] : List Value))) (fun w => by kernel_rfl) rfl rfl rfl fun a w51 g52 hN53 ha => ?_
        have o1 : Ok [] ([g32] ++ (blkL ao12 ++ (M))) w40.heap.size := Ok.nil _ _
        have o2 : Ok ([g52] ++ ([g32] ++ (blkL ao12 ++ (M)))) ([g32] ++ (blkL ao12 ++ (M))) w40.heap.size := (Ok.app (hN53.ok _) (Ok.refl _ _))
        have f1 := f1.chg hN53.chg o1 o2
        have f12 := f12.chg hN53.chg o1 o2 (fun _ _ h => nomatch h) (fun _ h => mr (mr (ml h)))
        have f30 := f30.chg hN53.chg o1 o2
        have hBg32 := hBg32.chg hN53.chg (fun h => nomatch h)
        have p_i54_i34 : ∀ x ∈ [g52], x ∉ ([g32]) := fun x hx hy => absurd (hM x (ml hy)) (Nat.not_lt.2 ((hN53.ge1) x hx))
        have p_i54_i12 : ∀ x ∈ [g52], x ∉ (blkL ao12) := fun x hx hy => absurd (hM x (mr (ml hy))) (Nat.not_lt.2 ((hN53.ge1) x hx))
        have p_i54_M : ∀ x ∈ [g52], x ∉ M := fun x hx hy => absurd (hM x (mr (mr (hy)))) (Nat.not_lt.2 ((hN53.ge1) x hx))
        have e_i54 : ∀ x ∈ [g52], w.heap.size ≤ x := fun x hx => Nat.le_trans hC.size ((hN53.ge1) x hx)
        have hM : MS ([g52] ++ ([g32] ++ (blkL ao12 ++ (M)))) w51 := (MS.app hN53.ms (hM.chg hN53.chg))
        have hC := hC.trans hN53.chg (Ok.nil _ _)
        have f55 : Own (rInt .u8) 5 w51 ([g52] ++ ([g32] ++ (blkL ao12 ++ (M)))) (some ⟨g52, 0, none⟩) 2 ([IntKind.u8.wrap (IntKind.i64.wrap (BitVec.ofInt IntKind.i64.bits ((rd a0 x14).Flags) ||| BitVec.ofInt IntKind.i64.bits (16 : Int)).toNat), IntKind.u8.wrap ((rd a0 x14).Kind)] : List Int) := hN53.own ⟨([.int .u8 (IntKind.u8.wrap (IntKind.i64.wrap (BitVec.ofInt IntKind.i64.bits ((rd a0 x14).Flags) ||| BitVec.ofInt IntKind.i64.bits (16 : Int)).toNat))] : List Value), _, rfl, rfl, ⟨([.int .u8 (IntKind.u8.wrap ((rd a0 x14).Kind))] : List Value), _, rfl, rfl, rfl⟩⟩ (Nat.le_of_ble_eq_true rfl)
        obtain ⟨hx56, H⟩ := ite_some H
        refine app (r := (rInt .u8)) (xs := x13) (ys := ([IntKind.u8.wrap (IntKind.i64.wrap (BitVec.ofInt IntKind.i64.bits ((rd a0 x14).Flags) ||| BitVec.ofInt IntKind.i64.bits (16 : Int)).toNat), IntKind.u8.wrap ((rd a0 x14).Kind)] : List Int)) ha (ElemT.mk' (bytes := 1) (by kernel_rfl)) rfl rfl rfl rfl rfl f12 f55.src hx56 (by decide) fun a w57 ao58 cap58 hO58 hc58 hk58 hl58 ha => ?_
        have o1 : Ok (blkL ao12) ([g52] ++ ([g32] ++ (blkL ao12 ++ (M)))) w51.heap.size := (fun _ h => .inl (mr (mr (ml h))))
        have o2 : Ok (blkL ao58 ++ ([g52] ++ ([g32] ++ (M)))) ([g52] ++ ([g32] ++ (blkL ao12 ++ (M)))) w51.heap.size := (Ok.app (Ok.to hk58 (fun _ h => mr (mr (ml h)))) (Ok.app (fun _ h => .inl (ml h)) (Ok.app (fun _ h => .inl (mr (ml h))) (fun _ h => .inl (mr (mr (mr (h))))))))
        have f1 := f1.chg hc58 o1 o2
        have f55 := f55.chg hc58 o1 o2 p_i54_i12 (fun _ h => mr (ml h))
        have f30 := f30.chg hc58 o1 o2
        have hBg32 := hBg32.chg hc58 (p_i34_i12 g32 (by simp))
        have p_i58_i54 : ∀ x ∈ blkL ao58, x ∉ ([g52]) := fun x hx hy => (hk58 x hx).elim (fun h => (fun x hx hy => p_i54_i12 x hy hx) x h hy) (fun h => absurd (hM x (ml hy)) (Nat.not_lt.2 h))
        have p_i58_i34 : ∀ x ∈ blkL ao58, x ∉ ([g32]) := fun x hx hy => (hk58 x hx).elim (fun h => (fun x hx hy => p_i34_i12 x hy hx) x h hy) (fun h => absurd (hM x (mr (ml hy))) (Nat.not_lt.2 h))
        have p_i58_M : ∀ x ∈ blkL ao58, x ∉ M := fun x hx hy => (hk58 x hx).elim (fun h => p_i12_M x h hy) (fun h => absurd (hM x (mr (mr (mr (hy))))) (Nat.not_lt.2 h))
        have e_i58 : ∀ x ∈ blkL ao58, w.heap.size ≤ x := fun x hx => (hk58 x hx).elim (e_i12 x) (Nat.le_trans hC.size)
        have hM : MS (blkL ao58 ++ ([g52] ++ ([g32] ++ (M)))) w57 := (MS.app hl58 (MS.app (fun x h => hM.chg hc58 x (ml h)) (MS.app (fun x h => hM.chg hc58 x (mr (ml h))) (fun x h => hM.chg hc58 x (mr (mr (mr (h))))))))
        have hC := hC.trans hc58 (fun x h => .inr (e_i12 x h))
        have f58 := hO58.chg (M' := blkL ao58 ++ ([g52] ++ ([g32] ++ (M)))) (Chg.refl [] _) (Ok.nil _ _) (Ok.app (fun _ h => .inl (ml h)) (Ok.to (Ok.app (fun _ h => .inl (ml h)) (Ok.app (fun _ h => .inl (mr (ml h))) (fun _ h => .inl (mr (mr (mr (h))))))) (fun _ h => mr h))) (fun _ _ h => nomatch h) (fun _ h => ml h)
        refine seg ha 1 [(4, .slice ao58 (x13 ++ ([IntKind.u8.wrap (IntKind.i64.wrap (BitVec.ofInt IntKind.i64.bits ((rd a0 x14).Flags) ||| BitVec.ofInt IntKind.i64.bits (16 : Int)).toNat), IntKind.u8.wrap ((rd a0 x14).Kind)] : List Int)).length cap58), (6, .pointer (some ⟨g32, 0, none⟩)), (7, .int .i64 (((rd a0 x14).Value).length : Int)), (11, .slice ao1 a0.length cap1), (12, .int .i64 (a0.length : Int)), (13, .int .i64 x14)] (by kernel_rfl) fun a ha => ?_
        refine hK50 _ _ ?_; try clear hK50 K50
        refine wp_region_lit ?_
        refine seg ha 2 [(6, .pointer (some ⟨g32, 0, none⟩)), (11, .slice ao1 a0.length cap1), (12, .int .i64 (a0.length : Int)), (13, .int .i64 x14), (65, .slice ao58 (x13 ++ ([IntKind.u8.wrap (IntKind.i64.wrap (BitVec.ofInt IntKind.i64.bits ((rd a0 x14).Flags) ||| BitVec.ofInt IntKind.i64.bits (16 : Int)).toNat), IntKind.u8.wrap ((rd a0 x14).Kind)] : List Int)).length cap58), (66, .int .i64 (((rd a0 x14).Value).length : Int))] (by kernel_rfl) fun a ha => ?_
        have hML : MS ([g52] ++ ([g32] ++ (M))) w57 := MS.rest hM (fun _ h => (List.mem_append.1 h).elim (fun h => mr (ml h)) (fun h => (List.mem_append.1 h).elim (fun h => mr (mr (ml h))) (fun h => mr (mr (mr (h))))))
        have oL : Ok ([g52] ++ ([g32] ++ (M))) (blkL ao58 ++ ([g52] ++ ([g32] ++ (M)))) w57.heap.size := (fun _ h => .inl (mr (h)))
        obtain ⟨t59, H59, H⟩ := bind_some H
        refine cl ha (by rfl) (by kernel_rfl) (by rfl) (by rfl) (by rfl) (cursor_Put.walk w57 _ hML (x13 ++ ([IntKind.u8.wrap (IntKind.i64.wrap (BitVec.ofInt IntKind.i64.bits ((rd a0 x14).Flags) ||| BitVec.ofInt IntKind.i64.bits (16 : Int)).toNat), IntKind.u8.wrap ((rd a0 x14).Kind)] : List Int)) ao58 cap58 (Own.toRSl (M' := [g52] ++ ([g32] ++ (M))) f58 oL (fun x hx hm => (List.mem_append.1 hm).elim (fun h => p_i58_i54 x hx h) (fun h => (List.mem_append.1 h).elim (fun h => p_i58_i34 x hx h) (fun h => p_i58_M x hx h)))) (((rd a0 x14).Value).length : Int) (2 : Int) k _ H59) ?_
        rintro _ w59 ⟨ao60, cap60, rfl, f60, ne_i60, hc59, hMn⟩ a ha
        have o1 : Ok [] (blkL ao58 ++ ([g52] ++ ([g32] ++ (M)))) w57.heap.size := Ok.nil _ _
        have o2 : Ok (blkL ao60 ++ (blkL ao58 ++ ([g52] ++ ([g32] ++ (M))))) (blkL ao58 ++ ([g52] ++ ([g32] ++ (M)))) w57.heap.size := (Ok.app (fun x h => .inr (ne_i60 x h)) (Ok.refl _ _))
        have f1 := f1.chg hc59 o1 o2
        have f58 := f58.chg hc59 o1 o2 (fun _ _ h => nomatch h) (fun _ h => mr (ml h))
        have f30 := f30.chg hc59 o1 o2
        have hBg32 := hBg32.chg hc59 (fun h => nomatch h)
        have p_i60_i58 : ∀ x ∈ blkL ao60, x ∉ (blkL ao58) := fun x hx hy => absurd (hM x (ml hy)) (Nat.not_lt.2 (ne_i60 x hx))
        have p_i60_i54 : ∀ x ∈ blkL ao60, x ∉ ([g52]) := fun x hx hy => absurd (hM x (mr (ml hy))) (Nat.not_lt.2 (ne_i60 x hx))
        have p_i60_i34 : ∀ x ∈ blkL ao60, x ∉ ([g32]) := fun x hx hy => absurd (hM x (mr (mr (ml hy)))) (Nat.not_lt.2 (ne_i60 x hx))
        have p_i60_M : ∀ x ∈ blkL ao60, x ∉ M := fun x hx hy => absurd (hM x (mr (mr (mr (hy))))) (Nat.not_lt.2 (ne_i60 x hx))
        have e_i60 : ∀ x ∈ blkL ao60, w.heap.size ≤ x := fun x hx => Nat.le_trans hC.size (ne_i60 x hx)
        have hM : MS (blkL ao60 ++ (blkL ao58 ++ ([g52] ++ ([g32] ++ (M))))) w59 := (MS.app (fun x h => hMn x (ml h)) (hM.chg hc59))
        have hC := hC.trans hc59 (Ok.nil _ _)
        have f60 := Own.re (M' := blkL ao60 ++ (blkL ao58 ++ ([g52] ++ ([g32] ++ (M))))) (fun _ _ _ _ _ h => h) f60 (fun _ h => ml h)
        refine seg ha 4 [(4, .slice ao60 t59.1.length cap60), (6, .pointer (some ⟨g32, 0, none⟩)), (11, .slice ao1 a0.length cap1), (12, .int .i64 (a0.length : Int)), (13, .int .i64 x14)] (by kernel_rfl) fun a ha => ?_
        refine hK38 _ _ ?_; try clear hK38 K38
        refine wp_region_lit ?_
        refine seg ha 2 [(11, .slice ao1 a0.length cap1), (12, .int .i64 (a0.length : Int)), (13, .int .i64 x14), (70, .slice ao60 t59.1.length cap60), (71, .pointer (some ⟨g32, 2, none⟩))] (by kernel_rfl) fun a ha => ?_
        refine ld (v := .slice ao30 ((rd a0 x14).Value).length cap30) ha rfl (by kernel_rfl) rfl rfl rfl (hBg32.cell' (o := 2) rfl (by kernel_rfl)) fun a ha => ?_
        obtain ⟨hx61, H⟩ := ite_some H
        refine app (r := (rInt .u8)) (xs := t59.1) (ys := (rd a0 x14).Value) ha (ElemT.mk' (bytes := 1) (by kernel_rfl)) rfl rfl rfl rfl rfl f60 f30.src hx61 (by decide) fun a w62 ao63 cap63 hO63 hc63 hk63 hl63 ha => ?_
        have o1 : Ok (blkL ao60) (blkL ao60 ++ (blkL ao58 ++ ([g52] ++ ([g32] ++ (M))))) w59.heap.size := (fun _ h => .inl (ml h))
        have o2 : Ok (blkL ao63 ++ (blkL ao58 ++ ([g52] ++ ([g32] ++ (M))))) (blkL ao60 ++ (blkL ao58 ++ ([g52] ++ ([g32] ++ (M))))) w59.heap.size := (Ok.app (Ok.to hk63 (fun _ h => ml h)) (fun _ h => .inl (mr (h))))
        have f1 := f1.chg hc63 o1 o2
        have f30 := f30.chg hc63 o1 o2
        have hBg32 := hBg32.chg hc63 ((fun x (hx : x ∈ [g32]) (hy : x ∈ blkL ao60) => p_i60_i34 x hy hx) g32 (by simp))
        have p_i63_i58 : ∀ x ∈ blkL ao63, x ∉ (blkL ao58) := fun x hx hy => (hk63 x hx).elim (fun h => p_i60_i58 x h hy) (fun h => absurd (hM x (mr (ml hy))) (Nat.not_lt.2 h))
        have p_i63_i54 : ∀ x ∈ blkL ao63, x ∉ ([g52]) := fun x hx hy => (hk63 x hx).elim (fun h => p_i60_i54 x h hy) (fun h => absurd (hM x (mr (mr (ml hy)))) (Nat.not_lt.2 h))
        have p_i63_i34 : ∀ x ∈ blkL ao63, x ∉ ([g32]) := fun x hx hy => (hk63 x hx).elim (fun h => p_i60_i34 x h hy) (fun h => absurd (hM x (mr (mr (mr (ml hy))))) (Nat.not_lt.2 h))
        have p_i63_M : ∀ x ∈ blkL ao63, x ∉ M := fun x hx hy => (hk63 x hx).elim (fun h => p_i60_M x h hy) (fun h => absurd (hM x (mr (mr (mr (mr (hy)))))) (Nat.not_lt.2 h))
        have e_i63 : ∀ x ∈ blkL ao63, w.heap.size ≤ x := fun x hx => (hk63 x hx).elim (e_i60 x) (Nat.le_trans hC.size)
        have hM : MS (blkL ao63 ++ (blkL ao58 ++ ([g52] ++ ([g32] ++ (M))))) w62 := (MS.app hl63 (fun x h => hM.chg hc63 x (mr (h))))
        have hC := hC.trans hc63 (fun x h => .inr (e_i60 x h))
        have f63 := hO63.chg (M' := blkL ao63 ++ (blkL ao58 ++ ([g52] ++ ([g32] ++ (M))))) (Chg.refl [] _) (Ok.nil _ _) (Ok.app (fun _ h => .inl (ml h)) (Ok.to (fun _ h => .inl (mr (h))) (fun _ h => mr h))) (fun _ _ h => nomatch h) (fun _ h => ml h)
        refine seg ha 1 [(4, .slice ao63 (t59.1 ++ ((rd a0 x14).Value)).length cap63), (11, .slice ao1 a0.length cap1), (12, .int .i64 (a0.length : Int)), (13, .int .i64 x14)] (by kernel_rfl) fun a ha => ?_
        refine hK21 _ _ ?_; try clear hK21 K21
        refine wp_region_lit ?_
        refine seg ha 2 [(4, .slice ao63 (t59.1 ++ ((rd a0 x14).Value)).length cap63), (11, .slice ao1 a0.length cap1), (12, .int .i64 (a0.length : Int)), (13, .int .i64 (IntKind.i64.wrap (x14 + (1 : Int))))] (by kernel_rfl) fun a ha => ?_
        have o1 : Ok [] (blkL ao63 ++ (blkL ao58 ++ ([g52] ++ ([g32] ++ (M))))) w62.heap.size := Ok.nil _ _
        have o2 : Ok (blkL ao63 ++ (M)) (blkL ao63 ++ (blkL ao58 ++ ([g52] ++ ([g32] ++ (M))))) w62.heap.size := (Ok.app (fun _ h => .inl (ml h)) (fun _ h => .inl (mr (mr (mr (mr (h)))))))
        have f1 := f1.chg (Chg.refl [] _) o1 o2
        have f63 := f63.chg (Chg.refl [] _) o1 o2 (fun _ _ h => nomatch h) (fun _ h => ml h)
        have f30 := f30.chg (Chg.refl [] _) o1 o2
        have hBg32 := hBg32.chg (Chg.refl [] _) (fun h => nomatch h)
        have hM : MS (blkL ao63 ++ (M)) w62 := (MS.app (fun x h => hM.chg (Chg.refl [] _) x (ml h)) (fun x h => hM.chg (Chg.refl [] _) x (mr (mr (mr (mr (h)))))))
        have hC := hC.trans (Chg.refl [] _) (Ok.nil _ _)
        exact ⟨kk, Nat.lt_succ_self _, ⟨(t59.1 ++ ((rd a0 x14).Value)), IntKind.i64.wrap (x14 + (1 : Int)), ao63, cap63, H, (ha.sel (by kernel_rfl)), f63, f1, e_i63, p_i63_M, hC, hM⟩⟩
       ·have H := ite_f hc49 H
        refine wp_region_lit ?_
        refine seg ha 2 [(6, .pointer (some ⟨g32, 0, none⟩)), (7, .int .i64 (((rd a0 x14).Value).length : Int)), (11, .slice ao1 a0.length cap1), (12, .int .i64 (a0.length : Int)), (13, .int .i64 x14), (20, .slice ao12 x13.length cap12), (21, .pointer (some ⟨g32, 0, none⟩))] (by kernel_rfl) fun a ha => ?_
        refine ld (v := .int .i64 ((rd a0 x14).Flags)) ha rfl (by kernel_rfl) rfl rfl rfl (hBg32.cell' (o := 0) rfl (by kernel_rfl)) fun a ha => ?_
        refine seg ha 2 [(6, .pointer (some ⟨g32, 0, none⟩)), (7, .int .i64 (((rd a0 x14).Value).length : Int)), (11, .slice ao1 a0.length cap1), (12, .int .i64 (a0.length : Int)), (13, .int .i64 x14), (20, .slice ao12 x13.length cap12), (23, .int .u8 (IntKind.u8.wrap ((rd a0 x14).Flags))), (24, .pointer (some ⟨g32, 1, none⟩))] (by kernel_rfl) fun a ha => ?_
        refine ld (v := .int .i64 ((rd a0 x14).Kind)) ha rfl (by kernel_rfl) rfl rfl rfl (hBg32.cell' (o := 1) rfl (by kernel_rfl)) fun a ha => ?_
        refine seg ha 3 [(6, .pointer (some ⟨g32, 0, none⟩)), (11, .slice ao1 a0.length cap1), (12, .int .i64 (a0.length : Int)), (13, .int .i64 x14), (20, .slice ao12 x13.length cap12), (23, .int .u8 (IntKind.u8.wrap ((rd a0 x14).Flags))), (26, .int .u8 (IntKind.u8.wrap ((rd a0 x14).Kind))), (28, .int .u8 (IntKind.u8.wrap (((rd a0 x14).Value).length : Int)))] (by kernel_rfl) fun a ha => ?_
        refine bsl (vals := ([.int .u8 (IntKind.u8.wrap ((rd a0 x14).Flags)), .int .u8 (IntKind.u8.wrap ((rd a0 x14).Kind)), .int .u8 (IntKind.u8.wrap (((rd a0 x14).Value).length : Int))] : List Value)) (T := 5) ha rfl (([.int .u8 (IntKind.u8.wrap ((rd a0 x14).Flags))] : List Value) ++ (([.int .u8 (IntKind.u8.wrap ((rd a0 x14).Kind))] : List Value) ++ (([.int .u8 (IntKind.u8.wrap (((rd a0 x14).Value).length : Int))] : List Value) ++ ([] : List Value)))) (fun w => by kernel_rfl) rfl rfl rfl fun a w64 g65 hN66 ha => ?_
        have o1 : Ok [] ([g32] ++ (blkL ao12 ++ (M))) w40.heap.size := Ok.nil _ _
        have o2 : Ok ([g65] ++ ([g32] ++ (blkL ao12 ++ (M)))) ([g32] ++ (blkL ao12 ++ (M))) w40.heap.size := (Ok.app (hN66.ok _) (Ok.refl _ _))
        have f1 := f1.chg hN66.chg o1 o2
        have f12 := f12.chg hN66.chg o1 o2 (fun _ _ h => nomatch h) (fun _ h => mr (mr (ml h)))
        have f30 := f30.chg hN66.chg o1 o2
        have hBg32 := hBg32.chg hN66.chg (fun h => nomatch h)
        have p_i67_i34 : ∀ x ∈ [g65], x ∉ ([g32]) := fun x hx hy => absurd (hM x (ml hy)) (Nat.not_lt.2 ((hN66.ge1) x hx))
        have p_i67_i12 : ∀ x ∈ [g65], x ∉ (blkL ao12) := fun x hx hy => absurd (hM x (mr (ml hy))) (Nat.not_lt.2 ((hN66.ge1) x hx))
        have p_i67_M : ∀ x ∈ [g65], x ∉ M := fun x hx hy => absurd (hM x (mr (mr (hy)))) (Nat.not_lt.2 ((hN66.ge1) x hx))
        have e_i67 : ∀ x ∈ [g65], w.heap.size ≤ x := fun x hx => Nat.le_trans hC.size ((hN66.ge1) x hx)
        have hM : MS ([g65] ++ ([g32] ++ (blkL ao12 ++ (M)))) w64 := (MS.app hN66.ms (hM.chg hN66.chg))
        have hC := hC.trans hN66.chg (Ok.nil _ _)
        have f68 : Own (rInt .u8) 5 w64 ([g65] ++ ([g32] ++ (blkL ao12 ++ (M)))) (some ⟨g65, 0, none⟩) 3 ([IntKind.u8.wrap ((rd a0 x14).Flags), IntKind.u8.wrap ((rd a0 x14).Kind), IntKind.u8.wrap (((rd a0 x14).Value).length : Int)] : List Int) := hN66.own ⟨([.int .u8 (IntKind.u8.wrap ((rd a0 x14).Flags))] : List Value), _, rfl, rfl, ⟨([.int .u8 (IntKind.u8.wrap ((rd a0 x14).Kind))] : List Value), _, rfl, rfl, ⟨([.int .u8 (IntKind.u8.wrap (((rd a0 x14).Value).length : Int))] : List Value), _, rfl, rfl, rfl⟩⟩⟩ (Nat.le_of_ble_eq_true rfl)
        obtain ⟨hx69, H⟩ := ite_some H
        refine app (r := (rInt .u8)) (xs := x13) (ys := ([IntKind.u8.wrap ((rd a0 x14).Flags), IntKind.u8.wrap ((rd a0 x14).Kind), IntKind.u8.wrap (((rd a0 x14).Value).length : Int)] : List Int)) ha (ElemT.mk' (bytes := 1) (by kernel_rfl)) rfl rfl rfl rfl rfl f12 f68.src hx69 (by decide) fun a w70 ao71 cap71 hO71 hc71 hk71 hl71 ha => ?_
        have o1 : Ok (blkL ao12) ([g65] ++ ([g32] ++ (blkL ao12 ++ (M)))) w64.heap.size := (fun _ h => .inl (mr (mr (ml h))))
        have o2 : Ok (blkL ao71 ++ ([g65] ++ ([g32] ++ (M)))) ([g65] ++ ([g32] ++ (blkL ao12 ++ (M)))) w64.heap.size := (Ok.app (Ok.to hk71 (fun _ h => mr (mr (ml h)))) (Ok.app (fun _ h => .inl (ml h)) (Ok.app (fun _ h => .inl (mr (ml h))) (fun _ h => .inl (mr (mr (mr (h))))))))
        have f1 := f1.chg hc71 o1 o2
        have f68 := f68.chg hc71 o1 o2 p_i67_i12 (fun _ h => mr (ml h))
        have f30 := f30.chg hc71 o1 o2
        have hBg32 := hBg32.chg hc71 (p_i34_i12 g32 (by simp))
        have p_i71_i67 : ∀ x ∈ blkL ao71, x ∉ ([g65]) := fun x hx hy => (hk71 x hx).elim (fun h => (fun x hx hy => p_i67_i12 x hy hx) x h hy) (fun h => absurd (hM x (ml hy)) (Nat.not_lt.2 h))
        have p_i71_i34 : ∀ x ∈ blkL ao71, x ∉ ([g32]) := fun x hx hy => (hk71 x hx).elim (fun h => (fun x hx hy => p_i34_i12 x hy hx) x h hy) (fun h => absurd (hM x (mr (ml hy))) (Nat.not_lt.2 h))
        have p_i71_M : ∀ x ∈ blkL ao71, x ∉ M := fun x hx hy => (hk71 x hx).elim (fun h => p_i12_M x h hy) (fun h => absurd (hM x (mr (mr (mr (hy))))) (Nat.not_lt.2 h))
        have e_i71 : ∀ x ∈ blkL ao71, w.heap.size ≤ x := fun x hx => (hk71 x hx).elim (e_i12 x) (Nat.le_trans hC.size)
        have hM : MS (blkL ao71 ++ ([g65] ++ ([g32] ++ (M)))) w70 := (MS.app hl71 (MS.app (fun x h => hM.chg hc71 x (ml h)) (MS.app (fun x h => hM.chg hc71 x (mr (ml h))) (fun x h => hM.chg hc71 x (mr (mr (mr (h))))))))
        have hC := hC.trans hc71 (fun x h => .inr (e_i12 x h))
        have f71 := hO71.chg (M' := blkL ao71 ++ ([g65] ++ ([g32] ++ (M)))) (Chg.refl [] _) (Ok.nil _ _) (Ok.app (fun _ h => .inl (ml h)) (Ok.to (Ok.app (fun _ h => .inl (ml h)) (Ok.app (fun _ h => .inl (mr (ml h))) (fun _ h => .inl (mr (mr (mr (h))))))) (fun _ h => mr h))) (fun _ _ h => nomatch h) (fun _ h => ml h)
        refine seg ha 1 [(4, .slice ao71 (x13 ++ ([IntKind.u8.wrap ((rd a0 x14).Flags), IntKind.u8.wrap ((rd a0 x14).Kind), IntKind.u8.wrap (((rd a0 x14).Value).length : Int)] : List Int)).length cap71), (6, .pointer (some ⟨g32, 0, none⟩)), (11, .slice ao1 a0.length cap1), (12, .int .i64 (a0.length : Int)), (13, .int .i64 x14)] (by kernel_rfl) fun a ha => ?_
        refine hK38 _ _ ?_; try clear hK38 K38
        refine wp_region_lit ?_
        refine seg ha 2 [(11, .slice ao1 a0.length cap1), (12, .int .i64 (a0.length : Int)), (13, .int .i64 x14), (70, .slice ao71 (x13 ++ ([IntKind.u8.wrap ((rd a0 x14).Flags), IntKind.u8.wrap ((rd a0 x14).Kind), IntKind.u8.wrap (((rd a0 x14).Value).length : Int)] : List Int)).length cap71), (71, .pointer (some ⟨g32, 2, none⟩))] (by kernel_rfl) fun a ha => ?_
        refine ld (v := .slice ao30 ((rd a0 x14).Value).length cap30) ha rfl (by kernel_rfl) rfl rfl rfl (hBg32.cell' (o := 2) rfl (by kernel_rfl)) fun a ha => ?_
        obtain ⟨hx72, H⟩ := ite_some H
        refine app (r := (rInt .u8)) (xs := (x13 ++ ([IntKind.u8.wrap ((rd a0 x14).Flags), IntKind.u8.wrap ((rd a0 x14).Kind), IntKind.u8.wrap (((rd a0 x14).Value).length : Int)] : List Int))) (ys := (rd a0 x14).Value) ha (ElemT.mk' (bytes := 1) (by kernel_rfl)) rfl rfl rfl rfl rfl f71 f30.src hx72 (by decide) fun a w73 ao74 cap74 hO74 hc74 hk74 hl74 ha => ?_
        have o1 : Ok (blkL ao71) (blkL ao71 ++ ([g65] ++ ([g32] ++ (M)))) w70.heap.size := (fun _ h => .inl (ml h))
        have o2 : Ok (blkL ao74 ++ ([g65] ++ ([g32] ++ (M)))) (blkL ao71 ++ ([g65] ++ ([g32] ++ (M)))) w70.heap.size := (Ok.app (Ok.to hk74 (fun _ h => ml h)) (fun _ h => .inl (mr (h))))
        have f1 := f1.chg hc74 o1 o2
        have f30 := f30.chg hc74 o1 o2
        have hBg32 := hBg32.chg hc74 ((fun x (hx : x ∈ [g32]) (hy : x ∈ blkL ao71) => p_i71_i34 x hy hx) g32 (by simp))
        have p_i74_i67 : ∀ x ∈ blkL ao74, x ∉ ([g65]) := fun x hx hy => (hk74 x hx).elim (fun h => p_i71_i67 x h hy) (fun h => absurd (hM x (mr (ml hy))) (Nat.not_lt.2 h))
        have p_i74_i34 : ∀ x ∈ blkL ao74, x ∉ ([g32]) := fun x hx hy => (hk74 x hx).elim (fun h => p_i71_i34 x h hy) (fun h => absurd (hM x (mr (mr (ml hy)))) (Nat.not_lt.2 h))
        have p_i74_M : ∀ x ∈ blkL ao74, x ∉ M := fun x hx hy => (hk74 x hx).elim (fun h => p_i71_M x h hy) (fun h => absurd (hM x (mr (mr (mr (hy))))) (Nat.not_lt.2 h))
        have e_i74 : ∀ x ∈ blkL ao74, w.heap.size ≤ x := fun x hx => (hk74 x hx).elim (e_i71 x) (Nat.le_trans hC.size)
        have hM : MS (blkL ao74 ++ ([g65] ++ ([g32] ++ (M)))) w73 := (MS.app hl74 (fun x h => hM.chg hc74 x (mr (h))))
        have hC := hC.trans hc74 (fun x h => .inr (e_i71 x h))
        have f74 := hO74.chg (M' := blkL ao74 ++ ([g65] ++ ([g32] ++ (M)))) (Chg.refl [] _) (Ok.nil _ _) (Ok.app (fun _ h => .inl (ml h)) (Ok.to (fun _ h => .inl (mr (h))) (fun _ h => mr h))) (fun _ _ h => nomatch h) (fun _ h => ml h)
        refine seg ha 1 [(4, .slice ao74 ((x13 ++ ([IntKind.u8.wrap ((rd a0 x14).Flags), IntKind.u8.wrap ((rd a0 x14).Kind), IntKind.u8.wrap (((rd a0 x14).Value).length : Int)] : List Int)) ++ ((rd a0 x14).Value)).length cap74), (11, .slice ao1 a0.length cap1), (12, .int .i64 (a0.length : Int)), (13, .int .i64 x14)] (by kernel_rfl) fun a ha => ?_
        refine hK21 _ _ ?_; try clear hK21 K21
        refine wp_region_lit ?_
        refine seg ha 2 [(4, .slice ao74 ((x13 ++ ([IntKind.u8.wrap ((rd a0 x14).Flags), IntKind.u8.wrap ((rd a0 x14).Kind), IntKind.u8.wrap (((rd a0 x14).Value).length : Int)] : List Int)) ++ ((rd a0 x14).Value)).length cap74), (11, .slice ao1 a0.length cap1), (12, .int .i64 (a0.length : Int)), (13, .int .i64 (IntKind.i64.wrap (x14 + (1 : Int))))] (by kernel_rfl) fun a ha => ?_
        have o1 : Ok [] (blkL ao74 ++ ([g65] ++ ([g32] ++ (M)))) w73.heap.size := Ok.nil _ _
        have o2 : Ok (blkL ao74 ++ (M)) (blkL ao74 ++ ([g65] ++ ([g32] ++ (M)))) w73.heap.size := (Ok.app (fun _ h => .inl (ml h)) (fun _ h => .inl (mr (mr (mr (h))))))
        have f1 := f1.chg (Chg.refl [] _) o1 o2
        have f74 := f74.chg (Chg.refl [] _) o1 o2 (fun _ _ h => nomatch h) (fun _ h => ml h)
        have f30 := f30.chg (Chg.refl [] _) o1 o2
        have hBg32 := hBg32.chg (Chg.refl [] _) (fun h => nomatch h)
        have hM : MS (blkL ao74 ++ (M)) w73 := (MS.app (fun x h => hM.chg (Chg.refl [] _) x (ml h)) (fun x h => hM.chg (Chg.refl [] _) x (mr (mr (mr (h))))))
        have hC := hC.trans (Chg.refl [] _) (Ok.nil _ _)
        exact ⟨kk, Nat.lt_succ_self _, ⟨((x13 ++ ([IntKind.u8.wrap ((rd a0 x14).Flags), IntKind.u8.wrap ((rd a0 x14).Kind), IntKind.u8.wrap (((rd a0 x14).Value).length : Int)] : List Int)) ++ ((rd a0 x14).Value)), IntKind.i64.wrap (x14 + (1 : Int)), ao74, cap74, H, (ha.sel (by kernel_rfl)), f74, f1, e_i74, p_i74_M, hC, hM⟩⟩
    have H := H40
    refine wp_seq_k fun K75 hK75 => ?_
    refine wp_region_lit ?_
    refine seg ha 1 [(4, .slice ao12 x13.length cap12), (6, .pointer (some ⟨g32, 0, none⟩)), (7, .int .i64 (((rd a0 x14).Value).length : Int)), (11, .slice ao1 a0.length cap1), (12, .int .i64 (a0.length : Int)), (13, .int .i64 x14), (32, .pointer (some ⟨g32, 0, none⟩))] (by kernel_rfl) fun a ha => ?_
    refine ld (v := .int .i64 ((rd a0 x14).Flags)) ha rfl (by kernel_rfl) rfl rfl rfl (hBg32.cell' (o := 0) rfl (by kernel_rfl)) fun a ha => ?_
    refine seg ha 2 [(4, .slice ao12 x13.length cap12), (6, .pointer (some ⟨g32, 0, none⟩)), (7, .int .i64 (((rd a0 x14).Value).length : Int)), (11, .slice ao1 a0.length cap1), (12, .int .i64 (a0.length : Int)), (13, .int .i64 x14), (31, .bool (decide (((rd a0 x14).Flags) < (0 : Int))))] (by kernel_rfl) fun a ha => ?_
    refine hK75 _ _ ?_; try clear hK75 K75
    refine cnd ha rfl (fun hc76 => ?_) (fun hc76 => ?_)
    ·have H := ite_t hc76 H
     refine wp_skip ?_
     obtain rfl := Option.some.inj H
     exact J40 _ _ (ha.sel (by kernel_rfl)) f12 f1 f30 hBg32 hC hM
    ·have H := ite_f hc76 H
     refine wp_seq_k fun K77 hK77 => ?_
     refine wp_region_lit ?_
     refine seg ha 1 [(4, .slice ao12 x13.length cap12), (6, .pointer (some ⟨g32, 0, none⟩)), (7, .int .i64 (((rd a0 x14).Value).length : Int)), (11, .slice ao1 a0.length cap1), (12, .int .i64 (a0.length : Int)), (13, .int .i64 x14), (35, .pointer (some ⟨g32, 0, none⟩))] (by kernel_rfl) fun a ha => ?_
     refine ld (v := .int .i64 ((rd a0 x14).Flags)) ha rfl (by kernel_rfl) rfl rfl rfl (hBg32.cell' (o := 0) rfl (by kernel_rfl)) fun a ha => ?_
     refine seg ha 2 [(4, .slice ao12 x13.length cap12), (6, .pointer (some ⟨g32, 0, none⟩)), (7, .int .i64 (((rd a0 x14).Value).length : Int)), (11, .slice ao1 a0.length cap1), (12, .int .i64 (a0.length : Int)), (13, .int .i64 x14), (31, .bool (decide (((rd a0 x14).Flags) > (255 : Int))))] (by kernel_rfl) fun a ha => ?_
     refine hK77 _ _ ?_; try clear hK77 K77
     refine cnd ha rfl (fun hc78 => ?_) (fun hc78 => ?_)
     ·have H := ite_t hc78 H
      refine wp_skip ?_
      obtain rfl := Option.some.inj H
      exact J40 _ _ (ha.sel (by kernel_rfl)) f12 f1 f30 hBg32 hC hM
     ·have H := ite_f hc78 H
      refine wp_seq_k fun K79 hK79 => ?_
      refine wp_region_lit ?_
      refine seg ha 1 [(4, .slice ao12 x13.length cap12), (6, .pointer (some ⟨g32, 0, none⟩)), (7, .int .i64 (((rd a0 x14).Value).length : Int)), (11, .slice ao1 a0.length cap1), (12, .int .i64 (a0.length : Int)), (13, .int .i64 x14), (38, .pointer (some ⟨g32, 0, none⟩))] (by kernel_rfl) fun a ha => ?_
      refine ld (v := .int .i64 ((rd a0 x14).Flags)) ha rfl (by kernel_rfl) rfl rfl rfl (hBg32.cell' (o := 0) rfl (by kernel_rfl)) fun a ha => ?_
      refine seg ha 3 [(4, .slice ao12 x13.length cap12), (6, .pointer (some ⟨g32, 0, none⟩)), (7, .int .i64 (((rd a0 x14).Value).length : Int)), (11, .slice ao1 a0.length cap1), (12, .int .i64 (a0.length : Int)), (13, .int .i64 x14), (31, .bool ((IntKind.i64.wrap (BitVec.ofInt IntKind.i64.bits ((rd a0 x14).Flags) &&& BitVec.ofInt IntKind.i64.bits (16 : Int)).toNat) != (0 : Int)))] (by kernel_rfl) fun a ha => ?_
      refine hK79 _ _ ?_; try clear hK79 K79
      refine cnd ha rfl (fun hc80 => ?_) (fun hc80 => ?_)
      ·have H := ite_t hc80 H
       refine wp_skip ?_
       obtain rfl := Option.some.inj H
       exact J40 _ _ (ha.sel (by kernel_rfl)) f12 f1 f30 hBg32 hC hM
      ·have H := ite_f hc80 H
       refine wp_seq_k fun K81 hK81 => ?_
       refine wp_region_lit ?_
       refine seg ha 1 [(4, .slice ao12 x13.length cap12), (6, .pointer (some ⟨g32, 0, none⟩)), (7, .int .i64 (((rd a0 x14).Value).length : Int)), (11, .slice ao1 a0.length cap1), (12, .int .i64 (a0.length : Int)), (13, .int .i64 x14), (42, .pointer (some ⟨g32, 1, none⟩))] (by kernel_rfl) fun a ha => ?_
       refine ld (v := .int .i64 ((rd a0 x14).Kind)) ha rfl (by kernel_rfl) rfl rfl rfl (hBg32.cell' (o := 1) rfl (by kernel_rfl)) fun a ha => ?_
       refine seg ha 2 [(4, .slice ao12 x13.length cap12), (6, .pointer (some ⟨g32, 0, none⟩)), (7, .int .i64 (((rd a0 x14).Value).length : Int)), (11, .slice ao1 a0.length cap1), (12, .int .i64 (a0.length : Int)), (13, .int .i64 x14), (31, .bool (decide (((rd a0 x14).Kind) < (0 : Int))))] (by kernel_rfl) fun a ha => ?_
       refine hK81 _ _ ?_; try clear hK81 K81
       refine cnd ha rfl (fun hc82 => ?_) (fun hc82 => ?_)
       ·have H := ite_t hc82 H
        refine wp_skip ?_
        obtain rfl := Option.some.inj H
        exact J40 _ _ (ha.sel (by kernel_rfl)) f12 f1 f30 hBg32 hC hM
       ·have H := ite_f hc82 H
        refine wp_region_lit ?_
        refine seg ha 1 [(4, .slice ao12 x13.length cap12), (6, .pointer (some ⟨g32, 0, none⟩)), (7, .int .i64 (((rd a0 x14).Value).length : Int)), (11, .slice ao1 a0.length cap1), (12, .int .i64 (a0.length : Int)), (13, .int .i64 x14), (45, .pointer (some ⟨g32, 1, none⟩))] (by kernel_rfl) fun a ha => ?_
        refine ld (v := .int .i64 ((rd a0 x14).Kind)) ha rfl (by kernel_rfl) rfl rfl rfl (hBg32.cell' (o := 1) rfl (by kernel_rfl)) fun a ha => ?_
        refine seg ha 2 [(4, .slice ao12 x13.length cap12), (6, .pointer (some ⟨g32, 0, none⟩)), (7, .int .i64 (((rd a0 x14).Value).length : Int)), (11, .slice ao1 a0.length cap1), (12, .int .i64 (a0.length : Int)), (13, .int .i64 x14), (31, .bool (decide (((rd a0 x14).Kind) > (255 : Int))))] (by kernel_rfl) fun a ha => ?_
        obtain rfl := Option.some.inj H
        exact J40 _ _ (ha.sel (by kernel_rfl)) f12 f1 f30 hBg32 hC hM
   ·have H := ite_f hc20 H
    refine wp_exit ?_
    simp only [Exit.then, Exit.inBlock, ↓reduceIte, Nat.reduceEqDiff]
    obtain rfl := Option.some.inj H
    exact J11 _ _ _ ao12 cap12 rfl (ha.sel (by kernel_rfl)) f12 e_i12 p_i12_M hC hM
def vineryref09_SameRaws.l0 (a0 : List S_api_Raw) (a1 : List S_api_Raw) : Nat → Int → Option ((Bool) ⊕ (Unit))
  | 0, _ => none
  | kk + 1, x11 => (if (decide (x11 < (a0.length : Int))) = true then ((if 0 ≤ x11 ∧ x11 < (a0.length : Int) then (if 0 ≤ x11 ∧ x11 < (a1.length : Int) then (if (((rd a0 x11).Flags) != ((rd a1 x11).Flags)) = true then some (true : Bool) else (if 0 ≤ x11 ∧ x11 < (a0.length : Int) then (if 0 ≤ x11 ∧ x11 < (a1.length : Int) then (if (((rd a0 x11).Kind) != ((rd a1 x11).Kind)) = true then some (true : Bool) else (if 0 ≤ x11 ∧ x11 < (a0.length : Int) then (if 0 ≤ x11 ∧ x11 < (a1.length : Int) then some (!((bstr (b2s ((rd a0 x11).Value))).toList == (bstr (b2s ((rd a1 x11).Value))).toList) : Bool) else none) else none)) else none) else none)) else none) else none)).bind fun s18 => (if s18 = true then some (.inl ((false : Bool))) else vineryref09_SameRaws.l0 a0 a1 kk (IntKind.i64.wrap (x11 + (1 : Int)))) else some (.inr (() : Unit)))
def vineryref09_SameRaws.f (k : Nat) (a0 : List S_api_Raw) (a1 : List S_api_Raw) : Option (Bool) := (if ((a0.length : Int) != (a1.length : Int)) = true then some ((false : Bool)) else (vineryref09_SameRaws.l0 a0 a1 k (0 : Int)).bind fun s10 => match s10 with | .inl r => some r | .inr s10' => some ((true : Bool)))
set_option maxRecDepth 100000 in
theorem vineryref09_SameRaws.walk (w : World) (M : List Nat) (hM : MS M w) (a0 : List S_api_Raw) (ao1 : Option Addr) (cap1 : Nat) (f1 : RSl rS_api_Raw 61 w M ao1 cap1 a0) (a1 : List S_api_Raw) (ao2 : Option Addr) (cap2 : Nat) (f2 : RSl rS_api_Raw 61 w M ao2 cap2 a1) (k : Nat) (r : Bool) (H : vineryref09_SameRaws.f k a0 a1 = some r) :
    To Tryd.prog 30 [.slice ao1 a0.length cap1, .slice ao2 a1.length cap2] w fun v w' => v = .bool r ∧ Chg [] w w' ∧ MS (M) w' := by
 unfold vineryref09_SameRaws.f at H
 refine ent Tryd.func30 rfl [(0, .slice ao1 a0.length cap1), (1, .slice ao2 a1.length cap2)] rfl (by rfl) fun a ha => ?_
 have hC : Chg [] w w := Chg.refl _ _
 refine wp_seq_k fun K3 hK3 => ?_
 refine wp_region_lit ?_
 refine seg ha 1 [(0, .slice ao1 a0.length cap1), (1, .slice ao2 a1.length cap2)] (by kernel_rfl) fun a ha => ?_
 refine hK3 _ _ ?_; try clear hK3 K3
 refine wp_seq_k fun K4 hK4 => ?_
 refine wp_seq_k fun K5 hK5 => ?_
 refine wp_region_lit ?_
 refine seg ha 5 [(0, .slice ao1 a0.length cap1), (1, .slice ao2 a1.length cap2), (10, .bool ((a0.length : Int) != (a1.length : Int)))] (by kernel_rfl) fun a ha => ?_
 refine hK5 _ _ ?_; try clear hK5 K5
 refine cnd ha rfl (fun hc6 => ?_) (fun hc6 => ?_)
 ·have H := ite_t hc6 H
  refine wp_seq_k fun K7 hK7 => ?_
  refine wp_region_lit ?_
  refine seg ha 1 [(4, .bool false)] (by kernel_rfl) fun a ha => ?_
  refine hK7 _ _ ?_; try clear hK7 K7
  refine wp_ret ?_
  try simp only [Exit.then, Exit.inBlock]
  obtain rfl := Option.some.inj H
  refine rt1 ha rfl rfl ?_
  exact ⟨rfl, hC, hM⟩
 ·have H := ite_f hc6 H
  refine wp_skip ?_
  refine hK4 _ _ ?_; try clear hK4 K4
  refine wp_seq_k fun K8 hK8 => ?_
  refine wp_seq_k fun K9 hK9 => ?_
  refine wp_region_lit ?_
  refine seg ha 1 [(0, .slice ao1 a0.length cap1), (1, .slice ao2 a1.length cap2), (5, .int .i64 (0 : Int))] (by kernel_rfl) fun a ha => ?_
  refine hK9 _ _ ?_; try clear hK9 K9
  refine wp_block ?_
  obtain ⟨s10, H10, H⟩ := bind_some H
  have J10 : ∀ s10' (a : Act) (wx10 : World), s10 = .inr s10' → Has a Tryd.f30.ntmps [] → (Chg [] w wx10) → (MS (M) wx10) → K8 a wx10 := by
   intro s10' a wx10 hs ha hC hM
   subst hs
   refine hK8 _ _ ?_; try clear hK8 K8
   refine wp_seq_k fun K12 hK12 => ?_
   refine wp_region_lit ?_
   refine seg ha 1 [(4, .bool true)] (by kernel_rfl) fun a ha => ?_
   refine hK12 _ _ ?_; try clear hK12 K12
   refine wp_ret ?_
   try simp only [Exit.then, Exit.inBlock]
   obtain rfl := Option.some.inj H
   refine rt1 ha rfl rfl ?_
   exact ⟨rfl, hC, hM⟩
  have Hc10 := H
  have H := H10
  refine wp_loop_ghost (fun kk a w10 => ∃ (x11 : Int), vineryref09_SameRaws.l0 a0 a1 kk x11 = some s10 ∧ Has a Tryd.f30.ntmps [(0, .slice ao1 a0.length cap1), (1, .slice ao2 a1.length cap2), (5, .int .i64 x11)] ∧ (RSl rS_api_Raw 61 w10 (M) ao1 cap1 a0) ∧ (RSl rS_api_Raw 61 w10 (M) ao2 cap2 a1) ∧ (Chg [] w w10) ∧ (MS (M) w10)) k ?_ ?_
  ·skip
   exact ⟨(0 : Int), H, (ha.sel (by kernel_rfl)), f1, f2, hC, hM⟩
  ·rintro kk a w10 ⟨x11, H, ha, f1, f2, hC, hM⟩
   obtain _ | kk := kk
   ·exact nomatch (show none = some _ from H)
   rw [vineryref09_SameRaws.l0] at H
   refine wp_seq_k fun K13 hK13 => ?_
   refine wp_seq_k fun K14 hK14 => ?_
   refine wp_region_lit ?_
   refine seg ha 4 [(0, .slice ao1 a0.length cap1), (1, .slice ao2 a1.length cap2), (5, .int .i64 x11), (14, .bool (decide (x11 < (a0.length : Int))))] (by kernel_rfl) fun a ha => ?_
   refine hK14 _ _ ?_; try clear hK14 K14
   refine cnd ha rfl (fun hc15 => ?_) (fun hc15 => ?_)
   ·have H := ite_t hc15 H
    refine wp_skip ?_
    refine hK13 _ _ ?_; try clear hK13 K13
    refine wp_seq_k fun K16 hK16 => ?_
    refine wp_block ?_
    refine wp_seq_k fun K17 hK17 => ?_
    refine drq0 (fun w' => Chg [] w10 w') (by kernel_rfl) (by kernel_rfl) (fun _ h => h) ?_
    obtain ⟨s18, H18, H⟩ := bind_some H
    have J18 : ∀ (a : Act) (w18 : World), Has a Tryd.f30.ntmps [(0, .slice ao1 a0.length cap1), (1, .slice ao2 a1.length cap2), (5, .int .i64 x11), (55, .bool s18)] → (RSl rS_api_Raw 61 w18 (M) ao1 cap1 a0) → (RSl rS_api_Raw 61 w18 (M) ao2 cap2 a1) → (Chg [] w w18) → (MS (M) w18) → K17 a w18 := by
     intro a w18 ha f1 f2 hC hM
     refine hK17 _ _ ?_; try clear hK17 K17
     refine cnd ha rfl (fun hc19 => ?_) (fun hc19 => ?_)
     ·have H := ite_t hc19 H
      refine wp_seq_k fun K20 hK20 => ?_
      refine wp_region_lit ?_
      refine seg ha 1 [(4, .bool false)] (by kernel_rfl) fun a ha => ?_
      refine hK20 _ _ ?_; try clear hK20 K20
      refine wp_ret ?_
      try simp only [Exit.then, Exit.inBlock]
      obtain rfl := Option.some.inj H
      have H := (show some _ = some _ from Hc10)
      obtain rfl := Option.some.inj H
      refine rt1 ha rfl rfl ?_
      exact ⟨rfl, hC, hM⟩
     ·have H := ite_f hc19 H
      refine wp_skip ?_
      refine hK16 _ _ ?_; try clear hK16 K16
      refine wp_region_lit ?_
      refine seg ha 3 [(0, .slice ao1 a0.length cap1), (1, .slice ao2 a1.length cap2), (5, .int .i64 (IntKind.i64.wrap (x11 + (1 : Int))))] (by kernel_rfl) fun a ha => ?_
      exact ⟨kk, Nat.lt_succ_self _, ⟨IntKind.i64.wrap (x11 + (1 : Int)), H, (ha.sel (by kernel_rfl)), f1, f2, hC, hM⟩⟩
    have H := H18
    refine qp 0 (.slice ao1 a0.length cap1) ha rfl rfl rfl (by kernel_rfl) fun a ha => ?_
    refine qp 0 (.int .i64 x11) ha rfl rfl rfl (by kernel_rfl) fun a ha => ?_
    obtain ⟨⟨hx21, hx21'⟩, H⟩ := ite_some H
    obtain ⟨ge22, oe230, cs24, hx21eq, hn27, hR25, hE26⟩ := RSl.elem f1 (Int.toNat x11) (by omega)
    rw [rd_get] at hR25
    obtain ⟨ao28, cap28, rfl, f28⟩ := rS_api_Raw.open hR25
    refine qv (v := .pointer (some ⟨ge22, (oe230 + (Int.toNat x11) * rS_api_Raw.sz), none⟩)) ha rfl rfl rfl (fun w' hs => ix_run (r := rS_api_Raw) (T := 61) ha (by kernel_rfl) (by kernel_rfl) (by rfl) (by rfl) hx21eq hx21 hx21') fun a ha => ?_
    refine qp 0 (.pointer (some ⟨ge22, (oe230 + (Int.toNat x11) * rS_api_Raw.sz), none⟩)) ha rfl rfl rfl (by kernel_rfl) fun a ha => ?_
    refine qv (v := .int .i64 ((rd a0 x11).Flags)) ha rfl rfl rfl (fun w' hs => ld_run ha rfl (by kernel_rfl) (hs.keep (hE26 0 (.int .i64 ((rd a0 x11).Flags)) (by kernel_rfl)))) fun a ha => ?_
    refine qp 0 (.slice ao2 a1.length cap2) ha rfl rfl rfl (by kernel_rfl) fun a ha => ?_
    refine qp 0 (.int .i64 x11) ha rfl rfl rfl (by kernel_rfl) fun a ha => ?_
    obtain ⟨⟨hx29, hx29'⟩, H⟩ := ite_some H
    obtain ⟨ge30, oe310, cs32, hx29eq, hn35, hR33, hE34⟩ := RSl.elem f2 (Int.toNat x11) (by omega)
    rw [rd_get] at hR33
    obtain ⟨ao36, cap36, rfl, f36⟩ := rS_api_Raw.open hR33
    refine qv (v := .pointer (some ⟨ge30, (oe310 + (Int.toNat x11) * rS_api_Raw.sz), none⟩)) ha rfl rfl rfl (fun w' hs => ix_run (r := rS_api_Raw) (T := 61) ha (by kernel_rfl) (by kernel_rfl) (by rfl) (by rfl) hx29eq hx29 hx29') fun a ha => ?_
    refine qp 0 (.pointer (some ⟨ge30, (oe310 + (Int.toNat x11) * rS_api_Raw.sz), none⟩)) ha rfl rfl rfl (by kernel_rfl) fun a ha => ?_
    refine qv (v := .int .i64 ((rd a1 x11).Flags)) ha rfl rfl rfl (fun w' hs => ld_run ha rfl (by kernel_rfl) (hs.keep (hE34 0 (.int .i64 ((rd a1 x11).Flags)) (by kernel_rfl)))) fun a ha => ?_
    refine qp 0 (.bool (((rd a0 x11).Flags) != ((rd a1 x11).Flags))) ha rfl rfl rfl (by kernel_rfl) fun a ha => ?_
    refine qp 0 (.bool (((rd a0 x11).Flags) != ((rd a1 x11).Flags))) ha rfl rfl rfl (by kernel_rfl) fun a ha => ?_
    have ha := ha.sel (env' := [(28, .bool (((rd a0 x11).Flags) != ((rd a1 x11).Flags))), (0, .slice ao1 a0.length cap1), (1, .slice ao2 a1.length cap2), (5, .int .i64 x11)]) (by kernel_rfl)
    rcases Bool.eq_false_or_eq_true (((rd a0 x11).Flags) != ((rd a1 x11).Flags)) with hb37 | hb37
    ·have ha := ha.lit hb37
     have H := ite_t hb37 H
     refine qo ha rfl rfl rfl fun a ha => ?_
     refine qo ha rfl rfl rfl fun a ha => ?_
     refine qo ha rfl rfl rfl fun a ha => ?_
     refine qo ha rfl rfl rfl fun a ha => ?_
     refine qo ha rfl rfl rfl fun a ha => ?_
     refine qo ha rfl rfl rfl fun a ha => ?_
     refine qo ha rfl rfl rfl fun a ha => ?_
     refine qo ha rfl rfl rfl fun a ha => ?_
     refine qo ha rfl rfl rfl fun a ha => ?_
     refine qo ha rfl rfl rfl fun a ha => ?_
     refine qo ha rfl rfl rfl fun a ha => ?_
     refine qp 3 (.bool true) ha rfl rfl rfl (by kernel_rfl) fun a ha => ?_
     refine qp 0 (.bool true) ha rfl rfl rfl (by kernel_rfl) fun a ha => ?_
     refine qo ha rfl rfl rfl fun a ha => ?_
     refine qo ha rfl rfl rfl fun a ha => ?_
     refine qo ha rfl rfl rfl fun a ha => ?_
     refine qo ha rfl rfl rfl fun a ha => ?_
     refine qo ha rfl rfl rfl fun a ha => ?_
     refine qo ha rfl rfl rfl fun a ha => ?_
     refine qo ha rfl rfl rfl fun a ha => ?_
     refine qo ha rfl rfl rfl fun a ha => ?_
     refine qo ha rfl rfl rfl fun a ha => ?_
     refine qo ha rfl rfl rfl fun a ha => ?_
     refine qo ha rfl rfl rfl fun a ha => ?_
     refine qo ha rfl rfl rfl fun a ha => ?_
     refine qo ha rfl rfl rfl fun a ha => ?_
     refine qp 3 (.bool true) ha rfl rfl rfl (by kernel_rfl) fun a ha => ?_
     refine wpQuiet_nil ?_
     intro w38 hc39
     have o1 : Ok [] (M) w10.heap.size := Ok.nil _ _
     have o2 : Ok (M) (M) w10.heap.size := (Ok.refl _ _)
     have f1 := f1.chg hc39 o1 o2
     have f2 := f2.chg hc39 o1 o2
     have hM : MS (M) w38 := (hM.chg hc39)
     have hC := hC.trans hc39 (Ok.nil _ _)
     refine wpl_end ?_
     obtain rfl := Option.some.inj H
     exact J18 _ _ (ha.sel (by kernel_rfl)) f1 f2 hC hM
    ·have ha := ha.lit hb37
     have H := ite_f hb37 H
     refine qp 0 (.slice ao1 a0.length cap1) ha rfl rfl rfl (by kernel_rfl) fun a ha => ?_
     refine qp 0 (.int .i64 x11) ha rfl rfl rfl (by kernel_rfl) fun a ha => ?_
     obtain ⟨⟨hx40, hx40'⟩, H⟩ := ite_some H
     obtain ⟨ge41, oe420, cs43, hx40eq, hn46, hR44, hE45⟩ := RSl.elem f1 (Int.toNat x11) (by omega)
     rw [rd_get] at hR44
     obtain ⟨ao47, cap47, rfl, f47⟩ := rS_api_Raw.open hR44
     refine qv (v := .pointer (some ⟨ge41, (oe420 + (Int.toNat x11) * rS_api_Raw.sz), none⟩)) ha rfl rfl rfl (fun w' hs => ix_run (r := rS_api_Raw) (T := 61) ha (by kernel_rfl) (by kernel_rfl) (by rfl) (by rfl) hx40eq hx40 hx40') fun a ha => ?_
     refine qp 0 (.pointer (some ⟨ge41, (oe420 + (Int.toNat x11) * rS_api_Raw.sz) + 1, none⟩)) ha rfl rfl rfl (by kernel_rfl) fun a ha => ?_
     refine qv (v := .int .i64 ((rd a0 x11).Kind)) ha rfl rfl rfl (fun w' hs => ld_run ha rfl (by kernel_rfl) (hs.keep (hE45 1 (.int .i64 ((rd a0 x11).Kind)) (by kernel_rfl)))) fun a ha => ?_
     refine qp 0 (.slice ao2 a1.length cap2) ha rfl rfl rfl (by kernel_rfl) fun a ha => ?_
     refine qp 0 (.int .i64 x11) ha rfl rfl rfl (by kernel_rfl) fun a ha => ?_
     obtain ⟨⟨hx48, hx48'⟩, H⟩ := ite_some H
     obtain ⟨ge49, oe500, cs51, hx48eq, hn54, hR52, hE53⟩ := RSl.elem f2 (Int.toNat x11) (by omega)
     rw [rd_get] at hR52
     obtain ⟨ao55, cap55, rfl, f55⟩ := rS_api_Raw.open hR52
     refine qv (v := .pointer (some ⟨ge49, (oe500 + (Int.toNat x11) * rS_api_Raw.sz), none⟩)) ha rfl rfl rfl (fun w' hs => ix_run (r := rS_api_Raw) (T := 61) ha (by kernel_rfl) (by kernel_rfl) (by rfl) (by rfl) hx48eq hx48 hx48') fun a ha => ?_
     refine qp 0 (.pointer (some ⟨ge49, (oe500 + (Int.toNat x11) * rS_api_Raw.sz) + 1, none⟩)) ha rfl rfl rfl (by kernel_rfl) fun a ha => ?_
     refine qv (v := .int .i64 ((rd a1 x11).Kind)) ha rfl rfl rfl (fun w' hs => ld_run ha rfl (by kernel_rfl) (hs.keep (hE53 1 (.int .i64 ((rd a1 x11).Kind)) (by kernel_rfl)))) fun a ha => ?_
     refine qp 0 (.bool (((rd a0 x11).Kind) != ((rd a1 x11).Kind))) ha rfl rfl rfl (by kernel_rfl) fun a ha => ?_
     refine qp 4 (.bool (((rd a0 x11).Kind) != ((rd a1 x11).Kind))) ha rfl rfl rfl (by kernel_rfl) fun a ha => ?_
     refine qp 0 (.bool (((rd a0 x11).Kind) != ((rd a1 x11).Kind))) ha rfl rfl rfl (by kernel_rfl) fun a ha => ?_
     have ha := ha.sel (env' := [(41, .bool (((rd a0 x11).Kind) != ((rd a1 x11).Kind))), (0, .slice ao1 a0.length cap1), (1, .slice ao2 a1.length cap2), (5, .int .i64 x11)]) (by kernel_rfl)
     rcases Bool.eq_false_or_eq_true (((rd a0 x11).Kind) != ((rd a1 x11).Kind)) with hb56 | hb56
     ·have ha := ha.lit hb56
      have H := ite_t hb56 H
      refine qo ha rfl rfl rfl fun a ha => ?_
      refine qo ha rfl rfl rfl fun a ha => ?_
      refine qo ha rfl rfl rfl fun a ha => ?_
      refine qo ha rfl rfl rfl fun a ha => ?_
      refine qo ha rfl rfl rfl fun a ha => ?_
      refine qo ha rfl rfl rfl fun a ha => ?_
      refine qo ha rfl rfl rfl fun a ha => ?_
      refine qo ha rfl rfl rfl fun a ha => ?_
      refine qo ha rfl rfl rfl fun a ha => ?_
      refine qo ha rfl rfl rfl fun a ha => ?_
      refine qo ha rfl rfl rfl fun a ha => ?_
      refine qo ha rfl rfl rfl fun a ha => ?_
      refine qo ha rfl rfl rfl fun a ha => ?_
      refine qp 3 (.bool true) ha rfl rfl rfl (by kernel_rfl) fun a ha => ?_
      refine wpQuiet_nil ?_
      intro w57 hc58
      have o1 : Ok [] (M) w10.heap.size := Ok.nil _ _
      have o2 : Ok (M) (M) w10.heap.size := (Ok.refl _ _)
      have f1 := f1.chg hc58 o1 o2
      have f2 := f2.chg hc58 o1 o2
      have hM : MS (M) w57 := (hM.chg hc58)
      have hC := hC.trans hc58 (Ok.nil _ _)
      refine wpl_end ?_
      obtain rfl := Option.some.inj H
      exact J18 _ _ (ha.sel (by kernel_rfl)) f1 f2 hC hM
     ·have ha := ha.lit hb56
      have H := ite_f hb56 H
      refine qp 0 (.slice ao1 a0.length cap1) ha rfl rfl rfl (by kernel_rfl) fun a ha => ?_
      refine qp 0 (.int .i64 x11) ha rfl rfl rfl (by kernel_rfl) fun a ha => ?_
      obtain ⟨⟨hx59, hx59'⟩, H⟩ := ite_some H
      obtain ⟨ge60, oe610, cs62, hx59eq, hn65, hR63, hE64⟩ := RSl.elem f1 (Int.toNat x11) (by omega)
      rw [rd_get] at hR63
      obtain ⟨ao66, cap66, rfl, f66⟩ := rS_api_Raw.open hR63
      refine qv (v := .pointer (some ⟨ge60, (oe610 + (Int.toNat x11) * rS_api_Raw.sz), none⟩)) ha rfl rfl rfl (fun w' hs => ix_run (r := rS_api_Raw) (T := 61) ha (by kernel_rfl) (by kernel_rfl) (by rfl) (by rfl) hx59eq hx59 hx59') fun a ha => ?_
      refine qp 0 (.pointer (some ⟨ge60, (oe610 + (Int.toNat x11) * rS_api_Raw.sz) + 2, none⟩)) ha rfl rfl rfl (by kernel_rfl) fun a ha => ?_
      refine qv (v := .slice ao66 ((rd a0 x11).Value).length cap66) ha rfl rfl rfl (fun w' hs => ld_run ha rfl (by kernel_rfl) (hs.keep (hE64 2 (.slice ao66 ((rd a0 x11).Value).length cap66) (by kernel_rfl)))) fun a ha => ?_
      refine qv (v := .string (bstr (b2s ((rd a0 x11).Value)))) ha rfl rfl rfl (fun w' hs => cvs_run ha rfl (by kernel_rfl) (by kernel_rfl) (by kernel_rfl) (RSl.chg (M' := []) f66 hs (Ok.nil _ _) (Ok.nil _ _))) fun a ha => ?_
      refine qp 0 (.slice ao2 a1.length cap2) ha rfl rfl rfl (by kernel_rfl) fun a ha => ?_
      refine qp 0 (.int .i64 x11) ha rfl rfl rfl (by kernel_rfl) fun a ha => ?_
      obtain ⟨⟨hx67, hx67'⟩, H⟩ := ite_some H
      obtain ⟨ge68, oe690, cs70, hx67eq, hn73, hR71, hE72⟩ := RSl.elem f2 (Int.toNat x11) (by omega)
      rw [rd_get] at hR71
      obtain ⟨ao74, cap74, rfl, f74⟩ := rS_api_Raw.open hR71
      refine qv (v := .pointer (some ⟨ge68, (oe690 + (Int.toNat x11) * rS_api_Raw.sz), none⟩)) ha rfl rfl rfl (fun w' hs => ix_run (r := rS_api_Raw) (T := 61) ha (by kernel_rfl) (by kernel_rfl) (by rfl) (by rfl) hx67eq hx67 hx67') fun a ha => ?_
      refine qp 0 (.pointer (some ⟨ge68, (oe690 + (Int.toNat x11) * rS_api_Raw.sz) + 2, none⟩)) ha rfl rfl rfl (by kernel_rfl) fun a ha => ?_
      refine qv (v := .slice ao74 ((rd a1 x11).Value).length cap74) ha rfl rfl rfl (fun w' hs => ld_run ha rfl (by kernel_rfl) (hs.keep (hE72 2 (.slice ao74 ((rd a1 x11).Value).length cap74) (by kernel_rfl)))) fun a ha => ?_
      refine qv (v := .string (bstr (b2s ((rd a1 x11).Value)))) ha rfl rfl rfl (fun w' hs => cvs_run ha rfl (by kernel_rfl) (by kernel_rfl) (by kernel_rfl) (RSl.chg (M' := []) f74 hs (Ok.nil _ _) (Ok.nil _ _))) fun a ha => ?_
      refine qp 0 (.bool (!((bstr (b2s ((rd a0 x11).Value))).toList == (bstr (b2s ((rd a1 x11).Value))).toList))) ha rfl rfl rfl (by kernel_rfl) fun a ha => ?_
      refine qp 4 (.bool (!((bstr (b2s ((rd a0 x11).Value))).toList == (bstr (b2s ((rd a1 x11).Value))).toList))) ha rfl rfl rfl (by kernel_rfl) fun a ha => ?_
      refine wpQuiet_nil ?_
      intro w75 hc76
      have o1 : Ok [] (M) w10.heap.size := Ok.nil _ _
      have o2 : Ok (M) (M) w10.heap.size := (Ok.refl _ _)
      have f1 := f1.chg hc76 o1 o2
      have f2 := f2.chg hc76 o1 o2
      have f66 := f66.chg hc76 o1 o2
      have f74 := f74.chg hc76 o1 o2
      have q_hn65 : ge60 ∉ M := fun h => (o2 ge60 h).elim hn65 (fun h => absurd (lt_cell (hE64 0 _ rfl)) (Nat.not_lt.2 h))
      have hE64 : ∀ j v, (cS_api_Raw (rd a0 x11) ao66 cap66)[j]? = some v → w75.cell? ⟨ge60, (oe610 + (Int.toNat x11) * rS_api_Raw.sz) + j, none⟩ = some v := fun j v hv => (cell_keep hc76 o1 hn65 (hE64 j v hv))
      have hn65 := q_hn65
      have q_hn73 : ge68 ∉ M := fun h => (o2 ge68 h).elim hn73 (fun h => absurd (lt_cell (hE72 0 _ rfl)) (Nat.not_lt.2 h))
      have hE72 : ∀ j v, (cS_api_Raw (rd a1 x11) ao74 cap74)[j]? = some v → w75.cell? ⟨ge68, (oe690 + (Int.toNat x11) * rS_api_Raw.sz) + j, none⟩ = some v := fun j v hv => (cell_keep hc76 o1 hn73 (hE72 j v hv))
      have hn73 := q_hn73
      have hM : MS (M) w75 := (hM.chg hc76)
      have hC := hC.trans hc76 (Ok.nil _ _)
      refine wpl_end ?_
      obtain rfl := Option.some.inj H
      exact J18 _ _ (ha.sel (by kernel_rfl)) f1 f2 hC hM
   ·have H := ite_f hc15 H
    refine wp_exit ?_
    simp only [Exit.then, Exit.inBlock, ↓reduceIte, Nat.reduceEqDiff]
    obtain rfl := Option.some.inj H
    exact J10 _ _ _ rfl (ha.sel (by kernel_rfl)) hC hM
def vinerylaw09_AttrJoins.f (k : Nat) (a0 : List Int) (a1 : List S_api_Raw) : Option (Bool) := (vinerylaw09_small.f k ).bind fun t5 => (vinerylaw09_fewRaws.f k a1).bind fun t7 => (if (if (!t7) = true then true else (decide ((a0.length : Int) > (16384 : Int)))) = true then some ((t5 : Bool)) else (attr_Join.f k a1).bind fun t13 => lv (S := Unit) ((if (t13.2 == (0 : Int)) = true then (attr_Split.f k t13.1).bind fun t43 => ((if (t43.2 != (0 : Int)) = true then some (true : Bool) else (vineryref09_SameRaws.f k a1 t43.1).bind fun t50 => some (!t50 : Bool))).bind fun s46 => (if s46 = true then some (.inl (some ((false : Bool)))) else some (.inr ((() : Unit)))) else some (.inr ((() : Unit))))) fun s16 => (attr_Split.f k a0).bind fun t18 => (if (t18.2 != (0 : Int)) = true then some ((if t5 = true then ((t18.1.length : Int) == (0 : Int)) else false : Bool)) else (attr_Join.f k t18.1).bind fun t25 => (if (t25.2 != (0 : Int)) = true then some ((if t5 = true then (t25.2 == (2 : Int)) else false : Bool)) else (attr_Split.f k t25.1).bind fun t32 => ((if t5 = true then (if (t32.2 == (0 : Int)) = true then (vineryref09_SameRaws.f k t18.1 t32.1).bind fun t38 => (if t38 = true then some (decide ((t25.1.length : Int) ≤ (a0.length : Int)) : Bool) else some (false : Bool)) else some (false : Bool)) else some (false : Bool))).bind fun s35 => some ((s35 : Bool)))))
set_option maxRecDepth 100000 in
theorem vinerylaw09_AttrJoins.walk (w : World) (M : List Nat) (hM : MS M w) (a0 : List Int) (ao1 : Option Addr) (cap1 : Nat) (f1 : RSl (rInt .u8) 5 w M ao1 cap1 a0) (a1 : List S_api_Raw) (ao2 : Option Addr) (cap2 : Nat) (f2 : RSl rS_api_Raw 61 w M ao2 cap2 a1) (k : Nat) (r : Bool) (H : vinerylaw09_AttrJoins.f k a0 a1 = some r) :
    To Tryd.prog 9 [.slice ao1 a0.length cap1, .slice ao2 a1.length cap2] w fun v w' => v = .bool r ∧ Chg [] w w' ∧ MS (M) w' := by
 unfold vinerylaw09_AttrJoins.f at H
 refine ent Tryd.func9 rfl [(0, .slice ao1 a0.length cap1), (1, .slice ao2 a1.length cap2)] rfl (by rfl) fun a ha => ?_
 have hC : Chg [] w w := Chg.refl _ _
 refine wp_seq_k fun K3 hK3 => ?_
 refine wp_region_lit ?_
 refine seg ha 1 [(0, .slice ao1 a0.length cap1), (1, .slice ao2 a1.length cap2)] (by kernel_rfl) fun a ha => ?_
 refine hK3 _ _ ?_; try clear hK3 K3
 refine wp_seq_k fun K4 hK4 => ?_
 refine wp_region_lit ?_
 obtain ⟨t5, H5, H⟩ := bind_some H
 refine cl ha (by rfl) (by kernel_rfl) (by rfl) (by rfl) (by rfl) (vinerylaw09_small.walk w _ hM  k _ H5) ?_
 rintro _ w5 ⟨rfl, hc5, hMn⟩ a ha
 have o1 : Ok [] (M) w.heap.size := Ok.nil _ _
 have o2 : Ok (M) (M) w.heap.size := (Ok.refl _ _)
 have f1 := f1.chg hc5 o1 o2
 have f2 := f2.chg hc5 o1 o2
 have hM : MS (M) w5 := (hM.chg hc5)
 have hC := hC.trans hc5 (Ok.nil _ _)
 refine seg ha 1 [(0, .slice ao1 a0.length cap1), (1, .slice ao2 a1.length cap2), (5, .bool t5)] (by kernel_rfl) fun a ha => ?_
 refine hK4 _ _ ?_; try clear hK4 K4
 refine wp_seq_k fun K6 hK6 => ?_
 refine wp_region_lit ?_
 refine seg ha 1 [(0, .slice ao1 a0.length cap1), (1, .slice ao2 a1.length cap2), (5, .bool t5), (18, .slice ao2 a1.length cap2)] (by kernel_rfl) fun a ha => ?_
 obtain ⟨t7, H7, H⟩ := bind_some H
 refine cl ha (by rfl) (by kernel_rfl) (by rfl) (by rfl) (by rfl) (vinerylaw09_fewRaws.walk w5 _ hM a1 ao2 cap2 f2 k _ H7) ?_
 rintro _ w7 ⟨rfl, hc7, hMn⟩ a ha
 have o1 : Ok [] (M) w5.heap.size := Ok.nil _ _
 have o2 : Ok (M) (M) w5.heap.size := (Ok.refl _ _)
 have f1 := f1.chg hc7 o1 o2
 have f2 := f2.chg hc7 o1 o2
 have hM : MS (M) w7 := (hM.chg hc7)
 have hC := hC.trans hc7 (Ok.nil _ _)
 refine seg ha 1 [(0, .slice ao1 a0.length cap1), (1, .slice ao2 a1.length cap2), (5, .bool t5), (6, .bool t7)] (by kernel_rfl) fun a ha => ?_
 refine hK6 _ _ ?_; try clear hK6 K6
 refine wp_seq_k fun K8 hK8 => ?_
 refine wp_seq_k fun K9 hK9 => ?_
 refine wp_region_lit ?_
 refine seg ha 7 [(0, .slice ao1 a0.length cap1), (1, .slice ao2 a1.length cap2), (5, .bool t5), (26, .bool (if (!t7) = true then true else (decide ((a0.length : Int) > (16384 : Int)))))] (by kernel_rfl) fun a ha => ?_
 refine hK9 _ _ ?_; try clear hK9 K9
 refine cnd ha rfl (fun hc10 => ?_) (fun hc10 => ?_)
 ·have H := ite_t hc10 H
  refine wp_seq_k fun K11 hK11 => ?_
  refine wp_region_lit ?_
  refine seg ha 2 [(4, .bool t5)] (by kernel_rfl) fun a ha => ?_
  refine hK11 _ _ ?_; try clear hK11 K11
  refine wp_ret ?_
  try simp only [Exit.then, Exit.inBlock]
  obtain rfl := Option.some.inj H
  refine rt1 ha rfl rfl ?_
  exact ⟨rfl, hC, hM⟩
 ·have H := ite_f hc10 H
  refine wp_skip ?_
  refine hK8 _ _ ?_; try clear hK8 K8
  refine wp_seq_k fun K12 hK12 => ?_
  refine wp_region_lit ?_
  refine seg ha 1 [(0, .slice ao1 a0.length cap1), (1, .slice ao2 a1.length cap2), (5, .bool t5), (29, .slice ao2 a1.length cap2)] (by kernel_rfl) fun a ha => ?_
  obtain ⟨t13, H13, H⟩ := bind_some H
  refine cl ha (by rfl) (by kernel_rfl) (by rfl) (by rfl) (by rfl) (attr_Join.walk w7 _ hM a1 ao2 cap2 f2 k _ H13) ?_
  rintro _ w13 ⟨ao14, cap14, rfl, f14, ne_i14, hc13, hMn⟩ a ha
  have o1 : Ok [] (M) w7.heap.size := Ok.nil _ _
  have o2 : Ok (blkL ao14 ++ (M)) (M) w7.heap.size := (Ok.app (fun x h => .inr (ne_i14 x h)) (Ok.refl _ _))
  have f1 := f1.chg hc13 o1 o2
  have f2 := f2.chg hc13 o1 o2
  have p_i14_M : ∀ x ∈ blkL ao14, x ∉ M := fun x hx hy => absurd (hM x (hy)) (Nat.not_lt.2 (ne_i14 x hx))
  have e_i14 : ∀ x ∈ blkL ao14, w.heap.size ≤ x := fun x hx => Nat.le_trans hC.size (ne_i14 x hx)
  have hM : MS (blkL ao14 ++ (M)) w13 := (MS.app (fun x h => hMn x (ml h)) (hM.chg hc13))
  have hC := hC.trans hc13 (Ok.nil _ _)
  refine seg ha 5 [(0, .slice ao1 a0.length cap1), (1, .slice ao2 a1.length cap2), (5, .bool t5), (7, .slice ao14 t13.1.length cap14), (8, .int .i64 t13.2)] (by kernel_rfl) fun a ha => ?_
  refine hK12 _ _ ?_; try clear hK12 K12
  refine wp_seq_k fun K15 hK15 => ?_
  obtain ⟨s16o, H16, H⟩ := lv_some H
  have J16 : ∀ (s16 : Unit) (a : Act) (w16 : World), s16o = .inr s16 → Has a Tryd.f9.ntmps [(0, .slice ao1 a0.length cap1), (5, .bool t5)] → (RSl (rInt .u8) 5 w16 (M) ao1 cap1 a0) → (Chg [] w w16) → (MS (M) w16) → K15 a w16 := by
   intro s16 a w16 hs ha f1 hC hM
   subst hs
   refine hK15 _ _ ?_; try clear hK15 K15
   refine wp_seq_k fun K17 hK17 => ?_
   refine wp_region_lit ?_
   refine seg ha 1 [(0, .slice ao1 a0.length cap1), (5, .bool t5), (49, .slice ao1 a0.length cap1)] (by kernel_rfl) fun a ha => ?_
   obtain ⟨t18, H18, H⟩ := bind_some H
   refine cl ha (by rfl) (by kernel_rfl) (by rfl) (by rfl) (by rfl) (attr_Split.walk w16 _ hM a0 ao1 cap1 f1 k _ H18) ?_
   rintro _ w18 ⟨ao19, cap19, rfl, f19, ne_i19, hc18, hMn⟩ a ha
   have o1 : Ok [] (M) w16.heap.size := Ok.nil _ _
   have o2 : Ok (blkL ao19 ++ (M)) (M) w16.heap.size := (Ok.app (fun x h => .inr (ne_i19 x h)) (Ok.refl _ _))
   have f1 := f1.chg hc18 o1 o2
   have p_i19_M : ∀ x ∈ blkL ao19, x ∉ M := fun x hx hy => absurd (hM x (hy)) (Nat.not_lt.2 (ne_i19 x hx))
   have e_i19 : ∀ x ∈ blkL ao19, w.heap.size ≤ x := fun x hx => Nat.le_trans hC.size (ne_i19 x hx)
   have hM : MS (blkL ao19 ++ (M)) w18 := (MS.app (fun x h => hMn x (ml h)) (hM.chg hc18))
   have hC := hC.trans hc18 (Ok.nil _ _)
   refine seg ha 5 [(0, .slice ao1 a0.length cap1), (5, .bool t5), (11, .slice ao19 t18.1.length cap19), (12, .int .i64 t18.2)] (by kernel_rfl) fun a ha => ?_
   refine hK17 _ _ ?_; try clear hK17 K17
   refine wp_seq_k fun K20 hK20 => ?_
   refine wp_seq_k fun K21 hK21 => ?_
   refine wp_region_lit ?_
   refine seg ha 2 [(0, .slice ao1 a0.length cap1), (5, .bool t5), (11, .slice ao19 t18.1.length cap19), (54, .bool (t18.2 != (0 : Int)))] (by kernel_rfl) fun a ha => ?_
   refine hK21 _ _ ?_; try clear hK21 K21
   refine cnd ha rfl (fun hc22 => ?_) (fun hc22 => ?_)
   ·have H := ite_t hc22 H
    refine wp_seq_k fun K23 hK23 => ?_
    refine wp_region_lit ?_
    refine seg ha 7 [(4, .bool (if t5 = true then ((t18.1.length : Int) == (0 : Int)) else false))] (by kernel_rfl) fun a ha => ?_
    refine hK23 _ _ ?_; try clear hK23 K23
    refine wp_ret ?_
    try simp only [Exit.then, Exit.inBlock]
    have hM : MS (M) w18 := (fun x h => hM.chg (Chg.refl [] _) x (mr (h)))
    have hC := hC.trans (Chg.refl [] _) (Ok.nil _ _)
    obtain rfl := Option.some.inj H
    refine rt1 ha rfl rfl ?_
    exact ⟨rfl, hC, hM⟩
   ·have H := ite_f hc22 H
    refine wp_skip ?_
    refine hK20 _ _ ?_; try clear hK20 K20
    refine wp_seq_k fun K24 hK24 => ?_
    refine wp_region_lit ?_
    refine seg ha 1 [(0, .slice ao1 a0.length cap1), (5, .bool t5), (11, .slice ao19 t18.1.length cap19), (62, .slice ao19 t18.1.length cap19)] (by kernel_rfl) fun a ha => ?_
    have fz := f19.toRSl (M' := M) (fun _ h => .inl (mr (h))) (fun x hx hm => p_i19_M x hx hm)
    have o1 : Ok [] (blkL ao19 ++ (M)) w18.heap.size := Ok.nil _ _
    have o2 : Ok (M) (blkL ao19 ++ (M)) w18.heap.size := (fun _ h => .inl (mr (h)))
    have f1 := f1.chg (Chg.refl [] _) o1 o2
    have hM : MS (M) w18 := (fun x h => hM.chg (Chg.refl [] _) x (mr (h)))
    have hC := hC.trans (Chg.refl [] _) (Ok.nil _ _)
    have f19 := fz
    obtain ⟨t25, H25, H⟩ := bind_some H
    refine cl ha (by rfl) (by kernel_rfl) (by rfl) (by rfl) (by rfl) (attr_Join.walk w18 _ hM t18.1 ao19 cap19 f19 k _ H25) ?_
    rintro _ w25 ⟨ao26, cap26, rfl, f26, ne_i26, hc25, hMn⟩ a ha
    have o1 : Ok [] (M) w18.heap.size := Ok.nil _ _
    have o2 : Ok (blkL ao26 ++ (M)) (M) w18.heap.size := (Ok.app (fun x h => .inr (ne_i26 x h)) (Ok.refl _ _))
    have f1 := f1.chg hc25 o1 o2
    have f19 := f19.chg hc25 o1 o2
    have p_i26_M : ∀ x ∈ blkL ao26, x ∉ M := fun x hx hy => absurd (hM x (hy)) (Nat.not_lt.2 (ne_i26 x hx))
    have e_i26 : ∀ x ∈ blkL ao26, w.heap.size ≤ x := fun x hx => Nat.le_trans hC.size (ne_i26 x hx)
    have hM : MS (blkL ao26 ++ (M)) w25 := (MS.app (fun x h => hMn x (ml h)) (hM.chg hc25))
    have hC := hC.trans hc25 (Ok.nil _ _)
    refine seg ha 5 [(0, .slice ao1 a0.length cap1), (5, .bool t5), (11, .slice ao19 t18.1.length cap19), (13, .slice ao26 t25.1.length cap26), (14, .int .i64 t25.2)] (by kernel_rfl) fun a ha => ?_
    refine hK24 _ _ ?_; try clear hK24 K24
    refine wp_seq_k fun K27 hK27 => ?_
    refine wp_seq_k fun K28 hK28 => ?_
    refine wp_region_lit ?_
    refine seg ha 2 [(0, .slice ao1 a0.length cap1), (5, .bool t5), (11, .slice ao19 t18.1.length cap19), (13, .slice ao26 t25.1.length cap26), (14, .int .i64 t25.2), (67, .bool (t25.2 != (0 : Int)))] (by kernel_rfl) fun a ha => ?_
    refine hK28 _ _ ?_; try clear hK28 K28
    refine cnd ha rfl (fun hc29 => ?_) (fun hc29 => ?_)
    ·have H := ite_t hc29 H
     refine wp_seq_k fun K30 hK30 => ?_
     refine wp_region_lit ?_
     refine seg ha 6 [(4, .bool (if t5 = true then (t25.2 == (2 : Int)) else false))] (by kernel_rfl) fun a ha => ?_
     refine hK30 _ _ ?_; try clear hK30 K30
     refine wp_ret ?_
     try simp only [Exit.then, Exit.inBlock]
     have hM : MS (M) w25 := (fun x h => hM.chg (Chg.refl [] _) x (mr (h)))
     have hC := hC.trans (Chg.refl [] _) (Ok.nil _ _)
     obtain rfl := Option.some.inj H
     refine rt1 ha rfl rfl ?_
     exact ⟨rfl, hC, hM⟩
    ·have H := ite_f hc29 H
     refine wp_skip ?_
     refine hK27 _ _ ?_; try clear hK27 K27
     refine wp_seq_k fun K31 hK31 => ?_
     refine wp_region_lit ?_
     refine seg ha 1 [(0, .slice ao1 a0.length cap1), (5, .bool t5), (11, .slice ao19 t18.1.length cap19), (13, .slice ao26 t25.1.length cap26), (74, .slice ao26 t25.1.length cap26)] (by kernel_rfl) fun a ha => ?_
     have fz := f26.toRSl (M' := M) (fun _ h => .inl (mr (h))) (fun x hx hm => p_i26_M x hx hm)
     have o1 : Ok [] (blkL ao26 ++ (M)) w25.heap.size := Ok.nil _ _
     have o2 : Ok (M) (blkL ao26 ++ (M)) w25.heap.size := (fun _ h => .inl (mr (h)))
     have f1 := f1.chg (Chg.refl [] _) o1 o2
     have f19 := f19.chg (Chg.refl [] _) o1 o2
     have hM : MS (M) w25 := (fun x h => hM.chg (Chg.refl [] _) x (mr (h)))
     have hC := hC.trans (Chg.refl [] _) (Ok.nil _ _)
     have f26 := fz
     obtain ⟨t32, H32, H⟩ := bind_some H
     refine cl ha (by rfl) (by kernel_rfl) (by rfl) (by rfl) (by rfl) (attr_Split.walk w25 _ hM t25.1 ao26 cap26 f26 k _ H32) ?_
     rintro _ w32 ⟨ao33, cap33, rfl, f33, ne_i33, hc32, hMn⟩ a ha
     have o1 : Ok [] (M) w25.heap.size := Ok.nil _ _
     have o2 : Ok (blkL ao33 ++ (M)) (M) w25.heap.size := (Ok.app (fun x h => .inr (ne_i33 x h)) (Ok.refl _ _))
     have f1 := f1.chg hc32 o1 o2
     have f19 := f19.chg hc32 o1 o2
     have f26 := f26.chg hc32 o1 o2
     have p_i33_M : ∀ x ∈ blkL ao33, x ∉ M := fun x hx hy => absurd (hM x (hy)) (Nat.not_lt.2 (ne_i33 x hx))
     have e_i33 : ∀ x ∈ blkL ao33, w.heap.size ≤ x := fun x hx => Nat.le_trans hC.size (ne_i33 x hx)
     have hM : MS (blkL ao33 ++ (M)) w32 := (MS.app (fun x h => hMn x (ml h)) (hM.chg hc32))
     have hC := hC.trans hc32 (Ok.nil _ _)
     refine seg ha 5 [(0, .slice ao1 a0.length cap1), (5, .bool t5), (11, .slice ao19 t18.1.length cap19), (13, .slice ao26 t25.1.length cap26), (15, .slice ao33 t32.1.length cap33), (16, .int .i64 t32.2)] (by kernel_rfl) fun a ha => ?_
     refine hK31 _ _ ?_; try clear hK31 K31
     refine wp_seq_k fun K34 hK34 => ?_
     refine wp_region_lit ?_
     obtain ⟨s35, H35, H⟩ := bind_some H
     have J35 : ∀ (a : Act) (w35 : World), Has a Tryd.f9.ntmps [(4, .bool s35)] → (Chg [] w w35) → (MS (M) w35) → K34 a w35 := by
      intro a w35 ha hC hM
      refine hK34 _ _ ?_; try clear hK34 K34
      refine wp_ret ?_
      try simp only [Exit.then, Exit.inBlock]
      obtain rfl := Option.some.inj H
      refine rt1 ha rfl rfl ?_
      exact ⟨rfl, hC, hM⟩
     have H := H35
     refine seg ha 2 [(79, .bool t5), (0, .slice ao1 a0.length cap1), (11, .slice ao19 t18.1.length cap19), (13, .slice ao26 t25.1.length cap26), (15, .slice ao33 t32.1.length cap33), (16, .int .i64 t32.2)] (by kernel_rfl) fun a ha => ?_
     rcases Bool.eq_false_or_eq_true (t5) with hb36 | hb36
     ·have ha := ha.lit hb36
      have H := ite_t hb36 H
      refine sgh ha 4 [2, 2, 3, 0] [(83, .bool (t32.2 == (0 : Int))), (0, .slice ao1 a0.length cap1), (11, .slice ao19 t18.1.length cap19), (13, .slice ao26 t25.1.length cap26), (15, .slice ao33 t32.1.length cap33)] (by kernel_rfl) fun a ha => ?_
      rcases Bool.eq_false_or_eq_true (t32.2 == (0 : Int)) with hb37 | hb37
      ·have ha := ha.lit hb37
       have H := ite_t hb37 H
       refine sgh ha 2 [2, 2] [(0, .slice ao1 a0.length cap1), (13, .slice ao26 t25.1.length cap26), (83, .bool true), (84, .slice ao19 t18.1.length cap19), (85, .slice ao33 t32.1.length cap33)] (by kernel_rfl) fun a ha => ?_
       have fz := f33.toRSl (M' := M) (fun _ h => .inl (mr (h))) (fun x hx hm => p_i33_M x hx hm)
       have o1 : Ok [] (blkL ao33 ++ (M)) w32.heap.size := Ok.nil _ _
       have o2 : Ok (M) (blkL ao33 ++ (M)) w32.heap.size := (fun _ h => .inl (mr (h)))
       have f1 := f1.chg (Chg.refl [] _) o1 o2
       have f26 := f26.chg (Chg.refl [] _) o1 o2
       have f19 := f19.chg (Chg.refl [] _) o1 o2
       have hM : MS (M) w32 := (fun x h => hM.chg (Chg.refl [] _) x (mr (h)))
       have hC := hC.trans (Chg.refl [] _) (Ok.nil _ _)
       have f33 := fz
       obtain ⟨t38, H38, H⟩ := bind_some H
       refine cl ha (by rfl) (by kernel_rfl) (by rfl) (by rfl) (by rfl) (vineryref09_SameRaws.walk w32 _ hM t18.1 ao19 cap19 f19 t32.1 ao33 cap33 f33 k _ H38) ?_
       rintro _ w38 ⟨rfl, hc38, hMn⟩ a ha
       have o1 : Ok [] (M) w32.heap.size := Ok.nil _ _
       have o2 : Ok (M) (M) w32.heap.size := (Ok.refl _ _)
       have f1 := f1.chg hc38 o1 o2
       have f26 := f26.chg hc38 o1 o2
       have f19 := f19.chg hc38 o1 o2
       have f33 := f33.chg hc38 o1 o2
       have hM : MS (M) w38 := (hM.chg hc38)
       have hC := hC.trans hc38 (Ok.nil _ _)
       refine sgh ha 2 [3, 0] [(88, .bool t38), (0, .slice ao1 a0.length cap1), (13, .slice ao26 t25.1.length cap26)] (by kernel_rfl) fun a ha => ?_
       rcases Bool.eq_false_or_eq_true (t38) with hb39 | hb39
       ·have ha := ha.lit hb39
        have H := ite_t hb39 H
        refine sgh ha 7 [2, 2, 2, 2, 2, 3, 0] [(4, .bool (decide ((t25.1.length : Int) ≤ (a0.length : Int))))] (by kernel_rfl) fun a ha => ?_
        obtain rfl := Option.some.inj H
        exact J35 _ _ (ha.sel (by kernel_rfl)) hC hM
       ·have ha := ha.lit hb39
        have H := ite_f hb39 H
        refine sgh ha 7 [1, 1, 1, 1, 1, 4, 0] [(4, .bool false)] (by kernel_rfl) fun a ha => ?_
        obtain rfl := Option.some.inj H
        exact J35 _ _ (ha.sel (by kernel_rfl)) hC hM
      ·have ha := ha.lit hb37
       have H := ite_f hb37 H
       refine sgh ha 12 [1, 1, 1, 4, 0, 1, 1, 1, 1, 1, 4, 0] [(4, .bool false)] (by kernel_rfl) fun a ha => ?_
       obtain rfl := Option.some.inj H
       have hM : MS (M) w32 := (fun x h => hM.chg (Chg.refl [] _) x (mr (h)))
       have hC := hC.trans (Chg.refl [] _) (Ok.nil _ _)
       exact J35 _ _ (ha.sel (by kernel_rfl)) hC hM
     ·have ha := ha.lit hb36
      have H := ite_f hb36 H
      refine sgh ha 16 [1, 1, 4, 0, 1, 1, 1, 4, 0, 1, 1, 1, 1, 1, 4, 0] [(4, .bool false)] (by kernel_rfl) fun a ha => ?_
      obtain rfl := Option.some.inj H
      have hM : MS (M) w32 := (fun x h => hM.chg (Chg.refl [] _) x (mr (h)))
      have hC := hC.trans (Chg.refl [] _) (Ok.nil _ _)
      exact J35 _ _ (ha.sel (by kernel_rfl)) hC hM
  have Hc16 := H
  have H := H16
  refine wp_seq_k fun K40 hK40 => ?_
  refine wp_region_lit ?_
  refine seg ha 2 [(0, .slice ao1 a0.length cap1), (1, .slice ao2 a1.length cap2), (5, .bool t5), (7, .slice ao14 t13.1.length cap14), (34, .bool (t13.2 == (0 : Int)))] (by kernel_rfl) fun a ha => ?_
  refine hK40 _ _ ?_; try clear hK40 K40
  refine cnd ha rfl (fun hc41 => ?_) (fun hc41 => ?_)
  ·have H := ite_t hc41 H
   refine wp_seq_k fun K42 hK42 => ?_
   refine wp_region_lit ?_
   refine seg ha 1 [(0, .slice ao1 a0.length cap1), (1, .slice ao2 a1.length cap2), (5, .bool t5), (36, .slice ao14 t13.1.length cap14)] (by kernel_rfl) fun a ha => ?_
   have fz := f14.toRSl (M' := M) (fun _ h => .inl (mr (h))) (fun x hx hm => p_i14_M x hx hm)
   have o1 : Ok [] (blkL ao14 ++ (M)) w13.heap.size := Ok.nil _ _
   have o2 : Ok (M) (blkL ao14 ++ (M)) w13.heap.size := (fun _ h => .inl (mr (h)))
   have f1 := f1.chg (Chg.refl [] _) o1 o2
   have f2 := f2.chg (Chg.refl [] _) o1 o2
   have hM : MS (M) w13 := (fun x h => hM.chg (Chg.refl [] _) x (mr (h)))
   have hC := hC.trans (Chg.refl [] _) (Ok.nil _ _)
   have f14 := fz
   obtain ⟨t43, H43, H⟩ := bind_some H
   refine cl ha (by rfl) (by kernel_rfl) (by rfl) (by rfl) (by rfl) (attr_Split.walk w13 _ hM t13.1 ao14 cap14 f14 k _ H43) ?_
   rintro _ w43 ⟨ao44, cap44, rfl, f44, ne_i44, hc43, hMn⟩ a ha
   have o1 : Ok [] (M) w13.heap.size := Ok.nil _ _
   have o2 : Ok (blkL ao44 ++ (M)) (M) w13.heap.size := (Ok.app (fun x h => .inr (ne_i44 x h)) (Ok.refl _ _))
   have f1 := f1.chg hc43 o1 o2
   have f2 := f2.chg hc43 o1 o2
   have f14 := f14.chg hc43 o1 o2
   have p_i44_M : ∀ x ∈ blkL ao44, x ∉ M := fun x hx hy => absurd (hM x (hy)) (Nat.not_lt.2 (ne_i44 x hx))
   have e_i44 : ∀ x ∈ blkL ao44, w.heap.size ≤ x := fun x hx => Nat.le_trans hC.size (ne_i44 x hx)
   have hM : MS (blkL ao44 ++ (M)) w43 := (MS.app (fun x h => hMn x (ml h)) (hM.chg hc43))
   have hC := hC.trans hc43 (Ok.nil _ _)
   refine seg ha 5 [(0, .slice ao1 a0.length cap1), (1, .slice ao2 a1.length cap2), (5, .bool t5), (9, .slice ao44 t43.1.length cap44), (10, .int .i64 t43.2)] (by kernel_rfl) fun a ha => ?_
   refine hK42 _ _ ?_; try clear hK42 K42
   refine wp_seq_k fun K45 hK45 => ?_
   refine wp_region_lit ?_
   obtain ⟨s46, H46, H⟩ := bind_some H
   have J46 : ∀ (a : Act) (w46 : World), Has a Tryd.f9.ntmps [(0, .slice ao1 a0.length cap1), (5, .bool t5), (47, .bool s46)] → (RSl (rInt .u8) 5 w46 (M) ao1 cap1 a0) → (Chg [] w w46) → (MS (M) w46) → K45 a w46 := by
    intro a w46 ha f1 hC hM
    refine hK45 _ _ ?_; try clear hK45 K45
    refine cnd ha rfl (fun hc47 => ?_) (fun hc47 => ?_)
    ·have H := ite_t hc47 H
     refine wp_seq_k fun K48 hK48 => ?_
     refine wp_region_lit ?_
     refine seg ha 1 [(4, .bool false)] (by kernel_rfl) fun a ha => ?_
     refine hK48 _ _ ?_; try clear hK48 K48
     refine wp_ret ?_
     obtain rfl := Option.some.inj H
     have H := Hc16
     try simp only [Exit.then, Exit.inBlock]
     obtain rfl := Option.some.inj H
     refine rt1 ha rfl rfl ?_
     exact ⟨rfl, hC, hM⟩
    ·have H := ite_f hc47 H
     refine wp_skip ?_
     obtain rfl := Option.some.inj H
     exact J16 _ _ _ rfl (ha.sel (by kernel_rfl)) f1 hC hM
   have H := H46
   refine seg ha 3 [(42, .bool (t43.2 != (0 : Int))), (0, .slice ao1 a0.length cap1), (1, .slice ao2 a1.length cap2), (5, .bool t5), (9, .slice ao44 t43.1.length cap44)] (by kernel_rfl) fun a ha => ?_
   rcases Bool.eq_false_or_eq_true (t43.2 != (0 : Int)) with hb49 | hb49
   ·have ha := ha.lit hb49
    have H := ite_t hb49 H
    refine sgh ha 5 [1, 1, 1, 1, 3] [(0, .slice ao1 a0.length cap1), (5, .bool t5), (47, .bool true)] (by kernel_rfl) fun a ha => ?_
    obtain rfl := Option.some.inj H
    have o1 : Ok [] (blkL ao44 ++ (M)) w43.heap.size := Ok.nil _ _
    have o2 : Ok (M) (blkL ao44 ++ (M)) w43.heap.size := (fun _ h => .inl (mr (h)))
    have f1 := f1.chg (Chg.refl [] _) o1 o2
    have hM : MS (M) w43 := (fun x h => hM.chg (Chg.refl [] _) x (mr (h)))
    have hC := hC.trans (Chg.refl [] _) (Ok.nil _ _)
    exact J46 _ _ (ha.sel (by kernel_rfl)) f1 hC hM
   ·have ha := ha.lit hb49
    have H := ite_f hb49 H
    refine sgh ha 2 [2, 2] [(0, .slice ao1 a0.length cap1), (5, .bool t5), (42, .bool false), (43, .slice ao2 a1.length cap2), (44, .slice ao44 t43.1.length cap44)] (by kernel_rfl) fun a ha => ?_
    have fz := f44.toRSl (M' := M) (fun _ h => .inl (mr (h))) (fun x hx hm => p_i44_M x hx hm)
    have o1 : Ok [] (blkL ao44 ++ (M)) w43.heap.size := Ok.nil _ _
    have o2 : Ok (M) (blkL ao44 ++ (M)) w43.heap.size := (fun _ h => .inl (mr (h)))
    have f1 := f1.chg (Chg.refl [] _) o1 o2
    have f2 := f2.chg (Chg.refl [] _) o1 o2
    have hM : MS (M) w43 := (fun x h => hM.chg (Chg.refl [] _) x (mr (h)))
    have hC := hC.trans (Chg.refl [] _) (Ok.nil _ _)
    have f44 := fz
    obtain ⟨t50, H50, H⟩ := bind_some H
    refine cl ha (by rfl) (by kernel_rfl) (by rfl) (by rfl) (by rfl) (vineryref09_SameRaws.walk w43 _ hM a1 ao2 cap2 f2 t43.1 ao44 cap44 f44 k _ H50) ?_
    rintro _ w50 ⟨rfl, hc50, hMn⟩ a ha
    have o1 : Ok [] (M) w43.heap.size := Ok.nil _ _
    have o2 : Ok (M) (M) w43.heap.size := (Ok.refl _ _)
    have f1 := f1.chg hc50 o1 o2
    have f2 := f2.chg hc50 o1 o2
    have f44 := f44.chg hc50 o1 o2
    have hM : MS (M) w50 := (hM.chg hc50)
    have hC := hC.trans hc50 (Ok.nil _ _)
    refine sgh ha 2 [2, 4] [(0, .slice ao1 a0.length cap1), (5, .bool t5), (47, .bool (!t50))] (by kernel_rfl) fun a ha => ?_
    obtain rfl := Option.some.inj H
    exact J46 _ _ (ha.sel (by kernel_rfl)) f1 hC hM
  ·have H := ite_f hc41 H
   refine wp_skip ?_
   obtain rfl := Option.some.inj H
   have o1 : Ok [] (blkL ao14 ++ (M)) w13.heap.size := Ok.nil _ _
   have o2 : Ok (M) (blkL ao14 ++ (M)) w13.heap.size := (fun _ h => .inl (mr (h)))
   have f1 := f1.chg (Chg.refl [] _) o1 o2
   have f2 := f2.chg (Chg.refl [] _) o1 o2
   have hM : MS (M) w13 := (fun x h => hM.chg (Chg.refl [] _) x (mr (h)))
   have hC := hC.trans (Chg.refl [] _) (Ok.nil _ _)
   exact J16 _ _ _ rfl (ha.sel (by kernel_rfl)) f1 hC hM
end Go.E
