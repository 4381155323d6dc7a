/- What the functions that the law reaches compute, and the walks that show it. -/
import Derived.Test.YtcejhnpncodkjaaGreatDoorEngU
import Derived.Test.YtcejhnpncodkjaaGreatDoorShelf
import Derived.Test.YtcejhnpncodkjaaGreatDoorEngQ
import Derived.Test.YtcejhnpncodkjaaGreatDoorEngY
import Derived.Test.YtcejhnpncodkjaaGreatDoorProg
import Derived.Test.YtcejhnpncodkjaaGreatDoorGenCommunityRowsP2
set_option linter.unusedVariables false
set_option linter.unusedSimpArgs false
namespace Go.E
open Go.RowKit Go.Proofs
def vineryref04_Kind.f (a0 : List Int) : Option (Int) := ((if ((ar a0 1) == (2 : Int)) = true then some (decide ((ar a0 0) ≤ (2 : Int)) : Bool) else some (false : Bool))).bind fun s9 => (if s9 = true then some (((1 : Int) : Int)) else ((if ((ar a0 0) == (1 : Int)) = true then some ((ar a0 1) == (11 : Int) : Bool) else some (false : Bool))).bind fun s14 => (if s14 = true then some (((2 : Int) : Int)) else ((if ((ar a0 0) == (2 : Int)) = true then (if ((ar a0 1) == (9 : Int)) = true then (if ((ar a0 6) == (0 : Int)) = true then some ((ar a0 7) == (0 : Int) : Bool) else some (false : Bool)) else some (false : Bool)) else some (false : Bool))).bind fun s19 => (if s19 = true then some (((3 : Int) : Int)) else some (((0 : Int) : Int)))))
set_option maxRecDepth 100000 in
theorem vineryref04_Kind.walk (w : World) (M : List Nat) (hM : MS M w) (a0 : List Int) (r : Int) (H : vineryref04_Kind.f a0 = some r) :
    To Tryz.prog 34 [.agg (cA .u8 8 a0).toArray] w fun v w' => v = .int .i64 r ∧ Chg [] w w' ∧ MS (M) w' := by
 unfold vineryref04_Kind.f at H
 refine ent Tryz.func34 rfl [(0, .agg (cA .u8 8 a0).toArray)] rfl (by rfl) fun a ha => ?_
 have hC : Chg [] w w := Chg.refl _ _
 refine wp_seq_k fun K1 hK1 => ?_
 refine wp_region_lit ?_
 refine bx (cs := (cA .u8 8 a0)) ha rfl rfl rfl rfl rfl fun a w2 g3 hN4 ha => ?_
 have hn6 := hN4.notin hM
 have hM : MS (M) w2 := (hM.chg hN4.chg)
 have hC := hC.trans hN4.chg (Ok.nil _ _)
 have hE5 : ∀ j v, (cA .u8 8 a0)[j]? = some v → w2.cell? ⟨g3, 0 + j, none⟩ = some v := Box.cells (New.box hN4)
 refine seg ha 1 [(1, .pointer (some ⟨g3, 0, none⟩))] (by kernel_rfl) fun a ha => ?_
 refine hK1 _ _ ?_; try clear hK1 K1
 refine wp_seq_k fun K7 hK7 => ?_
 refine wp_seq_k fun K8 hK8 => ?_
 refine wp_region_lit ?_
 obtain ⟨s9, H9, H⟩ := bind_some H
 have J9 : ∀ (a : Act) (w9 : World), Has a Tryz.f34.ntmps [(1, .pointer (some ⟨g3, 0, none⟩)), (10, .bool s9)] → (∀ j v, (cA .u8 8 a0)[j]? = some v → w9.cell? ⟨g3, 0 + j, none⟩ = some v) → (g3 ∉ (M)) → (Chg [] w w9) → (MS (M) w9) → K8 a w9 := by
  intro a w9 ha hE5 hn6 hC hM
  refine hK8 _ _ ?_; try clear hK8 K8
  refine cnd ha rfl (fun hc10 => ?_) (fun hc10 => ?_)
  ·have H := ite_t hc10 H
   refine wp_seq_k fun K11 hK11 => ?_
   refine wp_region_lit ?_
   refine seg ha 1 [(2, .int .i64 (1 : Int))] (by kernel_rfl) fun a ha => ?_
   refine hK11 _ _ ?_; try clear hK11 K11
   refine wp_ret ?_
   try simp only [Exit.then, Exit.inBlock]
   obtain rfl := Option.some.inj H
   refine rt1 ha rfl rfl ?_
   exact ⟨rfl, hC, hM⟩
  ·have H := ite_f hc10 H
   refine wp_skip ?_
   refine hK7 _ _ ?_; try clear hK7 K7
   refine wp_seq_k fun K12 hK12 => ?_
   refine wp_seq_k fun K13 hK13 => ?_
   refine wp_region_lit ?_
   obtain ⟨s14, H14, H⟩ := bind_some H
   have J14 : ∀ (a : Act) (w14 : World), Has a Tryz.f34.ntmps [(1, .pointer (some ⟨g3, 0, none⟩)), (18, .bool s14)] → (∀ j v, (cA .u8 8 a0)[j]? = some v → w14.cell? ⟨g3, 0 + j, none⟩ = some v) → (g3 ∉ (M)) → (Chg [] w w14) → (MS (M) w14) → K13 a w14 := by
    intro a w14 ha hE5 hn6 hC hM
    refine hK13 _ _ ?_; try clear hK13 K13
    refine cnd ha rfl (fun hc15 => ?_) (fun hc15 => ?_)
    ·have H := ite_t hc15 H
     refine wp_seq_k fun K16 hK16 => ?_
     refine wp_region_lit ?_
     refine seg ha 1 [(2, .int .i64 (2 : Int))] (by kernel_rfl) fun a ha => ?_
     refine hK16 _ _ ?_; try clear hK16 K16
     refine wp_ret ?_
     try simp only [Exit.then, Exit.inBlock]
     obtain rfl := Option.some.inj H
     refine rt1 ha rfl rfl ?_
     exact ⟨rfl, hC, hM⟩
    ·have H := ite_f hc15 H
     refine wp_skip ?_
     refine hK12 _ _ ?_; try clear hK12 K12
     refine wp_seq_k fun K17 hK17 => ?_
     refine wp_seq_k fun K18 hK18 => ?_
     refine wp_region_lit ?_
     obtain ⟨s19, H19, H⟩ := bind_some H
     have J19 : ∀ (a : Act) (w19 : World), Has a Tryz.f34.ntmps [(36, .bool s19)] → (Chg [] w w19) → (MS (M) w19) → K18 a w19 := by
      intro a w19 ha hC hM
      refine hK18 _ _ ?_; try clear hK18 K18
      refine cnd ha rfl (fun hc20 => ?_) (fun hc20 => ?_)
      ·have H := ite_t hc20 H
       refine wp_seq_k fun K21 hK21 => ?_
       refine wp_region_lit ?_
       refine seg ha 1 [(2, .int .i64 (3 : Int))] (by kernel_rfl) fun a ha => ?_
       refine hK21 _ _ ?_; try clear hK21 K21
       refine wp_ret ?_
       try simp only [Exit.then, Exit.inBlock]
       obtain rfl := Option.some.inj H
       refine rt1 ha rfl rfl ?_
       exact ⟨rfl, hC, hM⟩
      ·have H := ite_f hc20 H
       refine wp_skip ?_
       refine hK17 _ _ ?_; try clear hK17 K17
       refine wp_seq_k fun K22 hK22 => ?_
       refine wp_region_lit ?_
       refine seg ha 1 [(2, .int .i64 (0 : Int))] (by kernel_rfl) fun a ha => ?_
       refine hK22 _ _ ?_; try clear hK22 K22
       refine wp_ret ?_
       try simp only [Exit.then, Exit.inBlock]
       obtain rfl := Option.some.inj H
       refine rt1 ha rfl rfl ?_
       exact ⟨rfl, hC, hM⟩
     have H := H19
     have hE23 : ∀ j v, ([.int .u8 (ar a0 0)] : List Value)[j]? = some v → w14.cell? ⟨g3, (0 + 0 + 0) + j, none⟩ = some v := cellA (m := 8) [] [] hE5 (by kernel_rfl) (by decide)
     have hn23 := hn6
     refine hop (v := .pointer (some ⟨g3, (0 + 0 + 0), none⟩)) (w' := w14) ha rfl rfl rfl (ixA_run (T := 5) (N := 8) (g := g3) (o' := 0) (k := .i64) (i := (0 : Int)) ha (by kernel_rfl) (by kernel_rfl) (by rfl) (by rfl) (by decide) (by decide) _) fun a ha => ?_
     refine ld ha rfl (by kernel_rfl) rfl rfl rfl (hE23 0 (.int .u8 (ar a0 0)) (by kernel_rfl)) fun a ha => ?_
     refine seg ha 2 [(22, .bool ((ar a0 0) == (2 : Int))), (1, .pointer (some ⟨g3, 0, none⟩))] (by kernel_rfl) fun a ha => ?_
     rcases Bool.eq_false_or_eq_true ((ar a0 0) == (2 : Int)) with hb24 | hb24
     ·have ha := ha.lit hb24
      have H := ite_t hb24 H
      have hE25 : ∀ j v, ([.int .u8 (ar a0 1)] : List Value)[j]? = some v → w14.cell? ⟨g3, (0 + 0 + 1) + j, none⟩ = some v := cellA (m := 8) [] [] hE5 (by kernel_rfl) (by decide)
      have hn25 := hn6
      refine hop (v := .pointer (some ⟨g3, (0 + 0 + 1), none⟩)) (w' := w14) ha rfl rfl rfl (ixA_run (T := 5) (N := 8) (g := g3) (o' := 0) (k := .i64) (i := (1 : Int)) ha (by kernel_rfl) (by kernel_rfl) (by rfl) (by rfl) (by decide) (by decide) _) fun a ha => ?_
      refine ld ha rfl (by kernel_rfl) rfl rfl rfl (hE25 0 (.int .u8 (ar a0 1)) (by kernel_rfl)) fun a ha => ?_
      refine sgh ha 3 [2, 3, 0] [(27, .bool ((ar a0 1) == (9 : Int))), (1, .pointer (some ⟨g3, 0, none⟩))] (by kernel_rfl) fun a ha => ?_
      rcases Bool.eq_false_or_eq_true ((ar a0 1) == (9 : Int)) with hb26 | hb26
      ·have ha := ha.lit hb26
       have H := ite_t hb26 H
       have hE27 : ∀ j v, ([.int .u8 (ar a0 6)] : List Value)[j]? = some v → w14.cell? ⟨g3, (0 + 0 + 6) + j, none⟩ = some v := cellA (m := 8) [] [] hE5 (by kernel_rfl) (by decide)
       have hn27 := hn6
       refine hop (v := .pointer (some ⟨g3, (0 + 0 + 6), none⟩)) (w' := w14) ha rfl rfl rfl (ixA_run (T := 5) (N := 8) (g := g3) (o' := 0) (k := .i64) (i := (6 : Int)) ha (by kernel_rfl) (by kernel_rfl) (by rfl) (by rfl) (by decide) (by decide) _) fun a ha => ?_
       refine ld ha rfl (by kernel_rfl) rfl rfl rfl (hE27 0 (.int .u8 (ar a0 6)) (by kernel_rfl)) fun a ha => ?_
       refine sgh ha 3 [2, 3, 0] [(32, .bool ((ar a0 6) == (0 : Int))), (1, .pointer (some ⟨g3, 0, none⟩))] (by kernel_rfl) fun a ha => ?_
       rcases Bool.eq_false_or_eq_true ((ar a0 6) == (0 : Int)) with hb28 | hb28
       ·have ha := ha.lit hb28
        have H := ite_t hb28 H
        have hE29 : ∀ j v, ([.int .u8 (ar a0 7)] : List Value)[j]? = some v → w14.cell? ⟨g3, (0 + 0 + 7) + j, none⟩ = some v := cellA (m := 8) [] [] hE5 (by kernel_rfl) (by decide)
        have hn29 := hn6
        refine hop (v := .pointer (some ⟨g3, (0 + 0 + 7), none⟩)) (w' := w14) ha rfl rfl rfl (ixA_run (T := 5) (N := 8) (g := g3) (o' := 0) (k := .i64) (i := (7 : Int)) ha (by kernel_rfl) (by kernel_rfl) (by rfl) (by rfl) (by decide) (by decide) _) fun a ha => ?_
        refine ld ha rfl (by kernel_rfl) rfl rfl rfl (hE29 0 (.int .u8 (ar a0 7)) (by kernel_rfl)) fun a ha => ?_
        refine sgh ha 2 [2, 3] [(36, .bool ((ar a0 7) == (0 : Int)))] (by kernel_rfl) fun a ha => ?_
        obtain rfl := Option.some.inj H
        exact J19 _ _ (ha.sel (by kernel_rfl)) hC hM
       ·have ha := ha.lit hb28
        have H := ite_f hb28 H
        refine sgh ha 4 [1, 1, 1, 4] [(36, .bool false)] (by kernel_rfl) fun a ha => ?_
        obtain rfl := Option.some.inj H
        exact J19 _ _ (ha.sel (by kernel_rfl)) hC hM
      ·have ha := ha.lit hb26
       have H := ite_f hb26 H
       refine sgh ha 9 [1, 1, 1, 4, 0, 1, 1, 1, 4] [(36, .bool false)] (by kernel_rfl) fun a ha => ?_
       obtain rfl := Option.some.inj H
       exact J19 _ _ (ha.sel (by kernel_rfl)) hC hM
     ·have ha := ha.lit hb24
      have H := ite_f hb24 H
      refine sgh ha 14 [1, 1, 1, 4, 0, 1, 1, 1, 4, 0, 1, 1, 1, 4] [(36, .bool false)] (by kernel_rfl) fun a ha => ?_
      obtain rfl := Option.some.inj H
      exact J19 _ _ (ha.sel (by kernel_rfl)) hC hM
   have H := H14
   have hE30 : ∀ j v, ([.int .u8 (ar a0 0)] : List Value)[j]? = some v → w9.cell? ⟨g3, (0 + 0 + 0) + j, none⟩ = some v := cellA (m := 8) [] [] hE5 (by kernel_rfl) (by decide)
   have hn30 := hn6
   refine hop (v := .pointer (some ⟨g3, (0 + 0 + 0), none⟩)) (w' := w9) ha rfl rfl rfl (ixA_run (T := 5) (N := 8) (g := g3) (o' := 0) (k := .i64) (i := (0 : Int)) ha (by kernel_rfl) (by kernel_rfl) (by rfl) (by rfl) (by decide) (by decide) _) fun a ha => ?_
   refine ld ha rfl (by kernel_rfl) rfl rfl rfl (hE30 0 (.int .u8 (ar a0 0)) (by kernel_rfl)) fun a ha => ?_
   refine seg ha 2 [(14, .bool ((ar a0 0) == (1 : Int))), (1, .pointer (some ⟨g3, 0, none⟩))] (by kernel_rfl) fun a ha => ?_
   rcases Bool.eq_false_or_eq_true ((ar a0 0) == (1 : Int)) with hb31 | hb31
   ·have ha := ha.lit hb31
    have H := ite_t hb31 H
    have hE32 : ∀ j v, ([.int .u8 (ar a0 1)] : List Value)[j]? = some v → w9.cell? ⟨g3, (0 + 0 + 1) + j, none⟩ = some v := cellA (m := 8) [] [] hE5 (by kernel_rfl) (by decide)
    have hn32 := hn6
    refine hop (v := .pointer (some ⟨g3, (0 + 0 + 1), none⟩)) (w' := w9) ha rfl rfl rfl (ixA_run (T := 5) (N := 8) (g := g3) (o' := 0) (k := .i64) (i := (1 : Int)) ha (by kernel_rfl) (by kernel_rfl) (by rfl) (by rfl) (by decide) (by decide) _) fun a ha => ?_
    refine ld ha rfl (by kernel_rfl) rfl rfl rfl (hE32 0 (.int .u8 (ar a0 1)) (by kernel_rfl)) fun a ha => ?_
    refine sgh ha 2 [2, 3] [(1, .pointer (some ⟨g3, 0, none⟩)), (18, .bool ((ar a0 1) == (11 : Int)))] (by kernel_rfl) fun a ha => ?_
    obtain rfl := Option.some.inj H
    exact J14 _ _ (ha.sel (by kernel_rfl)) hE5 hn6 hC hM
   ·have ha := ha.lit hb31
    have H := ite_f hb31 H
    refine sgh ha 4 [1, 1, 1, 4] [(1, .pointer (some ⟨g3, 0, none⟩)), (18, .bool false)] (by kernel_rfl) fun a ha => ?_
    obtain rfl := Option.some.inj H
    exact J14 _ _ (ha.sel (by kernel_rfl)) hE5 hn6 hC hM
 have H := H9
 have hE33 : ∀ j v, ([.int .u8 (ar a0 1)] : List Value)[j]? = some v → w2.cell? ⟨g3, (0 + 0 + 1) + j, none⟩ = some v := cellA (m := 8) [] [] hE5 (by kernel_rfl) (by decide)
 have hn33 := hn6
 refine hop (v := .pointer (some ⟨g3, (0 + 0 + 1), none⟩)) (w' := w2) ha rfl rfl rfl (ixA_run (T := 5) (N := 8) (g := g3) (o' := 0) (k := .i64) (i := (1 : Int)) ha (by kernel_rfl) (by kernel_rfl) (by rfl) (by rfl) (by decide) (by decide) _) fun a ha => ?_
 refine ld ha rfl (by kernel_rfl) rfl rfl rfl (hE33 0 (.int .u8 (ar a0 1)) (by kernel_rfl)) fun a ha => ?_
 refine seg ha 2 [(6, .bool ((ar a0 1) == (2 : Int))), (1, .pointer (some ⟨g3, 0, none⟩))] (by kernel_rfl) fun a ha => ?_
 rcases Bool.eq_false_or_eq_true ((ar a0 1) == (2 : Int)) with hb34 | hb34
 ·have ha := ha.lit hb34
  have H := ite_t hb34 H
  have hE35 : ∀ j v, ([.int .u8 (ar a0 0)] : List Value)[j]? = some v → w2.cell? ⟨g3, (0 + 0 + 0) + j, none⟩ = some v := cellA (m := 8) [] [] hE5 (by kernel_rfl) (by decide)
  have hn35 := hn6
  refine hop (v := .pointer (some ⟨g3, (0 + 0 + 0), none⟩)) (w' := w2) ha rfl rfl rfl (ixA_run (T := 5) (N := 8) (g := g3) (o' := 0) (k := .i64) (i := (0 : Int)) ha (by kernel_rfl) (by kernel_rfl) (by rfl) (by rfl) (by decide) (by decide) _) fun a ha => ?_
  refine ld ha rfl (by kernel_rfl) rfl rfl rfl (hE35 0 (.int .u8 (ar a0 0)) (by kernel_rfl)) fun a ha => ?_
  refine sgh ha 2 [2, 3] [(1, .pointer (some ⟨g3, 0, none⟩)), (10, .bool (decide ((ar a0 0) ≤ (2 : Int))))] (by kernel_rfl) fun a ha => ?_
  obtain rfl := Option.some.inj H
  exact J9 _ _ (ha.sel (by kernel_rfl)) hE5 hn6 hC hM
 ·have ha := ha.lit hb34
  have H := ite_f hb34 H
  refine sgh ha 4 [1, 1, 1, 4] [(1, .pointer (some ⟨g3, 0, none⟩)), (10, .bool false)] (by kernel_rfl) fun a ha => ?_
  obtain rfl := Option.some.inj H
  exact J9 _ _ (ha.sel (by kernel_rfl)) hE5 hn6 hC hM
def vineryref04_Meet.l1 (a0 : List (List Int)) (a1 : List (List Int)) (x7 : Int) : Nat → Int → Option ((Bool) ⊕ (Unit))
  | 0, _ => none
  | kk + 1, x15 => (if (decide (x15 < (a1.length : Int))) = true then ((if 0 ≤ x7 ∧ x7 < (a0.length : Int) then (if 0 ≤ x15 ∧ x15 < (a1.length : Int) then (if (eqA 8 (rd a0 x7) (rd a1 x15)) = true then (if 0 ≤ x7 ∧ x7 < (a0.length : Int) then (vineryref04_Kind.f (rd a0 x7)).bind fun t46 => some (t46 == (1 : Int) : Bool) else none) else some (false : Bool)) else none) else none)).bind fun s21 => (if s21 = true then some (.inl ((true : Bool))) else vineryref04_Meet.l1 a0 a1 x7 kk (IntKind.i64.wrap (x15 + (1 : Int)))) else some (.inr (() : Unit)))
def vineryref04_Meet.l0 (k : Nat) (a0 : List (List Int)) (a1 : List (List Int)) : Nat → Int → Option ((Bool) ⊕ (Unit))
  | 0, _ => none
  | kk + 1, x7 => (if (decide (x7 < (a0.length : Int))) = true then (vineryref04_Meet.l1 a0 a1 x7 k (0 : Int)).bind fun s14 => match s14 with | .inl r => some (.inl r) | .inr s14' => vineryref04_Meet.l0 k a0 a1 kk (IntKind.i64.wrap (x7 + (1 : Int))) else some (.inr (() : Unit)))
def vineryref04_Meet.f (k : Nat) (a0 : List (List Int)) (a1 : List (List Int)) : Option (Bool) := (vineryref04_Meet.l0 k a0 a1 k (0 : Int)).bind fun s6 => match s6 with | .inl r => some r | .inr s6' => some ((false : Bool))
set_option maxRecDepth 100000 in
theorem vineryref04_Meet.walk (w : World) (M : List Nat) (hM : MS M w) (a0 : List (List Int)) (ao1 : Option Addr) (cap1 : Nat) (f1 : RSl (rArr .u8 8) 27 w M ao1 cap1 a0) (a1 : List (List Int)) (ao2 : Option Addr) (cap2 : Nat) (f2 : RSl (rArr .u8 8) 27 w M ao2 cap2 a1) (k : Nat) (r : Bool) (H : vineryref04_Meet.f k a0 a1 = some r) :
    To Tryz.prog 26 [.slice ao1 a0.length cap1, .slice ao2 a1.length cap2] w fun v w' => v = .bool r ∧ Chg [] w w' ∧ MS (M) w' := by
 unfold vineryref04_Meet.f at H
 refine ent Tryz.func26 rfl [(0, .slice ao1 a0.length cap1), (1, .slice ao2 a1.length cap2)] rfl (by rfl) fun a ha => ?_
 have hC : Chg [] w w := Chg.refl _ _
 refine wp_seq_k fun K3 hK3 => ?_
 refine wp_region_lit ?_
 refine seg ha 1 [(0, .slice ao1 a0.length cap1), (1, .slice ao2 a1.length cap2)] (by kernel_rfl) fun a ha => ?_
 refine hK3 _ _ ?_; try clear hK3 K3
 refine wp_seq_k fun K4 hK4 => ?_
 refine wp_seq_k fun K5 hK5 => ?_
 refine wp_region_lit ?_
 refine seg ha 1 [(0, .slice ao1 a0.length cap1), (1, .slice ao2 a1.length cap2), (5, .int .i64 (0 : Int))] (by kernel_rfl) fun a ha => ?_
 refine hK5 _ _ ?_; try clear hK5 K5
 refine wp_block ?_
 obtain ⟨s6, H6, H⟩ := bind_some H
 have J6 : ∀ s6' (a : Act) (wx6 : World), s6 = .inr s6' → Has a Tryz.f26.ntmps [] → (Chg [] w wx6) → (MS (M) wx6) → K4 a wx6 := by
  intro s6' a wx6 hs ha hC hM
  subst hs
  refine hK4 _ _ ?_; try clear hK4 K4
  refine wp_seq_k fun K8 hK8 => ?_
  refine wp_region_lit ?_
  refine seg ha 1 [(4, .bool false)] (by kernel_rfl) fun a ha => ?_
  refine hK8 _ _ ?_; try clear hK8 K8
  refine wp_ret ?_
  try simp only [Exit.then, Exit.inBlock]
  obtain rfl := Option.some.inj H
  refine rt1 ha rfl rfl ?_
  exact ⟨rfl, hC, hM⟩
 have Hc6 := H
 have H := H6
 refine wp_loop_ghost (fun kk a w6 => ∃ (x7 : Int), vineryref04_Meet.l0 k a0 a1 kk x7 = some s6 ∧ Has a Tryz.f26.ntmps [(0, .slice ao1 a0.length cap1), (1, .slice ao2 a1.length cap2), (5, .int .i64 x7)] ∧ (RSl (rArr .u8 8) 27 w6 (M) ao1 cap1 a0) ∧ (RSl (rArr .u8 8) 27 w6 (M) ao2 cap2 a1) ∧ (Chg [] w w6) ∧ (MS (M) w6)) k ?_ ?_
 ·skip
  exact ⟨(0 : Int), H, (ha.sel (by kernel_rfl)), f1, f2, hC, hM⟩
 ·rintro kk a w6 ⟨x7, H, ha, f1, f2, hC, hM⟩
  obtain _ | kk := kk
  ·exact nomatch (show none = some _ from H)
  rw [vineryref04_Meet.l0] at H
  refine wp_seq_k fun K9 hK9 => ?_
  refine wp_seq_k fun K10 hK10 => ?_
  refine wp_region_lit ?_
  refine seg ha 4 [(0, .slice ao1 a0.length cap1), (1, .slice ao2 a1.length cap2), (5, .int .i64 x7), (10, .bool (decide (x7 < (a0.length : Int))))] (by kernel_rfl) fun a ha => ?_
  refine hK10 _ _ ?_; try clear hK10 K10
  refine cnd ha rfl (fun hc11 => ?_) (fun hc11 => ?_)
  ·have H := ite_t hc11 H
   refine wp_skip ?_
   refine hK9 _ _ ?_; try clear hK9 K9
   refine wp_seq_k fun K12 hK12 => ?_
   refine wp_block ?_
   refine wp_seq_k fun K13 hK13 => ?_
   refine wp_region_lit ?_
   refine seg ha 1 [(0, .slice ao1 a0.length cap1), (1, .slice ao2 a1.length cap2), (5, .int .i64 x7), (6, .int .i64 (0 : Int))] (by kernel_rfl) fun a ha => ?_
   refine hK13 _ _ ?_; try clear hK13 K13
   refine wp_block ?_
   obtain ⟨s14, H14, H⟩ := bind_some H
   have J14 : ∀ s14' (a : Act) (wx14 : World), s14 = .inr s14' → Has a Tryz.f26.ntmps [(0, .slice ao1 a0.length cap1), (1, .slice ao2 a1.length cap2), (5, .int .i64 x7)] → (RSl (rArr .u8 8) 27 wx14 (M) ao1 cap1 a0) → (RSl (rArr .u8 8) 27 wx14 (M) ao2 cap2 a1) → (Chg [] w wx14) → (MS (M) wx14) → K12 a wx14 := by
    intro s14' a wx14 hs ha f1 f2 hC hM
    subst hs
    refine hK12 _ _ ?_; try clear hK12 K12
    refine wp_region_lit ?_
    refine seg ha 3 [(0, .slice ao1 a0.length cap1), (1, .slice ao2 a1.length cap2), (5, .int .i64 (IntKind.i64.wrap (x7 + (1 : Int))))] (by kernel_rfl) fun a ha => ?_
    exact ⟨kk, Nat.lt_succ_self _, ⟨IntKind.i64.wrap (x7 + (1 : Int)), H, (ha.sel (by kernel_rfl)), f1, f2, hC, hM⟩⟩
   have Hc14 := H
   have H := H14
   refine wp_loop_ghost (fun kk a w14 => ∃ (x15 : Int), vineryref04_Meet.l1 a0 a1 x7 kk x15 = some s14 ∧ Has a Tryz.f26.ntmps [(0, .slice ao1 a0.length cap1), (1, .slice ao2 a1.length cap2), (5, .int .i64 x7), (6, .int .i64 x15)] ∧ (RSl (rArr .u8 8) 27 w14 (M) ao1 cap1 a0) ∧ (RSl (rArr .u8 8) 27 w14 (M) ao2 cap2 a1) ∧ (Chg [] w w14) ∧ (MS (M) w14)) k ?_ ?_
   ·skip
    exact ⟨(0 : Int), H, (ha.sel (by kernel_rfl)), f1, f2, hC, hM⟩
   ·rintro kk a w14 ⟨x15, H, ha, f1, f2, hC, hM⟩
    obtain _ | kk := kk
    ·exact nomatch (show none = some _ from H)
    rw [vineryref04_Meet.l1] at H
    refine wp_seq_k fun K16 hK16 => ?_
    refine wp_seq_k fun K17 hK17 => ?_
    refine wp_region_lit ?_
    refine seg ha 4 [(0, .slice ao1 a0.length cap1), (1, .slice ao2 a1.length cap2), (5, .int .i64 x7), (6, .int .i64 x15), (16, .bool (decide (x15 < (a1.length : Int))))] (by kernel_rfl) fun a ha => ?_
    refine hK17 _ _ ?_; try clear hK17 K17
    refine cnd ha rfl (fun hc18 => ?_) (fun hc18 => ?_)
    ·have H := ite_t hc18 H
     refine wp_skip ?_
     refine hK16 _ _ ?_; try clear hK16 K16
     refine wp_seq_k fun K19 hK19 => ?_
     refine wp_block ?_
     refine wp_seq_k fun K20 hK20 => ?_
     refine drq0 (fun w' => Chg [] w14 w') (by kernel_rfl) (by kernel_rfl) (fun _ h => h) ?_
     obtain ⟨s21, H21, H⟩ := bind_some H
     have J21 : ∀ (a : Act) (w21 : World), Has a Tryz.f26.ntmps [(0, .slice ao1 a0.length cap1), (1, .slice ao2 a1.length cap2), (5, .int .i64 x7), (6, .int .i64 x15), (35, .bool s21)] → (RSl (rArr .u8 8) 27 w21 (M) ao1 cap1 a0) → (RSl (rArr .u8 8) 27 w21 (M) ao2 cap2 a1) → (Chg [] w w21) → (MS (M) w21) → K20 a w21 := by
      intro a w21 ha f1 f2 hC hM
      refine hK20 _ _ ?_; try clear hK20 K20
      refine cnd ha rfl (fun hc22 => ?_) (fun hc22 => ?_)
      ·have H := ite_t hc22 H
       refine wp_seq_k fun K23 hK23 => ?_
       refine wp_region_lit ?_
       refine seg ha 1 [(4, .bool true)] (by kernel_rfl) fun a ha => ?_
       refine hK23 _ _ ?_; try clear hK23 K23
       refine wp_ret ?_
       try simp only [Exit.then, Exit.inBlock]
       obtain rfl := Option.some.inj H
       have H := (show some _ = some _ from Hc14)
       obtain rfl := Option.some.inj H
       have H := (show some _ = some _ from Hc6)
       obtain rfl := Option.some.inj H
       refine rt1 ha rfl rfl ?_
       exact ⟨rfl, hC, hM⟩
      ·have H := ite_f hc22 H
       refine wp_skip ?_
       refine hK19 _ _ ?_; try clear hK19 K19
       refine wp_region_lit ?_
       refine seg ha 3 [(0, .slice ao1 a0.length cap1), (1, .slice ao2 a1.length cap2), (5, .int .i64 x7), (6, .int .i64 (IntKind.i64.wrap (x15 + (1 : Int))))] (by kernel_rfl) fun a ha => ?_
       exact ⟨kk, Nat.lt_succ_self _, ⟨IntKind.i64.wrap (x15 + (1 : Int)), H, (ha.sel (by kernel_rfl)), f1, f2, hC, hM⟩⟩
     have H := H21
     refine qp 0 (.slice ao1 a0.length cap1) ha rfl rfl rfl (by kernel_rfl) fun a ha => ?_
     refine qp 0 (.int .i64 x7) ha rfl rfl rfl (by kernel_rfl) fun a ha => ?_
     obtain ⟨⟨hx24, hx24'⟩, H⟩ := ite_some H
     obtain ⟨ge25, oe260, cs27, hx24eq, hn30, hR28, hE29⟩ := RSl.elem f1 (Int.toNat x7) (by omega)
     rw [rd_get] at hR28
     obtain rfl := hR28
     have hE29 : ∀ j v, (cA .u8 8 (rd a0 x7))[j]? = some v → w14.cell? ⟨ge25, (oe260 + (Int.toNat x7) * (rArr .u8 8).sz) + j, none⟩ = some v := hE29
     refine qv (v := .pointer (some ⟨ge25, (oe260 + (Int.toNat x7) * (rArr .u8 8).sz), none⟩)) ha rfl rfl rfl (fun w' hs => ix_run (r := (rArr .u8 8)) (T := 27) ha (by kernel_rfl) (by kernel_rfl) (by rfl) (by rfl) hx24eq hx24 hx24') fun a ha => ?_
     refine qv (v := .agg (cA .u8 8 (rd a0 x7)).toArray) ha rfl rfl rfl (fun w' hs => ldA_run (cs := (cA .u8 8 (rd a0 x7))) ha rfl (by kernel_rfl) (cells_sub (fun j v hv => hs.keep (hE29 j v hv)) (all := (cA .u8 8 (rd a0 x7))) [] [] (by kernel_rfl))) fun a ha => ?_
     refine qp 0 (.slice ao2 a1.length cap2) ha rfl rfl rfl (by kernel_rfl) fun a ha => ?_
     refine qp 0 (.int .i64 x15) ha rfl rfl rfl (by kernel_rfl) fun a ha => ?_
     obtain ⟨⟨hx31, hx31'⟩, H⟩ := ite_some H
     obtain ⟨ge32, oe330, cs34, hx31eq, hn37, hR35, hE36⟩ := RSl.elem f2 (Int.toNat x15) (by omega)
     rw [rd_get] at hR35
     obtain rfl := hR35
     have hE36 : ∀ j v, (cA .u8 8 (rd a1 x15))[j]? = some v → w14.cell? ⟨ge32, (oe330 + (Int.toNat x15) * (rArr .u8 8).sz) + j, none⟩ = some v := hE36
     refine qv (v := .pointer (some ⟨ge32, (oe330 + (Int.toNat x15) * (rArr .u8 8).sz), none⟩)) ha rfl rfl rfl (fun w' hs => ix_run (r := (rArr .u8 8)) (T := 27) ha (by kernel_rfl) (by kernel_rfl) (by rfl) (by rfl) hx31eq hx31 hx31') fun a ha => ?_
     refine qv (v := .agg (cA .u8 8 (rd a1 x15)).toArray) ha rfl rfl rfl (fun w' hs => ldA_run (cs := (cA .u8 8 (rd a1 x15))) ha rfl (by kernel_rfl) (cells_sub (fun j v hv => hs.keep (hE36 j v hv)) (all := (cA .u8 8 (rd a1 x15))) [] [] (by kernel_rfl))) fun a ha => ?_
     refine qv (v := .bool (eqA 8 (rd a0 x7) (rd a1 x15))) ha rfl rfl rfl (fun w' hs => eqs_run (r := (eqA 8 (rd a0 x7) (rd a1 x15))) (m := 9) ha rfl rfl (by kernel_rfl) rfl (by kernel_rfl) w') fun a ha => ?_
     refine qp 0 (.bool (eqA 8 (rd a0 x7) (rd a1 x15))) ha rfl rfl rfl (by kernel_rfl) fun a ha => ?_
     have ha := ha.sel (env' := [(28, .bool (eqA 8 (rd a0 x7) (rd a1 x15))), (0, .slice ao1 a0.length cap1), (1, .slice ao2 a1.length cap2), (5, .int .i64 x7), (6, .int .i64 x15)]) (by kernel_rfl)
     rcases Bool.eq_false_or_eq_true ((eqA 8 (rd a0 x7) (rd a1 x15))) with hb38 | hb38
     ·have ha := ha.lit hb38
      have H := ite_t hb38 H
      refine qp 0 (.slice ao1 a0.length cap1) ha rfl rfl rfl (by kernel_rfl) fun a ha => ?_
      refine qp 0 (.int .i64 x7) ha rfl rfl rfl (by kernel_rfl) fun a ha => ?_
      obtain ⟨⟨hx39, hx39'⟩, H⟩ := ite_some H
      obtain ⟨ge40, oe410, cs42, hx39eq, hn45, hR43, hE44⟩ := RSl.elem f1 (Int.toNat x7) (by omega)
      rw [rd_get] at hR43
      obtain rfl := hR43
      have hE44 : ∀ j v, (cA .u8 8 (rd a0 x7))[j]? = some v → w14.cell? ⟨ge40, (oe410 + (Int.toNat x7) * (rArr .u8 8).sz) + j, none⟩ = some v := hE44
      refine qv (v := .pointer (some ⟨ge40, (oe410 + (Int.toNat x7) * (rArr .u8 8).sz), none⟩)) ha rfl rfl rfl (fun w' hs => ix_run (r := (rArr .u8 8)) (T := 27) ha (by kernel_rfl) (by kernel_rfl) (by rfl) (by rfl) hx39eq hx39 hx39') fun a ha => ?_
      refine qv (v := .agg (cA .u8 8 (rd a0 x7)).toArray) ha rfl rfl rfl (fun w' hs => ldA_run (cs := (cA .u8 8 (rd a0 x7))) ha rfl (by kernel_rfl) (cells_sub (fun j v hv => hs.keep (hE44 j v hv)) (all := (cA .u8 8 (rd a0 x7))) [] [] (by kernel_rfl))) fun a ha => ?_
      obtain ⟨t46, H46, H⟩ := bind_some H
      refine qc (.int .i64 t46) ha (by rfl) (by kernel_rfl) (by rfl) (by rfl) (by rfl) (fun w' hs => (vineryref04_Kind.walk w' [] (MS.nil _) (rd a0 x7) _ H46).mono fun v w'' ⟨hv, hc, _⟩ => ⟨hv, hs.trans hc (Ok.nil _ _)⟩) fun a ha => ?_
      refine qp 0 (.bool (t46 == (1 : Int))) ha rfl rfl rfl (by kernel_rfl) fun a ha => ?_
      refine qp 3 (.bool (t46 == (1 : Int))) ha rfl rfl rfl (by kernel_rfl) fun a ha => ?_
      refine wpQuiet_nil ?_
      intro w47 hc48
      have o1 : Ok [] (M) w14.heap.size := Ok.nil _ _
      have o2 : Ok (M) (M) w14.heap.size := (Ok.refl _ _)
      have f1 := f1.chg hc48 o1 o2
      have f2 := f2.chg hc48 o1 o2
      have q_hn45 : ge40 ∉ M := fun h => (o2 ge40 h).elim hn45 (fun h => absurd (lt_cell (hE44 0 _ rfl)) (Nat.not_lt.2 h))
      have hE44 : ∀ j v, (cA .u8 8 (rd a0 x7))[j]? = some v → w47.cell? ⟨ge40, (oe410 + (Int.toNat x7) * (rArr .u8 8).sz) + j, none⟩ = some v := fun j v hv => (cell_keep hc48 o1 hn45 (hE44 j v hv))
      have hn45 := q_hn45
      have hM : MS (M) w47 := (hM.chg hc48)
      have hC := hC.trans hc48 (Ok.nil _ _)
      refine wpl_end ?_
      obtain rfl := Option.some.inj H
      exact J21 _ _ (ha.sel (by kernel_rfl)) f1 f2 hC hM
     ·have ha := ha.lit hb38
      have H := ite_f hb38 H
      refine qo ha rfl rfl rfl fun a ha => ?_
      refine qo ha rfl rfl rfl fun a ha => ?_
      refine qo ha rfl rfl rfl fun a ha => ?_
      refine qo ha rfl rfl rfl fun a ha => ?_
      refine qo ha rfl rfl rfl fun a ha => ?_
      refine qo ha rfl rfl rfl fun a ha => ?_
      refine qp 4 (.bool false) ha rfl rfl rfl (by kernel_rfl) fun a ha => ?_
      refine wpQuiet_nil ?_
      intro w49 hc50
      have o1 : Ok [] (M) w14.heap.size := Ok.nil _ _
      have o2 : Ok (M) (M) w14.heap.size := (Ok.refl _ _)
      have f1 := f1.chg hc50 o1 o2
      have f2 := f2.chg hc50 o1 o2
      have hM : MS (M) w49 := (hM.chg hc50)
      have hC := hC.trans hc50 (Ok.nil _ _)
      refine wpl_end ?_
      obtain rfl := Option.some.inj H
      exact J21 _ _ (ha.sel (by kernel_rfl)) f1 f2 hC hM
    ·have H := ite_f hc18 H
     refine wp_exit ?_
     simp only [Exit.then, Exit.inBlock, ↓reduceIte, Nat.reduceEqDiff]
     obtain rfl := Option.some.inj H
     exact J14 _ _ _ rfl (ha.sel (by kernel_rfl)) f1 f2 hC hM
  ·have H := ite_f hc11 H
   refine wp_exit ?_
   simp only [Exit.then, Exit.inBlock, ↓reduceIte, Nat.reduceEqDiff]
   obtain rfl := Option.some.inj H
   exact J6 _ _ _ rfl (ha.sel (by kernel_rfl)) hC hM
def vinerylaw04_CommunityRows.l0 : Nat → (List (List Int)) → Int → Option (Unit)
  | 0, _, _ => none
  | kk + 1, x62, x63 => (if (decide (x63 < (x62.length : Int))) = true then (if 0 ≤ x63 ∧ x63 < (x62.length : Int) then vinerylaw04_CommunityRows.l0 kk (x62.set (Int.toNat x63) ([(255 : Int), (0 : Int), (0 : Int), (0 : Int), (0 : Int), (0 : Int), (0 : Int), (0 : Int)] : List Int)) (IntKind.i64.wrap (x63 + (1 : Int))) else none) else some (() : Unit))
def vinerylaw04_CommunityRows.f (k : Nat) (a0 : List (List Int)) (a1 : List (List Int)) (a2 : List Int) : Option (Bool) := (vinerylaw04_small.f k ).bind fun t6 => (if (if (decide ((a0.length : Int) > (60 : Int))) = true then true else (decide ((a1.length : Int) > (60 : Int)))) = true then some ((t6 : Bool)) else (if (([] : List (List Int)).length + a0.length) * 8 ≤ 140737488355328 then (if (([] : List (List Int)).length + a1.length) * 8 ≤ 140737488355328 then (Lent.f a2).bind fun t30 => (community_Set.f (([] : List (List Int)) ++ a0)).bind fun t33 => (community_Meet.f k (([] : List (List Int)) ++ a0) (([] : List (List Int)) ++ a1)).bind fun t36 => (community_Bytes.f k (([] : List (List Int)) ++ a0)).bind fun t38 => (community_Read.f k t30).bind fun t41 => (vineryref04_Read.f k a2).bind fun t44 => ((vineryref04_Same.f k (([] : List (List Int)) ++ a0) a0).bind fun t94 => (if t94 = true then (vineryref04_Same.f k (([] : List (List Int)) ++ a1) a1).bind fun t96 => (if t96 = true then (Kept.f t30 a2).bind fun t98 => some (t98 : Bool) else some (false : Bool)) else some (false : Bool))).bind fun s47 => ((vineryref04_Set.f k a0).bind fun t82 => (vineryref04_Same.f k t33 t82).bind fun t85 => (if t85 = true then (vineryref04_Bytes.f k a0).bind fun t88 => (if ((bstr (b2s t38)).toList == (bstr (b2s t88)).toList) = true then (vineryref04_Same.f k t41.1 t44.1).bind fun t93 => some (t93 : Bool) else some (false : Bool)) else some (false : Bool))).bind fun s51 => (vinerylaw04_CommunityRows.l0 k t33 (0 : Int)).bind fun s60 => ((if t6 = true then (if s47 = true then (if s51 = true then (vineryref04_Same.f k (([] : List (List Int)) ++ a0) a0).bind fun t69 => (if t69 = true then (vineryref04_Meet.f k a0 a1).bind fun t71 => (if (t36 == t71) = true then some (t41.2 == t44.2 : Bool) else some (false : Bool)) else some (false : Bool)) else some (false : Bool)) else some (false : Bool)) else some (false : Bool))).bind fun s65 => some ((s65 : Bool)) else none) else none))
set_option maxHeartbeats 2000000 in
set_option maxRecDepth 100000 in
theorem vinerylaw04_CommunityRows.walk (w : World) (M : List Nat) (hM : MS M w) (hG : GF w M) (a0 : List (List Int)) (ao1 : Option Addr) (cap1 : Nat) (f1 : RSl (rArr .u8 8) 27 w M ao1 cap1 a0) (a1 : List (List Int)) (ao2 : Option Addr) (cap2 : Nat) (f2 : RSl (rArr .u8 8) 27 w M ao2 cap2 a1) (a2 : List Int) (ao3 : Option Addr) (cap3 : Nat) (f3 : RSl (rInt .u8) 5 w M ao3 cap3 a2) (k : Nat) (r : Bool) (H : vinerylaw04_CommunityRows.f k a0 a1 a2 = some r) :
    To Tryz.prog 5 [.slice ao1 a0.length cap1, .slice ao2 a1.length cap2, .slice ao3 a2.length cap3] w fun v w' => v = .bool r ∧ Chg [] w w' ∧ MS (M) w' := by
 unfold vinerylaw04_CommunityRows.f at H
 refine ent Tryz.func5 rfl [(0, .slice ao1 a0.length cap1), (1, .slice ao2 a1.length cap2), (2, .slice ao3 a2.length cap3)] rfl (by rfl) fun a ha => ?_
 have hC : Chg [] w w := Chg.refl _ _
 refine wp_seq_k fun K4 hK4 => ?_
 refine wp_region_lit ?_
 refine seg ha 1 [(0, .slice ao1 a0.length cap1), (1, .slice ao2 a1.length cap2), (2, .slice ao3 a2.length cap3)] (by kernel_rfl) fun a ha => ?_
 refine hK4 _ _ ?_; try clear hK4 K4
 refine wp_seq_k fun K5 hK5 => ?_
 refine wp_region_lit ?_
 obtain ⟨t6, H6, H⟩ := bind_some H
 refine cl ha (by rfl) (by kernel_rfl) (by rfl) (by rfl) (by rfl) (vinerylaw04_small.walk w _ hM hG  k _ H6) ?_
 rintro _ w6 ⟨rfl, hc6, hMn⟩ a ha
 have o1 : Ok [] (M) w.heap.size := Ok.nil _ _
 have o2 : Ok (M) (M) w.heap.size := (Ok.refl _ _)
 have hG := hG.chg hc6 o1 o2
 have f1 := f1.chg hc6 o1 o2
 have f2 := f2.chg hc6 o1 o2
 have f3 := f3.chg hc6 o1 o2
 have hM : MS (M) w6 := (hM.chg hc6)
 have hC := hC.trans hc6 (Ok.nil _ _)
 refine seg ha 1 [(0, .slice ao1 a0.length cap1), (1, .slice ao2 a1.length cap2), (2, .slice ao3 a2.length cap3), (7, .bool t6)] (by kernel_rfl) fun a ha => ?_
 refine hK5 _ _ ?_; try clear hK5 K5
 refine wp_seq_k fun K7 hK7 => ?_
 refine wp_seq_k fun K8 hK8 => ?_
 refine wp_region_lit ?_
 refine seg ha 8 [(0, .slice ao1 a0.length cap1), (1, .slice ao2 a1.length cap2), (2, .slice ao3 a2.length cap3), (7, .bool t6), (30, .bool (if (decide ((a0.length : Int) > (60 : Int))) = true then true else (decide ((a1.length : Int) > (60 : Int)))))] (by kernel_rfl) fun a ha => ?_
 refine hK8 _ _ ?_; try clear hK8 K8
 refine cnd ha rfl (fun hc9 => ?_) (fun hc9 => ?_)
 ·have H := ite_t hc9 H
  refine wp_seq_k fun K10 hK10 => ?_
  refine wp_region_lit ?_
  refine seg ha 2 [(6, .bool t6)] (by kernel_rfl) fun a ha => ?_
  refine hK10 _ _ ?_; try clear hK10 K10
  refine wp_ret ?_
  try simp only [Exit.then, Exit.inBlock]
  obtain rfl := Option.some.inj H
  refine rt1 ha rfl rfl ?_
  exact ⟨rfl, hC, hM⟩
 ·have H := ite_f hc9 H
  refine wp_skip ?_
  refine hK7 _ _ ?_; try clear hK7 K7
  refine wp_seq_k fun K11 hK11 => ?_
  refine wp_region_lit ?_
  refine bsl (vals := ([] : List Value)) (T := 27) ha rfl ([] : List Value) (fun w => by kernel_rfl) rfl rfl rfl fun a w12 g13 hN14 ha => ?_
  have o1 : Ok [] (M) w6.heap.size := Ok.nil _ _
  have o2 : Ok ([g13] ++ (M)) (M) w6.heap.size := (Ok.app (hN14.ok _) (Ok.refl _ _))
  have hG := hG.chg hN14.chg o1 o2
  have f1 := f1.chg hN14.chg o1 o2
  have f2 := f2.chg hN14.chg o1 o2
  have f3 := f3.chg hN14.chg o1 o2
  have p_i15_M : ∀ x ∈ [g13], x ∉ M := fun x hx hy => absurd (hM x (hy)) (Nat.not_lt.2 ((hN14.ge1) x hx))
  have e_i15 : ∀ x ∈ [g13], w.heap.size ≤ x := fun x hx => Nat.le_trans hC.size ((hN14.ge1) x hx)
  have hM : MS ([g13] ++ (M)) w12 := (MS.app hN14.ms (hM.chg hN14.chg))
  have hC := hC.trans hN14.chg (Ok.nil _ _)
  have f16 : Own (rArr .u8 8) 27 w12 ([g13] ++ (M)) (some ⟨g13, 0, none⟩) 0 ([] : List (List Int)) := hN14.own rfl (Nat.le_of_ble_eq_true rfl)
  refine seg ha 1 [(0, .slice ao1 a0.length cap1), (1, .slice ao2 a1.length cap2), (2, .slice ao3 a2.length cap3), (7, .bool t6), (32, .slice (some ⟨g13, 0, none⟩) ([] : List (List Int)).length 0), (33, .slice ao1 a0.length cap1)] (by kernel_rfl) fun a ha => ?_
  obtain ⟨hx17, H⟩ := ite_some H
  refine app (r := (rArr .u8 8)) (xs := ([] : List (List Int))) (ys := a0) ha (ElemT.mk' (bytes := 8) (by kernel_rfl)) rfl rfl rfl rfl rfl f16 f1.src hx17 (by decide) fun a w18 ao19 cap19 hO19 hc19 hk19 hl19 ha => ?_
  have o1 : Ok [g13] ([g13] ++ (M)) w12.heap.size := (fun _ h => .inl (ml h))
  have o2 : Ok (blkL ao19 ++ (M)) ([g13] ++ (M)) w12.heap.size := (Ok.app (Ok.to hk19 (fun _ h => ml h)) (fun _ h => .inl (mr (h))))
  have hG := hG.chg hc19 o1 o2
  have f1 := f1.chg hc19 o1 o2
  have f2 := f2.chg hc19 o1 o2
  have f3 := f3.chg hc19 o1 o2
  have p_i19_M : ∀ x ∈ blkL ao19, x ∉ M := fun x hx hy => (hk19 x hx).elim (fun h => p_i15_M x h hy) (fun h => absurd (hM x (mr (hy))) (Nat.not_lt.2 h))
  have e_i19 : ∀ x ∈ blkL ao19, w.heap.size ≤ x := fun x hx => (hk19 x hx).elim (e_i15 x) (Nat.le_trans hC.size)
  have hM : MS (blkL ao19 ++ (M)) w18 := (MS.app hl19 (fun x h => hM.chg hc19 x (mr (h))))
  have hC := hC.trans hc19 (fun x h => .inr (e_i15 x h))
  have f19 := hO19.chg (M' := blkL ao19 ++ (M)) (Chg.refl [] _) (Ok.nil _ _) (Ok.app (fun _ h => .inl (ml h)) (Ok.to (fun _ h => .inl (mr (h))) (fun _ h => mr h))) (fun _ _ h => nomatch h) (fun _ h => ml h)
  refine seg ha 1 [(0, .slice ao1 a0.length cap1), (1, .slice ao2 a1.length cap2), (2, .slice ao3 a2.length cap3), (7, .bool t6), (8, .slice ao19 (([] : List (List Int)) ++ a0).length cap19)] (by kernel_rfl) fun a ha => ?_
  refine hK11 _ _ ?_; try clear hK11 K11
  refine wp_seq_k fun K20 hK20 => ?_
  refine wp_region_lit ?_
  refine bsl (vals := ([] : List Value)) (T := 27) ha rfl ([] : List Value) (fun w => by kernel_rfl) rfl rfl rfl fun a w21 g22 hN23 ha => ?_
  have o1 : Ok [] (blkL ao19 ++ (M)) w18.heap.size := Ok.nil _ _
  have o2 : Ok ([g22] ++ (blkL ao19 ++ (M))) (blkL ao19 ++ (M)) w18.heap.size := (Ok.app (hN23.ok _) (Ok.refl _ _))
  have hG := hG.chg hN23.chg o1 o2
  have f1 := f1.chg hN23.chg o1 o2
  have f2 := f2.chg hN23.chg o1 o2
  have f3 := f3.chg hN23.chg o1 o2
  have f19 := f19.chg hN23.chg o1 o2 (fun _ _ h => nomatch h) (fun _ h => mr (ml h))
  have p_i24_i19 : ∀ x ∈ [g22], x ∉ (blkL ao19) := fun x hx hy => absurd (hM x (ml hy)) (Nat.not_lt.2 ((hN23.ge1) x hx))
  have p_i24_M : ∀ x ∈ [g22], x ∉ M := fun x hx hy => absurd (hM x (mr (hy))) (Nat.not_lt.2 ((hN23.ge1) x hx))
  have e_i24 : ∀ x ∈ [g22], w.heap.size ≤ x := fun x hx => Nat.le_trans hC.size ((hN23.ge1) x hx)
  have hM : MS ([g22] ++ (blkL ao19 ++ (M))) w21 := (MS.app hN23.ms (hM.chg hN23.chg))
  have hC := hC.trans hN23.chg (Ok.nil _ _)
  have f25 : Own (rArr .u8 8) 27 w21 ([g22] ++ (blkL ao19 ++ (M))) (some ⟨g22, 0, none⟩) 0 ([] : List (List Int)) := hN23.own rfl (Nat.le_of_ble_eq_true rfl)
  refine seg ha 1 [(0, .slice ao1 a0.length cap1), (1, .slice ao2 a1.length cap2), (2, .slice ao3 a2.length cap3), (7, .bool t6), (8, .slice ao19 (([] : List (List Int)) ++ a0).length cap19), (35, .slice (some ⟨g22, 0, none⟩) ([] : List (List Int)).length 0), (36, .slice ao2 a1.length cap2)] (by kernel_rfl) fun a ha => ?_
  obtain ⟨hx26, H⟩ := ite_some H
  refine app (r := (rArr .u8 8)) (xs := ([] : List (List Int))) (ys := a1) ha (ElemT.mk' (bytes := 8) (by kernel_rfl)) rfl rfl rfl rfl rfl f25 f2.src hx26 (by decide) fun a w27 ao28 cap28 hO28 hc28 hk28 hl28 ha => ?_
  have o1 : Ok [g22] ([g22] ++ (blkL ao19 ++ (M))) w21.heap.size := (fun _ h => .inl (ml h))
  have o2 : Ok (blkL ao28 ++ (blkL ao19 ++ (M))) ([g22] ++ (blkL ao19 ++ (M))) w21.heap.size := (Ok.app (Ok.to hk28 (fun _ h => ml h)) (fun _ h => .inl (mr (h))))
  have hG := hG.chg hc28 o1 o2
  have f1 := f1.chg hc28 o1 o2
  have f2 := f2.chg hc28 o1 o2
  have f3 := f3.chg hc28 o1 o2
  have f19 := f19.chg hc28 o1 o2 (fun x (hx : x ∈ blkL ao19) (hy : x ∈ [g22]) => p_i24_i19 x hy hx) (fun _ h => mr (ml h))
  have p_i28_i19 : ∀ x ∈ blkL ao28, x ∉ (blkL ao19) := fun x hx hy => (hk28 x hx).elim (fun h => p_i24_i19 x h hy) (fun h => absurd (hM x (mr (ml hy))) (Nat.not_lt.2 h))
  have p_i28_M : ∀ x ∈ blkL ao28, x ∉ M := fun x hx hy => (hk28 x hx).elim (fun h => p_i24_M x h hy) (fun h => absurd (hM x (mr (mr (hy)))) (Nat.not_lt.2 h))
  have e_i28 : ∀ x ∈ blkL ao28, w.heap.size ≤ x := fun x hx => (hk28 x hx).elim (e_i24 x) (Nat.le_trans hC.size)
  have hM : MS (blkL ao28 ++ (blkL ao19 ++ (M))) w27 := (MS.app hl28 (fun x h => hM.chg hc28 x (mr (h))))
  have hC := hC.trans hc28 (fun x h => .inr (e_i24 x h))
  have f28 := hO28.chg (M' := blkL ao28 ++ (blkL ao19 ++ (M))) (Chg.refl [] _) (Ok.nil _ _) (Ok.app (fun _ h => .inl (ml h)) (Ok.to (fun _ h => .inl (mr (h))) (fun _ h => mr h))) (fun _ _ h => nomatch h) (fun _ h => ml h)
  refine seg ha 1 [(0, .slice ao1 a0.length cap1), (1, .slice ao2 a1.length cap2), (2, .slice ao3 a2.length cap3), (7, .bool t6), (8, .slice ao19 (([] : List (List Int)) ++ a0).length cap19), (9, .slice ao28 (([] : List (List Int)) ++ a1).length cap28)] (by kernel_rfl) fun a ha => ?_
  refine hK20 _ _ ?_; try clear hK20 K20
  refine wp_seq_k fun K29 hK29 => ?_
  refine wp_region_lit ?_
  refine seg ha 1 [(0, .slice ao1 a0.length cap1), (1, .slice ao2 a1.length cap2), (2, .slice ao3 a2.length cap3), (7, .bool t6), (8, .slice ao19 (([] : List (List Int)) ++ a0).length cap19), (9, .slice ao28 (([] : List (List Int)) ++ a1).length cap28), (38, .slice ao3 a2.length cap3)] (by kernel_rfl) fun a ha => ?_
  obtain ⟨t30, H30, H⟩ := bind_some H
  refine cl ha (by rfl) (by kernel_rfl) (by rfl) (by rfl) (by rfl) (Lent.walk w27 _ hM a2 ao3 cap3 f3 _ H30) ?_
  rintro _ w30 ⟨ao31, cap31, rfl, f31, ne_i31, hc30, hMn⟩ a ha
  have o1 : Ok [] (blkL ao28 ++ (blkL ao19 ++ (M))) w27.heap.size := Ok.nil _ _
  have o2 : Ok (blkL ao31 ++ (blkL ao28 ++ (blkL ao19 ++ (M)))) (blkL ao28 ++ (blkL ao19 ++ (M))) w27.heap.size := (Ok.app (fun x h => .inr (ne_i31 x h)) (Ok.refl _ _))
  have hG := hG.chg hc30 o1 o2
  have f1 := f1.chg hc30 o1 o2
  have f2 := f2.chg hc30 o1 o2
  have f3 := f3.chg hc30 o1 o2
  have f19 := f19.chg hc30 o1 o2 (fun _ _ h => nomatch h) (fun _ h => mr (mr (ml h)))
  have f28 := f28.chg hc30 o1 o2 (fun _ _ h => nomatch h) (fun _ h => mr (ml h))
  have p_i31_i28 : ∀ x ∈ blkL ao31, x ∉ (blkL ao28) := fun x hx hy => absurd (hM x (ml hy)) (Nat.not_lt.2 (ne_i31 x hx))
  have p_i31_i19 : ∀ x ∈ blkL ao31, x ∉ (blkL ao19) := fun x hx hy => absurd (hM x (mr (ml hy))) (Nat.not_lt.2 (ne_i31 x hx))
  have p_i31_M : ∀ x ∈ blkL ao31, x ∉ M := fun x hx hy => absurd (hM x (mr (mr (hy)))) (Nat.not_lt.2 (ne_i31 x hx))
  have e_i31 : ∀ x ∈ blkL ao31, w.heap.size ≤ x := fun x hx => Nat.le_trans hC.size (ne_i31 x hx)
  have hM : MS (blkL ao31 ++ (blkL ao28 ++ (blkL ao19 ++ (M)))) w30 := (MS.app (fun x h => hMn x (ml h)) (hM.chg hc30))
  have hC := hC.trans hc30 (Ok.nil _ _)
  refine seg ha 1 [(0, .slice ao1 a0.length cap1), (1, .slice ao2 a1.length cap2), (2, .slice ao3 a2.length cap3), (7, .bool t6), (8, .slice ao19 (([] : List (List Int)) ++ a0).length cap19), (9, .slice ao28 (([] : List (List Int)) ++ a1).length cap28), (10, .slice ao31 t30.length cap31)] (by kernel_rfl) fun a ha => ?_
  refine hK29 _ _ ?_; try clear hK29 K29
  refine wp_seq_k fun K32 hK32 => ?_
  refine wp_region_lit ?_
  refine seg ha 1 [(0, .slice ao1 a0.length cap1), (1, .slice ao2 a1.length cap2), (2, .slice ao3 a2.length cap3), (7, .bool t6), (8, .slice ao19 (([] : List (List Int)) ++ a0).length cap19), (9, .slice ao28 (([] : List (List Int)) ++ a1).length cap28), (10, .slice ao31 t30.length cap31), (40, .slice ao19 (([] : List (List Int)) ++ a0).length cap19)] (by kernel_rfl) fun a ha => ?_
  have hML : MS (blkL ao31 ++ (blkL ao28 ++ (M))) w30 := MS.rest hM (fun _ h => (List.mem_append.1 h).elim (fun h => ml h) (fun h => (List.mem_append.1 h).elim (fun h => mr (ml h)) (fun h => mr (mr (mr (h))))))
  have oL : Ok (blkL ao31 ++ (blkL ao28 ++ (M))) (blkL ao31 ++ (blkL ao28 ++ (blkL ao19 ++ (M)))) w30.heap.size := (Ok.app (fun _ h => .inl (ml h)) (Ok.app (fun _ h => .inl (mr (ml h))) (fun _ h => .inl (mr (mr (mr (h)))))))
  obtain ⟨t33, H33, H⟩ := bind_some H
  refine cl ha (by rfl) (by kernel_rfl) (by rfl) (by rfl) (by rfl) (community_Set.walk w30 _ hML (([] : List (List Int)) ++ a0) ao19 cap19 (Own.toRSl (M' := blkL ao31 ++ (blkL ao28 ++ (M))) f19 oL (fun x hx hm => (List.mem_append.1 hm).elim (fun h => (fun x hx hy => p_i31_i19 x hy hx) x hx h) (fun h => (List.mem_append.1 h).elim (fun h => (fun x hx hy => p_i28_i19 x hy hx) x hx h) (fun h => p_i19_M x hx h)))) _ H33) ?_
  rintro _ w33 ⟨ao34, cap34, rfl, f34, ne_i34, hc33, hMn⟩ a ha
  have o1 : Ok [] (blkL ao31 ++ (blkL ao28 ++ (blkL ao19 ++ (M)))) w30.heap.size := Ok.nil _ _
  have o2 : Ok (blkL ao34 ++ (blkL ao31 ++ (blkL ao28 ++ (blkL ao19 ++ (M))))) (blkL ao31 ++ (blkL ao28 ++ (blkL ao19 ++ (M)))) w30.heap.size := (Ok.app (fun x h => .inr (ne_i34 x h)) (Ok.refl _ _))
  have hG := hG.chg hc33 o1 o2
  have f1 := f1.chg hc33 o1 o2
  have f2 := f2.chg hc33 o1 o2
  have f3 := f3.chg hc33 o1 o2
  have f19 := f19.chg hc33 o1 o2 (fun _ _ h => nomatch h) (fun _ h => mr (mr (mr (ml h))))
  have f28 := f28.chg hc33 o1 o2 (fun _ _ h => nomatch h) (fun _ h => mr (mr (ml h)))
  have f31 := f31.chg hc33 o1 o2 (fun _ _ h => nomatch h) (fun _ h => mr (ml h))
  have p_i34_i31 : ∀ x ∈ blkL ao34, x ∉ (blkL ao31) := fun x hx hy => absurd (hM x (ml hy)) (Nat.not_lt.2 (ne_i34 x hx))
  have p_i34_i28 : ∀ x ∈ blkL ao34, x ∉ (blkL ao28) := fun x hx hy => absurd (hM x (mr (ml hy))) (Nat.not_lt.2 (ne_i34 x hx))
  have p_i34_i19 : ∀ x ∈ blkL ao34, x ∉ (blkL ao19) := fun x hx hy => absurd (hM x (mr (mr (ml hy)))) (Nat.not_lt.2 (ne_i34 x hx))
  have p_i34_M : ∀ x ∈ blkL ao34, x ∉ M := fun x hx hy => absurd (hM x (mr (mr (mr (hy))))) (Nat.not_lt.2 (ne_i34 x hx))
  have e_i34 : ∀ x ∈ blkL ao34, w.heap.size ≤ x := fun x hx => Nat.le_trans hC.size (ne_i34 x hx)
  have hM : MS (blkL ao34 ++ (blkL ao31 ++ (blkL ao28 ++ (blkL ao19 ++ (M))))) w33 := (MS.app (fun x h => hMn x (ml h)) (hM.chg hc33))
  have hC := hC.trans hc33 (Ok.nil _ _)
  have f34 := Own.re (M' := blkL ao34 ++ (blkL ao31 ++ (blkL ao28 ++ (blkL ao19 ++ (M))))) (fun _ _ _ _ _ h => h) f34 (fun _ h => ml h)
  refine seg ha 1 [(0, .slice ao1 a0.length cap1), (1, .slice ao2 a1.length cap2), (2, .slice ao3 a2.length cap3), (7, .bool t6), (8, .slice ao19 (([] : List (List Int)) ++ a0).length cap19), (9, .slice ao28 (([] : List (List Int)) ++ a1).length cap28), (10, .slice ao31 t30.length cap31), (11, .slice ao34 t33.length cap34)] (by kernel_rfl) fun a ha => ?_
  refine hK32 _ _ ?_; try clear hK32 K32
  refine wp_seq_k fun K35 hK35 => ?_
  refine wp_region_lit ?_
  refine seg ha 2 [(0, .slice ao1 a0.length cap1), (1, .slice ao2 a1.length cap2), (2, .slice ao3 a2.length cap3), (7, .bool t6), (8, .slice ao19 (([] : List (List Int)) ++ a0).length cap19), (9, .slice ao28 (([] : List (List Int)) ++ a1).length cap28), (10, .slice ao31 t30.length cap31), (11, .slice ao34 t33.length cap34), (42, .slice ao19 (([] : List (List Int)) ++ a0).length cap19), (43, .slice ao28 (([] : List (List Int)) ++ a1).length cap28)] (by kernel_rfl) fun a ha => ?_
  have hML : MS (blkL ao34 ++ (blkL ao31 ++ (M))) w33 := MS.rest hM (fun _ h => (List.mem_append.1 h).elim (fun h => ml h) (fun h => (List.mem_append.1 h).elim (fun h => mr (ml h)) (fun h => mr (mr (mr (mr (h)))))))
  have oL : Ok (blkL ao34 ++ (blkL ao31 ++ (M))) (blkL ao34 ++ (blkL ao31 ++ (blkL ao28 ++ (blkL ao19 ++ (M))))) w33.heap.size := (Ok.app (fun _ h => .inl (ml h)) (Ok.app (fun _ h => .inl (mr (ml h))) (fun _ h => .inl (mr (mr (mr (mr (h))))))))
  obtain ⟨t36, H36, H⟩ := bind_some H
  refine cl ha (by rfl) (by kernel_rfl) (by rfl) (by rfl) (by rfl) (community_Meet.walk w33 _ hML (([] : List (List Int)) ++ a0) ao19 cap19 (Own.toRSl (M' := blkL ao34 ++ (blkL ao31 ++ (M))) f19 oL (fun x hx hm => (List.mem_append.1 hm).elim (fun h => (fun x hx hy => p_i34_i19 x hy hx) x hx h) (fun h => (List.mem_append.1 h).elim (fun h => (fun x hx hy => p_i31_i19 x hy hx) x hx h) (fun h => p_i19_M x hx h)))) (([] : List (List Int)) ++ a1) ao28 cap28 (Own.toRSl (M' := blkL ao34 ++ (blkL ao31 ++ (M))) f28 oL (fun x hx hm => (List.mem_append.1 hm).elim (fun h => (fun x hx hy => p_i34_i28 x hy hx) x hx h) (fun h => (List.mem_append.1 h).elim (fun h => (fun x hx hy => p_i31_i28 x hy hx) x hx h) (fun h => p_i28_M x hx h)))) k _ H36) ?_
  rintro _ w36 ⟨rfl, hc36, hMn⟩ a ha
  have o1 : Ok [] (blkL ao34 ++ (blkL ao31 ++ (blkL ao28 ++ (blkL ao19 ++ (M))))) w33.heap.size := Ok.nil _ _
  have o2 : Ok (blkL ao34 ++ (blkL ao31 ++ (blkL ao28 ++ (blkL ao19 ++ (M))))) (blkL ao34 ++ (blkL ao31 ++ (blkL ao28 ++ (blkL ao19 ++ (M))))) w33.heap.size := (Ok.refl _ _)
  have hG := hG.chg hc36 o1 o2
  have f1 := f1.chg hc36 o1 o2
  have f2 := f2.chg hc36 o1 o2
  have f3 := f3.chg hc36 o1 o2
  have f19 := f19.chg hc36 o1 o2 (fun _ _ h => nomatch h) (fun _ h => mr (mr (mr (ml h))))
  have f28 := f28.chg hc36 o1 o2 (fun _ _ h => nomatch h) (fun _ h => mr (mr (ml h)))
  have f31 := f31.chg hc36 o1 o2 (fun _ _ h => nomatch h) (fun _ h => mr (ml h))
  have f34 := f34.chg hc36 o1 o2 (fun _ _ h => nomatch h) (fun _ h => ml h)
  have hM : MS (blkL ao34 ++ (blkL ao31 ++ (blkL ao28 ++ (blkL ao19 ++ (M))))) w36 := (hM.chg hc36)
  have hC := hC.trans hc36 (Ok.nil _ _)
  refine seg ha 1 [(0, .slice ao1 a0.length cap1), (1, .slice ao2 a1.length cap2), (2, .slice ao3 a2.length cap3), (7, .bool t6), (8, .slice ao19 (([] : List (List Int)) ++ a0).length cap19), (9, .slice ao28 (([] : List (List Int)) ++ a1).length cap28), (10, .slice ao31 t30.length cap31), (11, .slice ao34 t33.length cap34), (12, .bool t36)] (by kernel_rfl) fun a ha => ?_
  refine hK35 _ _ ?_; try clear hK35 K35
  refine wp_seq_k fun K37 hK37 => ?_
  refine wp_region_lit ?_
  refine seg ha 1 [(0, .slice ao1 a0.length cap1), (1, .slice ao2 a1.length cap2), (2, .slice ao3 a2.length cap3), (7, .bool t6), (8, .slice ao19 (([] : List (List Int)) ++ a0).length cap19), (9, .slice ao28 (([] : List (List Int)) ++ a1).length cap28), (10, .slice ao31 t30.length cap31), (11, .slice ao34 t33.length cap34), (12, .bool t36), (45, .slice ao19 (([] : List (List Int)) ++ a0).length cap19)] (by kernel_rfl) fun a ha => ?_
  have hML : MS (blkL ao34 ++ (blkL ao31 ++ (blkL ao28 ++ (M)))) w36 := MS.rest hM (fun _ h => (List.mem_append.1 h).elim (fun h => ml h) (fun h => (List.mem_append.1 h).elim (fun h => mr (ml h)) (fun h => (List.mem_append.1 h).elim (fun h => mr (mr (ml h))) (fun h => mr (mr (mr (mr (h))))))))
  have oL : Ok (blkL ao34 ++ (blkL ao31 ++ (blkL ao28 ++ (M)))) (blkL ao34 ++ (blkL ao31 ++ (blkL ao28 ++ (blkL ao19 ++ (M))))) w36.heap.size := (Ok.app (fun _ h => .inl (ml h)) (Ok.app (fun _ h => .inl (mr (ml h))) (Ok.app (fun _ h => .inl (mr (mr (ml h)))) (fun _ h => .inl (mr (mr (mr (mr (h)))))))))
  obtain ⟨t38, H38, H⟩ := bind_some H
  refine cl ha (by rfl) (by kernel_rfl) (by rfl) (by rfl) (by rfl) (community_Bytes.walk w36 _ hML (([] : List (List Int)) ++ a0) ao19 cap19 (Own.toRSl (M' := blkL ao34 ++ (blkL ao31 ++ (blkL ao28 ++ (M)))) f19 oL (fun x hx hm => (List.mem_append.1 hm).elim (fun h => (fun x hx hy => p_i34_i19 x hy hx) x hx h) (fun h => (List.mem_append.1 h).elim (fun h => (fun x hx hy => p_i31_i19 x hy hx) x hx h) (fun h => (List.mem_append.1 h).elim (fun h => (fun x hx hy => p_i28_i19 x hy hx) x hx h) (fun h => p_i19_M x hx h))))) k _ H38) ?_
  rintro _ w38 ⟨ao39, cap39, rfl, f39, ne_i39, hc38, hMn⟩ a ha
  have o1 : Ok [] (blkL ao34 ++ (blkL ao31 ++ (blkL ao28 ++ (blkL ao19 ++ (M))))) w36.heap.size := Ok.nil _ _
  have o2 : Ok (blkL ao39 ++ (blkL ao34 ++ (blkL ao31 ++ (blkL ao28 ++ (blkL ao19 ++ (M)))))) (blkL ao34 ++ (blkL ao31 ++ (blkL ao28 ++ (blkL ao19 ++ (M))))) w36.heap.size := (Ok.app (fun x h => .inr (ne_i39 x h)) (Ok.refl _ _))
  have hG := hG.chg hc38 o1 o2
  have f1 := f1.chg hc38 o1 o2
  have f2 := f2.chg hc38 o1 o2
  have f3 := f3.chg hc38 o1 o2
  have f19 := f19.chg hc38 o1 o2 (fun _ _ h => nomatch h) (fun _ h => mr (mr (mr (mr (ml h)))))
  have f28 := f28.chg hc38 o1 o2 (fun _ _ h => nomatch h) (fun _ h => mr (mr (mr (ml h))))
  have f31 := f31.chg hc38 o1 o2 (fun _ _ h => nomatch h) (fun _ h => mr (mr (ml h)))
  have f34 := f34.chg hc38 o1 o2 (fun _ _ h => nomatch h) (fun _ h => mr (ml h))
  have p_i39_i34 : ∀ x ∈ blkL ao39, x ∉ (blkL ao34) := fun x hx hy => absurd (hM x (ml hy)) (Nat.not_lt.2 (ne_i39 x hx))
  have p_i39_i31 : ∀ x ∈ blkL ao39, x ∉ (blkL ao31) := fun x hx hy => absurd (hM x (mr (ml hy))) (Nat.not_lt.2 (ne_i39 x hx))
  have p_i39_i28 : ∀ x ∈ blkL ao39, x ∉ (blkL ao28) := fun x hx hy => absurd (hM x (mr (mr (ml hy)))) (Nat.not_lt.2 (ne_i39 x hx))
  have p_i39_i19 : ∀ x ∈ blkL ao39, x ∉ (blkL ao19) := fun x hx hy => absurd (hM x (mr (mr (mr (ml hy))))) (Nat.not_lt.2 (ne_i39 x hx))
  have p_i39_M : ∀ x ∈ blkL ao39, x ∉ M := fun x hx hy => absurd (hM x (mr (mr (mr (mr (hy)))))) (Nat.not_lt.2 (ne_i39 x hx))
  have e_i39 : ∀ x ∈ blkL ao39, w.heap.size ≤ x := fun x hx => Nat.le_trans hC.size (ne_i39 x hx)
  have hM : MS (blkL ao39 ++ (blkL ao34 ++ (blkL ao31 ++ (blkL ao28 ++ (blkL ao19 ++ (M)))))) w38 := (MS.app (fun x h => hMn x (ml h)) (hM.chg hc38))
  have hC := hC.trans hc38 (Ok.nil _ _)
  have f39 := Own.re (M' := blkL ao39 ++ (blkL ao34 ++ (blkL ao31 ++ (blkL ao28 ++ (blkL ao19 ++ (M)))))) (fun _ _ _ _ _ h => h) f39 (fun _ h => ml h)
  refine seg ha 1 [(0, .slice ao1 a0.length cap1), (1, .slice ao2 a1.length cap2), (2, .slice ao3 a2.length cap3), (7, .bool t6), (8, .slice ao19 (([] : List (List Int)) ++ a0).length cap19), (9, .slice ao28 (([] : List (List Int)) ++ a1).length cap28), (10, .slice ao31 t30.length cap31), (11, .slice ao34 t33.length cap34), (12, .bool t36), (13, .slice ao39 t38.length cap39)] (by kernel_rfl) fun a ha => ?_
  refine hK37 _ _ ?_; try clear hK37 K37
  refine wp_seq_k fun K40 hK40 => ?_
  refine wp_region_lit ?_
  refine seg ha 1 [(0, .slice ao1 a0.length cap1), (1, .slice ao2 a1.length cap2), (2, .slice ao3 a2.length cap3), (7, .bool t6), (8, .slice ao19 (([] : List (List Int)) ++ a0).length cap19), (9, .slice ao28 (([] : List (List Int)) ++ a1).length cap28), (10, .slice ao31 t30.length cap31), (11, .slice ao34 t33.length cap34), (12, .bool t36), (13, .slice ao39 t38.length cap39), (48, .slice ao31 t30.length cap31)] (by kernel_rfl) fun a ha => ?_
  have hML : MS (blkL ao39 ++ (blkL ao34 ++ (blkL ao28 ++ (blkL ao19 ++ (M))))) w38 := MS.rest hM (fun _ h => (List.mem_append.1 h).elim (fun h => ml h) (fun h => (List.mem_append.1 h).elim (fun h => mr (ml h)) (fun h => (List.mem_append.1 h).elim (fun h => mr (mr (mr (ml h)))) (fun h => (List.mem_append.1 h).elim (fun h => mr (mr (mr (mr (ml h))))) (fun h => mr (mr (mr (mr (mr (h))))))))))
  have oL : Ok (blkL ao39 ++ (blkL ao34 ++ (blkL ao28 ++ (blkL ao19 ++ (M))))) (blkL ao39 ++ (blkL ao34 ++ (blkL ao31 ++ (blkL ao28 ++ (blkL ao19 ++ (M)))))) w38.heap.size := (Ok.app (fun _ h => .inl (ml h)) (Ok.app (fun _ h => .inl (mr (ml h))) (fun _ h => .inl (mr (mr (mr (h)))))))
  obtain ⟨t41, H41, H⟩ := bind_some H
  refine cl ha (by rfl) (by kernel_rfl) (by rfl) (by rfl) (by rfl) (community_Read.walk w38 _ hML t30 ao31 cap31 (Len.toRSl (T := 5) (M' := blkL ao39 ++ (blkL ao34 ++ (blkL ao28 ++ (blkL ao19 ++ (M))))) f31 oL (fun x hx hm => (List.mem_append.1 hm).elim (fun h => (fun x hx hy => p_i39_i31 x hy hx) x hx h) (fun h => (List.mem_append.1 h).elim (fun h => (fun x hx hy => p_i34_i31 x hy hx) x hx h) (fun h => (List.mem_append.1 h).elim (fun h => p_i31_i28 x hx h) (fun h => (List.mem_append.1 h).elim (fun h => p_i31_i19 x hx h) (fun h => p_i31_M x hx h)))))) k _ H41) ?_
  rintro _ w41 ⟨ao42, cap42, rfl, f42, ne_i42, hc41, hMn⟩ a ha
  have o1 : Ok [] (blkL ao39 ++ (blkL ao34 ++ (blkL ao31 ++ (blkL ao28 ++ (blkL ao19 ++ (M)))))) w38.heap.size := Ok.nil _ _
  have o2 : Ok (blkL ao42 ++ (blkL ao39 ++ (blkL ao34 ++ (blkL ao31 ++ (blkL ao28 ++ (blkL ao19 ++ (M))))))) (blkL ao39 ++ (blkL ao34 ++ (blkL ao31 ++ (blkL ao28 ++ (blkL ao19 ++ (M)))))) w38.heap.size := (Ok.app (fun x h => .inr (ne_i42 x h)) (Ok.refl _ _))
  have hG := hG.chg hc41 o1 o2
  have f1 := f1.chg hc41 o1 o2
  have f2 := f2.chg hc41 o1 o2
  have f3 := f3.chg hc41 o1 o2
  have f19 := f19.chg hc41 o1 o2 (fun _ _ h => nomatch h) (fun _ h => mr (mr (mr (mr (mr (ml h))))))
  have f28 := f28.chg hc41 o1 o2 (fun _ _ h => nomatch h) (fun _ h => mr (mr (mr (mr (ml h)))))
  have f31 := f31.chg hc41 o1 o2 (fun _ _ h => nomatch h) (fun _ h => mr (mr (mr (ml h))))
  have f34 := f34.chg hc41 o1 o2 (fun _ _ h => nomatch h) (fun _ h => mr (mr (ml h)))
  have f39 := f39.chg hc41 o1 o2 (fun _ _ h => nomatch h) (fun _ h => mr (ml h))
  have p_i42_i39 : ∀ x ∈ blkL ao42, x ∉ (blkL ao39) := fun x hx hy => absurd (hM x (ml hy)) (Nat.not_lt.2 (ne_i42 x hx))
  have p_i42_i34 : ∀ x ∈ blkL ao42, x ∉ (blkL ao34) := fun x hx hy => absurd (hM x (mr (ml hy))) (Nat.not_lt.2 (ne_i42 x hx))
  have p_i42_i31 : ∀ x ∈ blkL ao42, x ∉ (blkL ao31) := fun x hx hy => absurd (hM x (mr (mr (ml hy)))) (Nat.not_lt.2 (ne_i42 x hx))
  have p_i42_i28 : ∀ x ∈ blkL ao42, x ∉ (blkL ao28) := fun x hx hy => absurd (hM x (mr (mr (mr (ml hy))))) (Nat.not_lt.2 (ne_i42 x hx))
  have p_i42_i19 : ∀ x ∈ blkL ao42, x ∉ (blkL ao19) := fun x hx hy => absurd (hM x (mr (mr (mr (mr (ml hy)))))) (Nat.not_lt.2 (ne_i42 x hx))
  have p_i42_M : ∀ x ∈ blkL ao42, x ∉ M := fun x hx hy => absurd (hM x (mr (mr (mr (mr (mr (hy))))))) (Nat.not_lt.2 (ne_i42 x hx))
  have e_i42 : ∀ x ∈ blkL ao42, w.heap.size ≤ x := fun x hx => Nat.le_trans hC.size (ne_i42 x hx)
  have hM : MS (blkL ao42 ++ (blkL ao39 ++ (blkL ao34 ++ (blkL ao31 ++ (blkL ao28 ++ (blkL ao19 ++ (M))))))) w41 := (MS.app (fun x h => hMn x (ml h)) (hM.chg hc41))
  have hC := hC.trans hc41 (Ok.nil _ _)
  have f42 := Own.re (M' := blkL ao42 ++ (blkL ao39 ++ (blkL ao34 ++ (blkL ao31 ++ (blkL ao28 ++ (blkL ao19 ++ (M))))))) (fun _ _ _ _ _ h => h) f42 (fun _ h => ml h)
  refine seg ha 5 [(0, .slice ao1 a0.length cap1), (1, .slice ao2 a1.length cap2), (2, .slice ao3 a2.length cap3), (7, .bool t6), (8, .slice ao19 (([] : List (List Int)) ++ a0).length cap19), (9, .slice ao28 (([] : List (List Int)) ++ a1).length cap28), (10, .slice ao31 t30.length cap31), (11, .slice ao34 t33.length cap34), (12, .bool t36), (13, .slice ao39 t38.length cap39), (14, .slice ao42 t41.1.length cap42), (15, .int .i64 t41.2)] (by kernel_rfl) fun a ha => ?_
  refine hK40 _ _ ?_; try clear hK40 K40
  refine wp_seq_k fun K43 hK43 => ?_
  refine wp_region_lit ?_
  refine seg ha 1 [(0, .slice ao1 a0.length cap1), (1, .slice ao2 a1.length cap2), (2, .slice ao3 a2.length cap3), (7, .bool t6), (8, .slice ao19 (([] : List (List Int)) ++ a0).length cap19), (9, .slice ao28 (([] : List (List Int)) ++ a1).length cap28), (10, .slice ao31 t30.length cap31), (11, .slice ao34 t33.length cap34), (12, .bool t36), (13, .slice ao39 t38.length cap39), (14, .slice ao42 t41.1.length cap42), (15, .int .i64 t41.2), (53, .slice ao3 a2.length cap3)] (by kernel_rfl) fun a ha => ?_
  obtain ⟨t44, H44, H⟩ := bind_some H
  refine cl ha (by rfl) (by kernel_rfl) (by rfl) (by rfl) (by rfl) (vineryref04_Read.walk w41 _ hM a2 ao3 cap3 f3 k _ H44) ?_
  rintro _ w44 ⟨ao45, cap45, rfl, f45, ne_i45, hc44, hMn⟩ a ha
  have o1 : Ok [] (blkL ao42 ++ (blkL ao39 ++ (blkL ao34 ++ (blkL ao31 ++ (blkL ao28 ++ (blkL ao19 ++ (M))))))) w41.heap.size := Ok.nil _ _
  have o2 : Ok (blkL ao45 ++ (blkL ao42 ++ (blkL ao39 ++ (blkL ao34 ++ (blkL ao31 ++ (blkL ao28 ++ (blkL ao19 ++ (M)))))))) (blkL ao42 ++ (blkL ao39 ++ (blkL ao34 ++ (blkL ao31 ++ (blkL ao28 ++ (blkL ao19 ++ (M))))))) w41.heap.size := (Ok.app (fun x h => .inr (ne_i45 x h)) (Ok.refl _ _))
  have hG := hG.chg hc44 o1 o2
  have f1 := f1.chg hc44 o1 o2
  have f2 := f2.chg hc44 o1 o2
  have f3 := f3.chg hc44 o1 o2
  have f19 := f19.chg hc44 o1 o2 (fun _ _ h => nomatch h) (fun _ h => mr (mr (mr (mr (mr (mr (ml h)))))))
  have f28 := f28.chg hc44 o1 o2 (fun _ _ h => nomatch h) (fun _ h => mr (mr (mr (mr (mr (ml h))))))
  have f31 := f31.chg hc44 o1 o2 (fun _ _ h => nomatch h) (fun _ h => mr (mr (mr (mr (ml h)))))
  have f34 := f34.chg hc44 o1 o2 (fun _ _ h => nomatch h) (fun _ h => mr (mr (mr (ml h))))
  have f39 := f39.chg hc44 o1 o2 (fun _ _ h => nomatch h) (fun _ h => mr (mr (ml h)))
  have f42 := f42.chg hc44 o1 o2 (fun _ _ h => nomatch h) (fun _ h => mr (ml h))
  have p_i45_i42 : ∀ x ∈ blkL ao45, x ∉ (blkL ao42) := fun x hx hy => absurd (hM x (ml hy)) (Nat.not_lt.2 (ne_i45 x hx))
  have p_i45_i39 : ∀ x ∈ blkL ao45, x ∉ (blkL ao39) := fun x hx hy => absurd (hM x (mr (ml hy))) (Nat.not_lt.2 (ne_i45 x hx))
  have p_i45_i34 : ∀ x ∈ blkL ao45, x ∉ (blkL ao34) := fun x hx hy => absurd (hM x (mr (mr (ml hy)))) (Nat.not_lt.2 (ne_i45 x hx))
  have p_i45_i31 : ∀ x ∈ blkL ao45, x ∉ (blkL ao31) := fun x hx hy => absurd (hM x (mr (mr (mr (ml hy))))) (Nat.not_lt.2 (ne_i45 x hx))
  have p_i45_i28 : ∀ x ∈ blkL ao45, x ∉ (blkL ao28) := fun x hx hy => absurd (hM x (mr (mr (mr (mr (ml hy)))))) (Nat.not_lt.2 (ne_i45 x hx))
  have p_i45_i19 : ∀ x ∈ blkL ao45, x ∉ (blkL ao19) := fun x hx hy => absurd (hM x (mr (mr (mr (mr (mr (ml hy))))))) (Nat.not_lt.2 (ne_i45 x hx))
  have p_i45_M : ∀ x ∈ blkL ao45, x ∉ M := fun x hx hy => absurd (hM x (mr (mr (mr (mr (mr (mr (hy)))))))) (Nat.not_lt.2 (ne_i45 x hx))
  have e_i45 : ∀ x ∈ blkL ao45, w.heap.size ≤ x := fun x hx => Nat.le_trans hC.size (ne_i45 x hx)
  have hM : MS (blkL ao45 ++ (blkL ao42 ++ (blkL ao39 ++ (blkL ao34 ++ (blkL ao31 ++ (blkL ao28 ++ (blkL ao19 ++ (M)))))))) w44 := (MS.app (fun x h => hMn x (ml h)) (hM.chg hc44))
  have hC := hC.trans hc44 (Ok.nil _ _)
  refine seg ha 5 [(0, .slice ao1 a0.length cap1), (1, .slice ao2 a1.length cap2), (2, .slice ao3 a2.length cap3), (7, .bool t6), (8, .slice ao19 (([] : List (List Int)) ++ a0).length cap19), (9, .slice ao28 (([] : List (List Int)) ++ a1).length cap28), (10, .slice ao31 t30.length cap31), (11, .slice ao34 t33.length cap34), (12, .bool t36), (13, .slice ao39 t38.length cap39), (14, .slice ao42 t41.1.length cap42), (15, .int .i64 t41.2), (16, .slice ao45 t44.1.length cap45), (17, .int .i64 t44.2)] (by kernel_rfl) fun a ha => ?_
  refine hK43 _ _ ?_; try clear hK43 K43
  refine wp_seq_k fun K46 hK46 => ?_
  refine wp_region_lit ?_
  obtain ⟨s47, H47, H⟩ := bind_some H
  have J47 : ∀ (a : Act) (w47 : World), Has a Tryz.f5.ntmps [(0, .slice ao1 a0.length cap1), (1, .slice ao2 a1.length cap2), (7, .bool t6), (8, .slice ao19 (([] : List (List Int)) ++ a0).length cap19), (10, .slice ao31 t30.length cap31), (11, .slice ao34 t33.length cap34), (12, .bool t36), (13, .slice ao39 t38.length cap39), (14, .slice ao42 t41.1.length cap42), (15, .int .i64 t41.2), (16, .slice ao45 t44.1.length cap45), (17, .int .i64 t44.2), (18, .bool s47)] → (RSl (rArr .u8 8) 27 w47 (blkL ao45 ++ (blkL ao42 ++ (blkL ao39 ++ (blkL ao34 ++ (blkL ao31 ++ (blkL ao19 ++ (M))))))) ao1 cap1 a0) → (RSl (rArr .u8 8) 27 w47 (blkL ao45 ++ (blkL ao42 ++ (blkL ao39 ++ (blkL ao34 ++ (blkL ao31 ++ (blkL ao19 ++ (M))))))) ao2 cap2 a1) → (Own (rArr .u8 8) 27 w47 (blkL ao45 ++ (blkL ao42 ++ (blkL ao39 ++ (blkL ao34 ++ (blkL ao31 ++ (blkL ao19 ++ (M))))))) ao19 cap19 (([] : List (List Int)) ++ a0)) → (Len w47 (blkL ao45 ++ (blkL ao42 ++ (blkL ao39 ++ (blkL ao34 ++ (blkL ao31 ++ (blkL ao19 ++ (M))))))) ao31 cap31 t30) → (Own (rArr .u8 8) 27 w47 (blkL ao45 ++ (blkL ao42 ++ (blkL ao39 ++ (blkL ao34 ++ (blkL ao31 ++ (blkL ao19 ++ (M))))))) ao34 cap34 t33) → (Own (rInt .u8) 5 w47 (blkL ao45 ++ (blkL ao42 ++ (blkL ao39 ++ (blkL ao34 ++ (blkL ao31 ++ (blkL ao19 ++ (M))))))) ao39 cap39 t38) → (Own (rArr .u8 8) 27 w47 (blkL ao45 ++ (blkL ao42 ++ (blkL ao39 ++ (blkL ao34 ++ (blkL ao31 ++ (blkL ao19 ++ (M))))))) ao42 cap42 t41.1) → (Own (rArr .u8 8) 27 w47 (blkL ao45 ++ (blkL ao42 ++ (blkL ao39 ++ (blkL ao34 ++ (blkL ao31 ++ (blkL ao19 ++ (M))))))) ao45 cap45 t44.1) → (GF w47 (blkL ao45 ++ (blkL ao42 ++ (blkL ao39 ++ (blkL ao34 ++ (blkL ao31 ++ (blkL ao19 ++ (M)))))))) → (Chg [] w w47) → (MS (blkL ao45 ++ (blkL ao42 ++ (blkL ao39 ++ (blkL ao34 ++ (blkL ao31 ++ (blkL ao19 ++ (M))))))) w47) → K46 a w47 := by
   intro a w47 ha f1 f2 f19 f31 f34 f39 f42 f45 hG hC hM
   refine hK46 _ _ ?_; try clear hK46 K46
   refine wp_seq_k fun K48 hK48 => ?_
   have okS : Ok [] (blkL ao45 ++ (blkL ao42 ++ (blkL ao39 ++ (blkL ao34 ++ (blkL ao31 ++ (blkL ao19 ++ (M))))))) w47.heap.size := Ok.nil _ _
   have z_f1 := f1
   have z_f2 := f2
   have z_f19 := (Own.toRSl (M' := []) f19 (Ok.nil _ _) (fun _ _ h => nomatch h))
   have z_f31 := (Len.toRSl (T := 5) (M' := []) f31 (Ok.nil _ _) (fun _ _ h => nomatch h))
   have z_f34 := (Own.toRSl (M' := []) f34 (Ok.nil _ _) (fun _ _ h => nomatch h))
   have z_f39 := (Own.toRSl (M' := []) f39 (Ok.nil _ _) (fun _ _ h => nomatch h))
   have z_f42 := (Own.toRSl (M' := []) f42 (Ok.nil _ _) (fun _ _ h => nomatch h))
   have z_f45 := (Own.toRSl (M' := []) f45 (Ok.nil _ _) (fun _ _ h => nomatch h))
   refine drw (fun w' => Chg [] w47 w') (by kernel_rfl) fun w49 hc50 _ => ?_
   have hS : Chg [] w47 w49 := (Chg.refl [] _).trans hc50 (Ok.nil _ _)
   have o1 : Ok [] (blkL ao45 ++ (blkL ao42 ++ (blkL ao39 ++ (blkL ao34 ++ (blkL ao31 ++ (blkL ao19 ++ (M))))))) w47.heap.size := Ok.nil _ _
   have o2 : Ok (blkL ao45 ++ (blkL ao42 ++ (blkL ao39 ++ (blkL ao34 ++ (blkL ao31 ++ (blkL ao19 ++ (M))))))) (blkL ao45 ++ (blkL ao42 ++ (blkL ao39 ++ (blkL ao34 ++ (blkL ao31 ++ (blkL ao19 ++ (M))))))) w47.heap.size := (Ok.refl _ _)
   have hG := hG.chg hc50 o1 o2
   have f1 := f1.chg hc50 o1 o2
   have f2 := f2.chg hc50 o1 o2
   have f19 := f19.chg hc50 o1 o2 (fun _ _ h => nomatch h) (fun _ h => mr (mr (mr (mr (mr (ml h))))))
   have f31 := f31.chg hc50 o1 o2 (fun _ _ h => nomatch h) (fun _ h => mr (mr (mr (mr (ml h)))))
   have f34 := f34.chg hc50 o1 o2 (fun _ _ h => nomatch h) (fun _ h => mr (mr (mr (ml h))))
   have f39 := f39.chg hc50 o1 o2 (fun _ _ h => nomatch h) (fun _ h => mr (mr (ml h)))
   have f42 := f42.chg hc50 o1 o2 (fun _ _ h => nomatch h) (fun _ h => mr (ml h))
   have f45 := f45.chg hc50 o1 o2 (fun _ _ h => nomatch h) (fun _ h => ml h)
   have hM : MS (blkL ao45 ++ (blkL ao42 ++ (blkL ao39 ++ (blkL ao34 ++ (blkL ao31 ++ (blkL ao19 ++ (M))))))) w49 := (hM.chg hc50)
   have hC := hC.trans hc50 (Ok.nil _ _)
   obtain ⟨s51, H51, H⟩ := bind_some H
   have J51 : ∀ (a : Act) (w51 : World), Has a Tryz.f5.ntmps [(0, .slice ao1 a0.length cap1), (1, .slice ao2 a1.length cap2), (7, .bool t6), (8, .slice ao19 (([] : List (List Int)) ++ a0).length cap19), (10, .slice ao31 t30.length cap31), (11, .slice ao34 t33.length cap34), (12, .bool t36), (13, .slice ao39 t38.length cap39), (15, .int .i64 t41.2), (17, .int .i64 t44.2), (18, .bool s47), (19, .bool s51)] → (RSl (rArr .u8 8) 27 w51 (blkL ao39 ++ (blkL ao34 ++ (blkL ao31 ++ (blkL ao19 ++ (M))))) ao1 cap1 a0) → (RSl (rArr .u8 8) 27 w51 (blkL ao39 ++ (blkL ao34 ++ (blkL ao31 ++ (blkL ao19 ++ (M))))) ao2 cap2 a1) → (Own (rArr .u8 8) 27 w51 (blkL ao39 ++ (blkL ao34 ++ (blkL ao31 ++ (blkL ao19 ++ (M))))) ao19 cap19 (([] : List (List Int)) ++ a0)) → (Len w51 (blkL ao39 ++ (blkL ao34 ++ (blkL ao31 ++ (blkL ao19 ++ (M))))) ao31 cap31 t30) → (Own (rArr .u8 8) 27 w51 (blkL ao39 ++ (blkL ao34 ++ (blkL ao31 ++ (blkL ao19 ++ (M))))) ao34 cap34 t33) → (Own (rInt .u8) 5 w51 (blkL ao39 ++ (blkL ao34 ++ (blkL ao31 ++ (blkL ao19 ++ (M))))) ao39 cap39 t38) → (GF w51 (blkL ao39 ++ (blkL ao34 ++ (blkL ao31 ++ (blkL ao19 ++ (M)))))) → (Chg [] w w51) → (MS (blkL ao39 ++ (blkL ao34 ++ (blkL ao31 ++ (blkL ao19 ++ (M))))) w51) → K48 a w51 := by
    intro a w51 ha f1 f2 f19 f31 f34 f39 hG hC hM
    refine hK48 _ _ ?_; try clear hK48 K48
    refine wp_seq_k fun K52 hK52 => ?_
    refine wp_region_lit ?_
    refine seg ha 2 [(0, .slice ao1 a0.length cap1), (1, .slice ao2 a1.length cap2), (7, .bool t6), (8, .slice ao19 (([] : List (List Int)) ++ a0).length cap19), (11, .slice ao34 t33.length cap34), (12, .bool t36), (15, .int .i64 t41.2), (17, .int .i64 t44.2), (18, .bool s47), (19, .bool s51), (87, .slice ao39 t38.length cap39), (88, .slice ao31 t30.length cap31)] (by kernel_rfl) fun a ha => ?_
    refine bsl (vals := ([.slice ao39 t38.length cap39, .slice ao31 t30.length cap31] : List Value)) (T := 36) ha rfl (([.slice ao39 t38.length cap39] : List Value) ++ (([.slice ao31 t30.length cap31] : List Value) ++ ([] : List Value))) (fun w => by kernel_rfl) rfl rfl rfl fun a w53 g54 hN55 ha => ?_
    have hgr56 : ∀ x ∈ (blkL ao39 ++ (blkL ao34 ++ (blkL ao31 ++ (blkL ao19 ++ (M))))), x ≠ g54 := fun x h e => absurd (hM x h) (Nat.not_lt.2 (by rw [e]; exact hN55.ge))
    have o1 : Ok [] (blkL ao39 ++ (blkL ao34 ++ (blkL ao31 ++ (blkL ao19 ++ (M))))) w51.heap.size := Ok.nil _ _
    have o2 : Ok (blkL ao39 ++ (blkL ao34 ++ (blkL ao31 ++ (blkL ao19 ++ (M))))) (blkL ao39 ++ (blkL ao34 ++ (blkL ao31 ++ (blkL ao19 ++ (M))))) w51.heap.size := (Ok.refl _ _)
    have hG := hG.chg hN55.chg o1 o2
    have f1 := f1.chg hN55.chg o1 o2
    have f2 := f2.chg hN55.chg o1 o2
    have f19 := f19.chg hN55.chg o1 o2 (fun _ _ h => nomatch h) (fun _ h => mr (mr (mr (ml h))))
    have f34 := f34.chg hN55.chg o1 o2 (fun _ _ h => nomatch h) (fun _ h => mr (ml h))
    have f39 := f39.chg hN55.chg o1 o2 (fun _ _ h => nomatch h) (fun _ h => ml h)
    have f31 := f31.chg hN55.chg o1 o2 (fun _ _ h => nomatch h) (fun _ h => mr (mr (ml h)))
    have hM : MS (blkL ao39 ++ (blkL ao34 ++ (blkL ao31 ++ (blkL ao19 ++ (M))))) w53 := (hM.chg hN55.chg)
    have hC := hC.trans hN55.chg (Ok.nil _ _)
    have hB56 : Box w53 g54 ([.slice ao39 t38.length cap39, .slice ao31 t30.length cap31] : List Value) := hN55.box
    refine cl ha (by rfl) (by kernel_rfl) (by rfl) (by rfl) (by rfl) (Owned.call w53 _ hM g54 [(ao39, t38.length, cap39), (ao31, t30.length, cap31)] (blkL ao39 ++ blkL ao31) (List.forall_mem_cons.2 ⟨f39.rowOk, (List.forall_mem_cons.2 ⟨f31.rowOk, (fun _ h => nomatch h)⟩)⟩) (List.Pairwise.cons (List.forall_mem_cons.2 ⟨(p_i39_i31), (fun _ h => nomatch h)⟩) (List.Pairwise.cons (fun _ h => nomatch h) List.Pairwise.nil)) (List.forall_mem_cons.2 ⟨(fun h => hgr56 _ (ml h) rfl), (List.forall_mem_cons.2 ⟨(fun h => hgr56 _ (mr (mr (ml h))) rfl), (fun _ h => nomatch h)⟩)⟩) hB56 (Nat.le_of_ble_eq_true rfl) (List.forall_mem_cons.2 ⟨(fun _ h => (List.mem_append_left _ h)), (List.forall_mem_cons.2 ⟨(fun _ h => (List.mem_append_right _ h)), (fun _ h => nomatch h)⟩)⟩)) ?_
    rintro _ w57 ⟨rfl, hc57, _⟩ a ha
    have o1 : Ok (blkL ao39 ++ blkL ao31) (blkL ao39 ++ (blkL ao34 ++ (blkL ao31 ++ (blkL ao19 ++ (M))))) w53.heap.size := (Ok.app (fun _ h => .inl (ml h)) (fun _ h => .inl (mr (mr (ml h)))))
    have o2 : Ok (blkL ao34 ++ (blkL ao19 ++ (M))) (blkL ao39 ++ (blkL ao34 ++ (blkL ao31 ++ (blkL ao19 ++ (M))))) w53.heap.size := (Ok.app (fun _ h => .inl (mr (ml h))) (fun _ h => .inl (mr (mr (mr (h))))))
    have hG := hG.chg hc57 o1 o2
    have f1 := f1.chg hc57 o1 o2
    have f2 := f2.chg hc57 o1 o2
    have f19 := f19.chg hc57 o1 o2 (fun x (hx : x ∈ blkL ao19) (hy : x ∈ blkL ao39 ++ blkL ao31) => (List.mem_append.1 hy).elim (fun hy => (fun x (hx : x ∈ blkL ao19) (hy : x ∈ blkL ao39) => p_i39_i19 x hy hx) x hx hy) (fun hy => (fun x (hx : x ∈ blkL ao19) (hy : x ∈ blkL ao31) => p_i31_i19 x hy hx) x hx hy)) (fun _ h => mr (ml h))
    have f34 := f34.chg hc57 o1 o2 (fun x (hx : x ∈ blkL ao34) (hy : x ∈ blkL ao39 ++ blkL ao31) => (List.mem_append.1 hy).elim (fun hy => (fun x (hx : x ∈ blkL ao34) (hy : x ∈ blkL ao39) => p_i39_i34 x hy hx) x hx hy) (fun hy => p_i34_i31 x hx hy)) (fun _ h => ml h)
    have hM : MS (blkL ao34 ++ (blkL ao19 ++ (M))) w57 := (MS.app (fun x h => hM.chg hc57 x (mr (ml h))) (fun x h => hM.chg hc57 x (mr (mr (mr (h))))))
    have hC := hC.trans hc57 (Ok.app (fun x h => .inr (e_i39 x h)) (fun x h => .inr (e_i31 x h)))
    refine seg ha 1 [(0, .slice ao1 a0.length cap1), (1, .slice ao2 a1.length cap2), (7, .bool t6), (8, .slice ao19 (([] : List (List Int)) ++ a0).length cap19), (11, .slice ao34 t33.length cap34), (12, .bool t36), (15, .int .i64 t41.2), (17, .int .i64 t44.2), (18, .bool s47), (19, .bool s51), (20, .bool true)] (by kernel_rfl) fun a ha => ?_
    refine hK52 _ _ ?_; try clear hK52 K52
    refine wp_seq_k fun K58 hK58 => ?_
    refine wp_seq_k fun K59 hK59 => ?_
    refine wp_region_lit ?_
    refine seg ha 1 [(0, .slice ao1 a0.length cap1), (1, .slice ao2 a1.length cap2), (7, .bool t6), (8, .slice ao19 (([] : List (List Int)) ++ a0).length cap19), (11, .slice ao34 t33.length cap34), (12, .bool t36), (15, .int .i64 t41.2), (17, .int .i64 t44.2), (18, .bool s47), (19, .bool s51), (20, .bool true), (21, .int .i64 (0 : Int))] (by kernel_rfl) fun a ha => ?_
    refine hK59 _ _ ?_; try clear hK59 K59
    refine wp_block ?_
    obtain ⟨s60, H60, H⟩ := bind_some H
    have J60 : ∀ (a : Act) (wx60 : World), Has a Tryz.f5.ntmps [(0, .slice ao1 a0.length cap1), (1, .slice ao2 a1.length cap2), (7, .bool t6), (8, .slice ao19 (([] : List (List Int)) ++ a0).length cap19), (12, .bool t36), (15, .int .i64 t41.2), (17, .int .i64 t44.2), (18, .bool s47), (19, .bool s51), (20, .bool true)] → (RSl (rArr .u8 8) 27 wx60 (blkL ao19 ++ (M)) ao1 cap1 a0) → (RSl (rArr .u8 8) 27 wx60 (blkL ao19 ++ (M)) ao2 cap2 a1) → (Own (rArr .u8 8) 27 wx60 (blkL ao19 ++ (M)) ao19 cap19 (([] : List (List Int)) ++ a0)) → (GF wx60 (blkL ao19 ++ (M))) → (Chg [] w wx60) → (MS (blkL ao19 ++ (M)) wx60) → K58 a wx60 := by
     intro a wx60 ha f1 f2 f19 hG hC hM
     refine hK58 _ _ ?_; try clear hK58 K58
     refine wp_seq_k fun K64 hK64 => ?_
     refine wp_region_lit ?_
     obtain ⟨s65, H65, H⟩ := bind_some H
     have J65 : ∀ (a : Act) (w65 : World), Has a Tryz.f5.ntmps [(6, .bool s65)] → (GF w65 (M)) → (Chg [] w w65) → (MS (M) w65) → K64 a w65 := by
      intro a w65 ha hG hC hM
      refine hK64 _ _ ?_; try clear hK64 K64
      refine wp_ret ?_
      try simp only [Exit.then, Exit.inBlock]
      obtain rfl := Option.some.inj H
      refine rt1 ha rfl rfl ?_
      exact ⟨rfl, hC, hM⟩
     have H := H65
     refine seg ha 2 [(102, .bool t6), (0, .slice ao1 a0.length cap1), (1, .slice ao2 a1.length cap2), (8, .slice ao19 (([] : List (List Int)) ++ a0).length cap19), (12, .bool t36), (15, .int .i64 t41.2), (17, .int .i64 t44.2), (18, .bool s47), (19, .bool s51), (20, .bool true)] (by kernel_rfl) fun a ha => ?_
     rcases Bool.eq_false_or_eq_true (t6) with hb66 | hb66
     ·have ha := ha.lit hb66
      have H := ite_t hb66 H
      refine sgh ha 3 [2, 3, 0] [(105, .bool s47), (0, .slice ao1 a0.length cap1), (1, .slice ao2 a1.length cap2), (8, .slice ao19 (([] : List (List Int)) ++ a0).length cap19), (12, .bool t36), (15, .int .i64 t41.2), (17, .int .i64 t44.2), (19, .bool s51), (20, .bool true)] (by kernel_rfl) fun a ha => ?_
      rcases Bool.eq_false_or_eq_true (s47) with hb67 | hb67
      ·have ha := ha.lit hb67
       have H := ite_t hb67 H
       refine sgh ha 3 [2, 3, 0] [(108, .bool s51), (0, .slice ao1 a0.length cap1), (1, .slice ao2 a1.length cap2), (8, .slice ao19 (([] : List (List Int)) ++ a0).length cap19), (12, .bool t36), (15, .int .i64 t41.2), (17, .int .i64 t44.2), (20, .bool true)] (by kernel_rfl) fun a ha => ?_
       rcases Bool.eq_false_or_eq_true (s51) with hb68 | hb68
       ·have ha := ha.lit hb68
        have H := ite_t hb68 H
        refine sgh ha 5 [2, 3, 0, 2, 2] [(0, .slice ao1 a0.length cap1), (1, .slice ao2 a1.length cap2), (12, .bool t36), (15, .int .i64 t41.2), (17, .int .i64 t44.2), (111, .bool true), (112, .slice ao19 (([] : List (List Int)) ++ a0).length cap19), (113, .slice ao1 a0.length cap1)] (by kernel_rfl) fun a ha => ?_
        have hML : MS (M) wx60 := MS.rest hM (fun _ h => mr (h))
        have oL : Ok (M) (blkL ao19 ++ (M)) wx60.heap.size := (fun _ h => .inl (mr (h)))
        obtain ⟨t69, H69, H⟩ := bind_some H
        refine cl ha (by rfl) (by kernel_rfl) (by rfl) (by rfl) (by rfl) (vineryref04_Same.walk wx60 _ hML (([] : List (List Int)) ++ a0) ao19 cap19 (Own.toRSl (M' := M) f19 oL (fun x hx hm => p_i19_M x hx hm)) a0 ao1 cap1 (RSl.chg f1 (Chg.refl [] _) (Ok.nil _ _) oL) k _ H69) ?_
        rintro _ w69 ⟨rfl, hc69, hMn⟩ a ha
        have o1 : Ok [] (blkL ao19 ++ (M)) wx60.heap.size := Ok.nil _ _
        have o2 : Ok (blkL ao19 ++ (M)) (blkL ao19 ++ (M)) wx60.heap.size := (Ok.refl _ _)
        have hG := hG.chg hc69 o1 o2
        have f1 := f1.chg hc69 o1 o2
        have f2 := f2.chg hc69 o1 o2
        have f19 := f19.chg hc69 o1 o2 (fun _ _ h => nomatch h) (fun _ h => ml h)
        have hM : MS (blkL ao19 ++ (M)) w69 := (hM.chg hc69)
        have hC := hC.trans hc69 (Ok.nil _ _)
        refine sgh ha 2 [3, 0] [(116, .bool t69), (0, .slice ao1 a0.length cap1), (1, .slice ao2 a1.length cap2), (12, .bool t36), (15, .int .i64 t41.2), (17, .int .i64 t44.2)] (by kernel_rfl) fun a ha => ?_
        rcases Bool.eq_false_or_eq_true (t69) with hb70 | hb70
        ·have ha := ha.lit hb70
         have H := ite_t hb70 H
         refine sgh ha 3 [2, 2, 2] [(15, .int .i64 t41.2), (17, .int .i64 t44.2), (116, .bool true), (117, .bool t36), (118, .slice ao1 a0.length cap1), (119, .slice ao2 a1.length cap2)] (by kernel_rfl) fun a ha => ?_
         obtain ⟨t71, H71, H⟩ := bind_some H
         refine cl ha (by rfl) (by kernel_rfl) (by rfl) (by rfl) (by rfl) (vineryref04_Meet.walk w69 _ hM a0 ao1 cap1 f1 a1 ao2 cap2 f2 k _ H71) ?_
         rintro _ w71 ⟨rfl, hc71, hMn⟩ a ha
         have o1 : Ok [] (blkL ao19 ++ (M)) w69.heap.size := Ok.nil _ _
         have o2 : Ok (blkL ao19 ++ (M)) (blkL ao19 ++ (M)) w69.heap.size := (Ok.refl _ _)
         have hG := hG.chg hc71 o1 o2
         have f1 := f1.chg hc71 o1 o2
         have f2 := f2.chg hc71 o1 o2
         have hM : MS (blkL ao19 ++ (M)) w71 := (hM.chg hc71)
         have hC := hC.trans hc71 (Ok.nil _ _)
         refine sgh ha 3 [2, 3, 0] [(123, .bool (t36 == t71)), (15, .int .i64 t41.2), (17, .int .i64 t44.2)] (by kernel_rfl) fun a ha => ?_
         rcases Bool.eq_false_or_eq_true (t36 == t71) with hb72 | hb72
         ·have ha := ha.lit hb72
          have H := ite_t hb72 H
          refine sgh ha 5 [2, 2, 2, 3, 0] [(6, .bool (t41.2 == t44.2))] (by kernel_rfl) fun a ha => ?_
          obtain rfl := Option.some.inj H
          have o1 : Ok [] (blkL ao19 ++ (M)) w71.heap.size := Ok.nil _ _
          have o2 : Ok (M) (blkL ao19 ++ (M)) w71.heap.size := (fun _ h => .inl (mr (h)))
          have hG := hG.chg (Chg.refl [] _) o1 o2
          have hM : MS (M) w71 := (fun x h => hM.chg (Chg.refl [] _) x (mr (h)))
          exact J65 _ _ (ha.sel (by kernel_rfl)) hG hC hM
         ·have ha := ha.lit hb72
          have H := ite_f hb72 H
          refine sgh ha 5 [1, 1, 1, 4, 0] [(6, .bool false)] (by kernel_rfl) fun a ha => ?_
          obtain rfl := Option.some.inj H
          have o1 : Ok [] (blkL ao19 ++ (M)) w71.heap.size := Ok.nil _ _
          have o2 : Ok (M) (blkL ao19 ++ (M)) w71.heap.size := (fun _ h => .inl (mr (h)))
          have hG := hG.chg (Chg.refl [] _) o1 o2
          have hM : MS (M) w71 := (fun x h => hM.chg (Chg.refl [] _) x (mr (h)))
          exact J65 _ _ (ha.sel (by kernel_rfl)) hG hC hM
        ·have ha := ha.lit hb70
         have H := ite_f hb70 H
         refine sgh ha 12 [1, 1, 1, 1, 1, 4, 0, 1, 1, 1, 4, 0] [(6, .bool false)] (by kernel_rfl) fun a ha => ?_
         obtain rfl := Option.some.inj H
         have o1 : Ok [] (blkL ao19 ++ (M)) w69.heap.size := Ok.nil _ _
         have o2 : Ok (M) (blkL ao19 ++ (M)) w69.heap.size := (fun _ h => .inl (mr (h)))
         have hG := hG.chg (Chg.refl [] _) o1 o2
         have hM : MS (M) w69 := (fun x h => hM.chg (Chg.refl [] _) x (mr (h)))
         exact J65 _ _ (ha.sel (by kernel_rfl)) hG hC hM
       ·have ha := ha.lit hb68
        have H := ite_f hb68 H
        refine sgh ha 20 [1, 4, 0, 1, 1, 1, 4, 0, 1, 1, 1, 1, 1, 4, 0, 1, 1, 1, 4, 0] [(6, .bool false)] (by kernel_rfl) fun a ha => ?_
        obtain rfl := Option.some.inj H
        have o1 : Ok [] (blkL ao19 ++ (M)) wx60.heap.size := Ok.nil _ _
        have o2 : Ok (M) (blkL ao19 ++ (M)) wx60.heap.size := (fun _ h => .inl (mr (h)))
        have hG := hG.chg (Chg.refl [] _) o1 o2
        have hM : MS (M) wx60 := (fun x h => hM.chg (Chg.refl [] _) x (mr (h)))
        exact J65 _ _ (ha.sel (by kernel_rfl)) hG hC hM
      ·have ha := ha.lit hb67
       have H := ite_f hb67 H
       refine sgh ha 23 [1, 4, 0, 1, 4, 0, 1, 1, 1, 4, 0, 1, 1, 1, 1, 1, 4, 0, 1, 1, 1, 4, 0] [(6, .bool false)] (by kernel_rfl) fun a ha => ?_
       obtain rfl := Option.some.inj H
       have o1 : Ok [] (blkL ao19 ++ (M)) wx60.heap.size := Ok.nil _ _
       have o2 : Ok (M) (blkL ao19 ++ (M)) wx60.heap.size := (fun _ h => .inl (mr (h)))
       have hG := hG.chg (Chg.refl [] _) o1 o2
       have hM : MS (M) wx60 := (fun x h => hM.chg (Chg.refl [] _) x (mr (h)))
       exact J65 _ _ (ha.sel (by kernel_rfl)) hG hC hM
     ·have ha := ha.lit hb66
      have H := ite_f hb66 H
      refine sgh ha 26 [1, 4, 0, 1, 4, 0, 1, 4, 0, 1, 1, 1, 4, 0, 1, 1, 1, 1, 1, 4, 0, 1, 1, 1, 4, 0] [(6, .bool false)] (by kernel_rfl) fun a ha => ?_
      obtain rfl := Option.some.inj H
      have o1 : Ok [] (blkL ao19 ++ (M)) wx60.heap.size := Ok.nil _ _
      have o2 : Ok (M) (blkL ao19 ++ (M)) wx60.heap.size := (fun _ h => .inl (mr (h)))
      have hG := hG.chg (Chg.refl [] _) o1 o2
      have hM : MS (M) wx60 := (fun x h => hM.chg (Chg.refl [] _) x (mr (h)))
      exact J65 _ _ (ha.sel (by kernel_rfl)) hG hC hM
    have Hc60 := H
    have H := H60
    refine wp_loop_ghost (fun kk a w60 => ∃ (x62 : List (List Int)) (x63 : Int) (ao61 : Option Addr) (cap61 : Nat), vinerylaw04_CommunityRows.l0 kk x62 x63 = some s60 ∧ Has a Tryz.f5.ntmps [(0, .slice ao1 a0.length cap1), (1, .slice ao2 a1.length cap2), (7, .bool t6), (8, .slice ao19 (([] : List (List Int)) ++ a0).length cap19), (11, .slice ao61 x62.length cap61), (12, .bool t36), (15, .int .i64 t41.2), (17, .int .i64 t44.2), (18, .bool s47), (19, .bool s51), (20, .bool true), (21, .int .i64 x63)] ∧ (RSl (rArr .u8 8) 27 w60 (blkL ao61 ++ (blkL ao19 ++ (M))) ao1 cap1 a0) ∧ (RSl (rArr .u8 8) 27 w60 (blkL ao61 ++ (blkL ao19 ++ (M))) ao2 cap2 a1) ∧ (Own (rArr .u8 8) 27 w60 (blkL ao61 ++ (blkL ao19 ++ (M))) ao19 cap19 (([] : List (List Int)) ++ a0)) ∧ (Own (rArr .u8 8) 27 w60 (blkL ao61 ++ (blkL ao19 ++ (M))) ao61 cap61 x62) ∧ (∀ x ∈ blkL ao61, w.heap.size ≤ x) ∧ (∀ x ∈ blkL ao61, x ∉ blkL ao19) ∧ (∀ x ∈ blkL ao61, x ∉ M) ∧ (GF w60 (blkL ao61 ++ (blkL ao19 ++ (M)))) ∧ (Chg [] w w60) ∧ (MS (blkL ao61 ++ (blkL ao19 ++ (M))) w60)) k ?_ ?_
    ·skip
     exact ⟨t33, (0 : Int), ao34, cap34, H, (ha.sel (by kernel_rfl)), f1, f2, f19, f34, e_i34, p_i34_i19, p_i34_M, hG, hC, hM⟩
    ·rintro kk a w60 ⟨x62, x63, ao61, cap61, H, ha, f1, f2, f19, f61, e_i61, p_i61_i19, p_i61_M, hG, hC, hM⟩
     obtain _ | kk := kk
     ·exact nomatch (show none = some _ from H)
     rw [vinerylaw04_CommunityRows.l0] at H
     refine wp_seq_k fun K73 hK73 => ?_
     refine wp_seq_k fun K74 hK74 => ?_
     refine wp_region_lit ?_
     refine seg ha 4 [(0, .slice ao1 a0.length cap1), (1, .slice ao2 a1.length cap2), (7, .bool t6), (8, .slice ao19 (([] : List (List Int)) ++ a0).length cap19), (11, .slice ao61 x62.length cap61), (12, .bool t36), (15, .int .i64 t41.2), (17, .int .i64 t44.2), (18, .bool s47), (19, .bool s51), (20, .bool true), (21, .int .i64 x63), (94, .bool (decide (x63 < (x62.length : Int))))] (by kernel_rfl) fun a ha => ?_
     refine hK74 _ _ ?_; try clear hK74 K74
     refine cnd ha rfl (fun hc75 => ?_) (fun hc75 => ?_)
     ·have H := ite_t hc75 H
      refine wp_skip ?_
      refine hK73 _ _ ?_; try clear hK73 K73
      refine wp_seq_k fun K76 hK76 => ?_
      refine wp_block ?_
      refine wp_region_lit ?_
      refine seg ha 2 [(0, .slice ao1 a0.length cap1), (1, .slice ao2 a1.length cap2), (7, .bool t6), (8, .slice ao19 (([] : List (List Int)) ++ a0).length cap19), (11, .slice ao61 x62.length cap61), (12, .bool t36), (15, .int .i64 t41.2), (17, .int .i64 t44.2), (18, .bool s47), (19, .bool s51), (20, .bool true), (21, .int .i64 x63), (97, .slice ao61 x62.length cap61), (98, .int .i64 x63)] (by kernel_rfl) fun a ha => ?_
      refine opk (v := .agg (cA .u8 8 ([(255 : Int), (0 : Int), (0 : Int), (0 : Int), (0 : Int), (0 : Int), (0 : Int), (0 : Int)] : List Int)).toArray) ha rfl rfl rfl rfl rfl (fun w => by kernel_rfl) fun a ha => ?_
      obtain ⟨⟨hx77, hx77'⟩, H⟩ := ite_some H
      have hi77 : (Int.toNat x63) < x62.length := by omega
      obtain ⟨ge77, ee77⟩ := Own.addr f61 hi77
      refine hop (v := .pointer (some ⟨ge77, 0 + (Int.toNat x63) * (rArr .u8 8).sz, none⟩)) (w' := w60) ha rfl rfl rfl (ix_run (r := (rArr .u8 8)) (T := 27) (k := .i64) (i := x63) ha (by kernel_rfl) (by kernel_rfl) (by rfl) (by rfl) ee77 hx77 hx77') fun a ha => ?_
      have fo80 := f61; rw [ee77] at fo80
      refine stS (r := (rArr .u8 8)) (i := (Int.toNat x63)) (z := ([(255 : Int), (0 : Int), (0 : Int), (0 : Int), (0 : Int), (0 : Int), (0 : Int), (0 : Int)] : List Int)) (l := (cA .u8 8 ([(255 : Int), (0 : Int), (0 : Int), (0 : Int), (0 : Int), (0 : Int), (0 : Int), (0 : Int)] : List Int))) ha rfl (by rw [Nat.zero_add]) rfl (by kernel_rfl) rfl rfl fo80 hi77 rfl (fun _ _ => rfl) fun a w78 ha hO80 hc79 => ?_
      rw [← ee77] at hO80; have hc79 : Chg (blkL ao61) w60 w78 := by rw [ee77]; exact hc79
      have o1 : Ok (blkL ao61) (blkL ao61 ++ (blkL ao19 ++ (M))) w60.heap.size := (fun _ h => .inl (ml h))
      have o2 : Ok (blkL ao61 ++ (blkL ao19 ++ (M))) (blkL ao61 ++ (blkL ao19 ++ (M))) w60.heap.size := (Ok.refl _ _)
      have hG := hG.chg hc79 o1 o2
      have f1 := f1.chg hc79 o1 o2
      have f2 := f2.chg hc79 o1 o2
      have f19 := f19.chg hc79 o1 o2 (fun x (hx : x ∈ blkL ao19) (hy : x ∈ blkL ao61) => p_i61_i19 x hy hx) (fun _ h => mr (ml h))
      have hM : MS (blkL ao61 ++ (blkL ao19 ++ (M))) w78 := (hM.chg hc79)
      have hC := hC.trans hc79 (fun x h => .inr (e_i61 x h))
      have f80 := hO80
      have hl80 : (x62.set (Int.toNat x63) ([(255 : Int), (0 : Int), (0 : Int), (0 : Int), (0 : Int), (0 : Int), (0 : Int), (0 : Int)] : List Int)).length = x62.length := List.length_set
      have ha : Has a Tryz.f5.ntmps [(0, .slice ao1 a0.length cap1), (1, .slice ao2 a1.length cap2), (7, .bool t6), (8, .slice ao19 (([] : List (List Int)) ++ a0).length cap19), (11, .slice ao61 (x62.set (Int.toNat x63) ([(255 : Int), (0 : Int), (0 : Int), (0 : Int), (0 : Int), (0 : Int), (0 : Int), (0 : Int)] : List Int)).length cap61), (12, .bool t36), (15, .int .i64 t41.2), (17, .int .i64 t44.2), (18, .bool s47), (19, .bool s51), (20, .bool true), (21, .int .i64 x63), (99, .agg (cA .u8 8 ([(255 : Int), (0 : Int), (0 : Int), (0 : Int), (0 : Int), (0 : Int), (0 : Int), (0 : Int)] : List Int)).toArray)] := by rw [hl80]; exact ha.sel (by kernel_rfl)
      refine hK76 _ _ ?_; try clear hK76 K76
      refine wp_region_lit ?_
      refine seg ha 3 [(0, .slice ao1 a0.length cap1), (1, .slice ao2 a1.length cap2), (7, .bool t6), (8, .slice ao19 (([] : List (List Int)) ++ a0).length cap19), (11, .slice ao61 (x62.set (Int.toNat x63) ([(255 : Int), (0 : Int), (0 : Int), (0 : Int), (0 : Int), (0 : Int), (0 : Int), (0 : Int)] : List Int)).length cap61), (12, .bool t36), (15, .int .i64 t41.2), (17, .int .i64 t44.2), (18, .bool s47), (19, .bool s51), (20, .bool true), (21, .int .i64 (IntKind.i64.wrap (x63 + (1 : Int))))] (by kernel_rfl) fun a ha => ?_
      exact ⟨kk, Nat.lt_succ_self _, ⟨(x62.set (Int.toNat x63) ([(255 : Int), (0 : Int), (0 : Int), (0 : Int), (0 : Int), (0 : Int), (0 : Int), (0 : Int)] : List Int)), IntKind.i64.wrap (x63 + (1 : Int)), ao61, cap61, H, (ha.sel (by kernel_rfl)), f1, f2, f19, f80, e_i61, p_i61_i19, p_i61_M, hG, hC, hM⟩⟩
     ·have H := ite_f hc75 H
      refine wp_exit ?_
      simp only [Exit.then, Exit.inBlock, ↓reduceIte, Nat.reduceEqDiff]
      obtain rfl := Option.some.inj H
      have o1 : Ok [] (blkL ao61 ++ (blkL ao19 ++ (M))) w60.heap.size := Ok.nil _ _
      have o2 : Ok (blkL ao19 ++ (M)) (blkL ao61 ++ (blkL ao19 ++ (M))) w60.heap.size := (fun _ h => .inl (mr (h)))
      have hG := hG.chg (Chg.refl [] _) o1 o2
      have f1 := f1.chg (Chg.refl [] _) o1 o2
      have f2 := f2.chg (Chg.refl [] _) o1 o2
      have f19 := f19.chg (Chg.refl [] _) o1 o2 (fun _ _ h => nomatch h) (fun _ h => ml h)
      have hM : MS (blkL ao19 ++ (M)) w60 := (fun x h => hM.chg (Chg.refl [] _) x (mr (h)))
      exact J60 _ _ (ha.sel (by kernel_rfl)) f1 f2 f19 hG hC hM
   have H := H51
   refine tkpz 0 0 (.slice ao34 t33.length cap34) ha (s := hS) (q := fun a ha => ?_)
   refine tkpz 1 0 (.slice ao1 a0.length cap1) ha (s := hS) (q := fun a ha => ?_)
   refine ac 2 (by kernel_rfl) (by rfl) fun K81 hK81 => ?_
   obtain ⟨t82, H82, H⟩ := bind_some H
   refine cl ha (by rfl) (by kernel_rfl) (by rfl) (by rfl) (by rfl) (vineryref04_Set.walk w49 _ hM a0 ao1 cap1 f1 k _ H82) ?_
   rintro _ w82 ⟨ao83, cap83, rfl, f83, ne_iD000083, hc82, hMn⟩ a ha
   have o1 : Ok [] (blkL ao45 ++ (blkL ao42 ++ (blkL ao39 ++ (blkL ao34 ++ (blkL ao31 ++ (blkL ao19 ++ (M))))))) w49.heap.size := Ok.nil _ _
   have o2 : Ok (blkL ao83 ++ (blkL ao45 ++ (blkL ao42 ++ (blkL ao39 ++ (blkL ao34 ++ (blkL ao31 ++ (blkL ao19 ++ (M)))))))) (blkL ao45 ++ (blkL ao42 ++ (blkL ao39 ++ (blkL ao34 ++ (blkL ao31 ++ (blkL ao19 ++ (M))))))) w49.heap.size := (Ok.app (fun x h => .inr (ne_iD000083 x h)) (Ok.refl _ _))
   have hG := hG.chg hc82 o1 o2
   have f1 := f1.chg hc82 o1 o2
   have f2 := f2.chg hc82 o1 o2
   have f19 := f19.chg hc82 o1 o2 (fun _ _ h => nomatch h) (fun _ h => mr (mr (mr (mr (mr (mr (ml h)))))))
   have f31 := f31.chg hc82 o1 o2 (fun _ _ h => nomatch h) (fun _ h => mr (mr (mr (mr (mr (ml h))))))
   have f34 := f34.chg hc82 o1 o2 (fun _ _ h => nomatch h) (fun _ h => mr (mr (mr (mr (ml h)))))
   have f39 := f39.chg hc82 o1 o2 (fun _ _ h => nomatch h) (fun _ h => mr (mr (mr (ml h))))
   have f42 := f42.chg hc82 o1 o2 (fun _ _ h => nomatch h) (fun _ h => mr (mr (ml h)))
   have f45 := f45.chg hc82 o1 o2 (fun _ _ h => nomatch h) (fun _ h => mr (ml h))
   have p_iD000083_i45 : ∀ x ∈ blkL ao83, x ∉ (blkL ao45) := fun x hx hy => absurd (hM x (ml hy)) (Nat.not_lt.2 (ne_iD000083 x hx))
   have p_iD000083_i42 : ∀ x ∈ blkL ao83, x ∉ (blkL ao42) := fun x hx hy => absurd (hM x (mr (ml hy))) (Nat.not_lt.2 (ne_iD000083 x hx))
   have p_iD000083_i39 : ∀ x ∈ blkL ao83, x ∉ (blkL ao39) := fun x hx hy => absurd (hM x (mr (mr (ml hy)))) (Nat.not_lt.2 (ne_iD000083 x hx))
   have p_iD000083_i34 : ∀ x ∈ blkL ao83, x ∉ (blkL ao34) := fun x hx hy => absurd (hM x (mr (mr (mr (ml hy))))) (Nat.not_lt.2 (ne_iD000083 x hx))
   have p_iD000083_i31 : ∀ x ∈ blkL ao83, x ∉ (blkL ao31) := fun x hx hy => absurd (hM x (mr (mr (mr (mr (ml hy)))))) (Nat.not_lt.2 (ne_iD000083 x hx))
   have p_iD000083_i19 : ∀ x ∈ blkL ao83, x ∉ (blkL ao19) := fun x hx hy => absurd (hM x (mr (mr (mr (mr (mr (ml hy))))))) (Nat.not_lt.2 (ne_iD000083 x hx))
   have p_iD000083_M : ∀ x ∈ blkL ao83, x ∉ M := fun x hx hy => absurd (hM x (mr (mr (mr (mr (mr (mr (hy)))))))) (Nat.not_lt.2 (ne_iD000083 x hx))
   have e_iD000083 : ∀ x ∈ blkL ao83, w.heap.size ≤ x := fun x hx => Nat.le_trans hC.size (ne_iD000083 x hx)
   have hM : MS (blkL ao83 ++ (blkL ao45 ++ (blkL ao42 ++ (blkL ao39 ++ (blkL ao34 ++ (blkL ao31 ++ (blkL ao19 ++ (M)))))))) w82 := (MS.app (fun x h => hMn x (ml h)) (hM.chg hc82))
   have hC := hC.trans hc82 (Ok.nil _ _)
   have d_iD000083 : Ok (blkL ao83) [] w47.heap.size := fun x hx => .inr (Nat.le_trans hS.size (ne_iD000083 x hx))
   have hS := hS.trans hc82 (Ok.nil _ _)
   refine ae hK81 hS ?_; clear hK81 K81
   refine ac 3 (by kernel_rfl) (by rfl) fun K84 hK84 => ?_
   have hML : MS (blkL ao45 ++ (blkL ao42 ++ (blkL ao39 ++ (blkL ao31 ++ (blkL ao19 ++ (M)))))) w82 := MS.rest hM (fun _ h => (List.mem_append.1 h).elim (fun h => mr (ml h)) (fun h => (List.mem_append.1 h).elim (fun h => mr (mr (ml h))) (fun h => (List.mem_append.1 h).elim (fun h => mr (mr (mr (ml h)))) (fun h => (List.mem_append.1 h).elim (fun h => mr (mr (mr (mr (mr (ml h)))))) (fun h => (List.mem_append.1 h).elim (fun h => mr (mr (mr (mr (mr (mr (ml h))))))) (fun h => mr (mr (mr (mr (mr (mr (mr (h)))))))))))))
   have oL : Ok (blkL ao45 ++ (blkL ao42 ++ (blkL ao39 ++ (blkL ao31 ++ (blkL ao19 ++ (M)))))) (blkL ao83 ++ (blkL ao45 ++ (blkL ao42 ++ (blkL ao39 ++ (blkL ao34 ++ (blkL ao31 ++ (blkL ao19 ++ (M)))))))) w82.heap.size := (Ok.app (fun _ h => .inl (mr (ml h))) (Ok.app (fun _ h => .inl (mr (mr (ml h)))) (Ok.app (fun _ h => .inl (mr (mr (mr (ml h))))) (fun _ h => .inl (mr (mr (mr (mr (mr (h))))))))))
   obtain ⟨t85, H85, H⟩ := bind_some H
   refine cl ha (by rfl) (by kernel_rfl) (by rfl) (by rfl) (by rfl) (vineryref04_Same.walk w82 _ hML t33 ao34 cap34 (Own.toRSl (M' := blkL ao45 ++ (blkL ao42 ++ (blkL ao39 ++ (blkL ao31 ++ (blkL ao19 ++ (M)))))) f34 oL (fun x hx hm => (List.mem_append.1 hm).elim (fun h => (fun x hx hy => p_i45_i34 x hy hx) x hx h) (fun h => (List.mem_append.1 h).elim (fun h => (fun x hx hy => p_i42_i34 x hy hx) x hx h) (fun h => (List.mem_append.1 h).elim (fun h => (fun x hx hy => p_i39_i34 x hy hx) x hx h) (fun h => (List.mem_append.1 h).elim (fun h => p_i34_i31 x hx h) (fun h => (List.mem_append.1 h).elim (fun h => p_i34_i19 x hx h) (fun h => p_i34_M x hx h))))))) t82 ao83 cap83 (Own.toRSl (M' := blkL ao45 ++ (blkL ao42 ++ (blkL ao39 ++ (blkL ao31 ++ (blkL ao19 ++ (M)))))) f83 oL (fun x hx hm => (List.mem_append.1 hm).elim (fun h => p_iD000083_i45 x hx h) (fun h => (List.mem_append.1 h).elim (fun h => p_iD000083_i42 x hx h) (fun h => (List.mem_append.1 h).elim (fun h => p_iD000083_i39 x hx h) (fun h => (List.mem_append.1 h).elim (fun h => p_iD000083_i31 x hx h) (fun h => (List.mem_append.1 h).elim (fun h => p_iD000083_i19 x hx h) (fun h => p_iD000083_M x hx h))))))) k _ H85) ?_
   rintro _ w85 ⟨rfl, hc85, hMn⟩ a ha
   have o1 : Ok [] (blkL ao83 ++ (blkL ao45 ++ (blkL ao42 ++ (blkL ao39 ++ (blkL ao34 ++ (blkL ao31 ++ (blkL ao19 ++ (M)))))))) w82.heap.size := Ok.nil _ _
   have o2 : Ok (blkL ao83 ++ (blkL ao45 ++ (blkL ao42 ++ (blkL ao39 ++ (blkL ao34 ++ (blkL ao31 ++ (blkL ao19 ++ (M)))))))) (blkL ao83 ++ (blkL ao45 ++ (blkL ao42 ++ (blkL ao39 ++ (blkL ao34 ++ (blkL ao31 ++ (blkL ao19 ++ (M)))))))) w82.heap.size := (Ok.refl _ _)
   have hG := hG.chg hc85 o1 o2
   have f1 := f1.chg hc85 o1 o2
   have f2 := f2.chg hc85 o1 o2
   have f19 := f19.chg hc85 o1 o2 (fun _ _ h => nomatch h) (fun _ h => mr (mr (mr (mr (mr (mr (ml h)))))))
   have f31 := f31.chg hc85 o1 o2 (fun _ _ h => nomatch h) (fun _ h => mr (mr (mr (mr (mr (ml h))))))
   have f34 := f34.chg hc85 o1 o2 (fun _ _ h => nomatch h) (fun _ h => mr (mr (mr (mr (ml h)))))
   have f39 := f39.chg hc85 o1 o2 (fun _ _ h => nomatch h) (fun _ h => mr (mr (mr (ml h))))
   have f42 := f42.chg hc85 o1 o2 (fun _ _ h => nomatch h) (fun _ h => mr (mr (ml h)))
   have f45 := f45.chg hc85 o1 o2 (fun _ _ h => nomatch h) (fun _ h => mr (ml h))
   have f83 := f83.chg hc85 o1 o2 (fun _ _ h => nomatch h) (fun _ h => ml h)
   have hM : MS (blkL ao83 ++ (blkL ao45 ++ (blkL ao42 ++ (blkL ao39 ++ (blkL ao34 ++ (blkL ao31 ++ (blkL ao19 ++ (M)))))))) w85 := (hM.chg hc85)
   have hC := hC.trans hc85 (Ok.nil _ _)
   have hS := hS.trans hc85 (Ok.nil _ _)
   refine ae hK84 hS ?_; clear hK84 K84
   refine tkpz 4 0 (.bool t85) ha (s := hS) (q := fun a ha => ?_)
   have ha := ha.sel (env' := [(74, .bool t85), (0, .slice ao1 a0.length cap1), (1, .slice ao2 a1.length cap2), (7, .bool t6), (8, .slice ao19 (([] : List (List Int)) ++ a0).length cap19), (10, .slice ao31 t30.length cap31), (11, .slice ao34 t33.length cap34), (12, .bool t36), (13, .slice ao39 t38.length cap39), (14, .slice ao42 t41.1.length cap42), (15, .int .i64 t41.2), (16, .slice ao45 t44.1.length cap45), (17, .int .i64 t44.2), (18, .bool s47)]) (by kernel_rfl)
   rcases Bool.eq_false_or_eq_true (t85) with hb86 | hb86
   ·have ha := ha.lit hb86
    have H := ite_t hb86 H
    refine tkpz 5 0 (.slice ao39 t38.length cap39) ha (s := hS) (q := fun a ha => ?_)
    refine tkz 6 ha (v := .string (bstr (b2s t38))) (y := fun w' hs => cvs_run ha rfl (by kernel_rfl) (by kernel_rfl) (by kernel_rfl) (RSl.chg z_f39 hs (Ok.nil _ _) (Ok.refl _ _))) (s := hS) (q := fun a ha => ?_)
    refine tkpz 7 0 (.slice ao1 a0.length cap1) ha (s := hS) (q := fun a ha => ?_)
    refine ac 8 (by kernel_rfl) (by rfl) fun K87 hK87 => ?_
    obtain ⟨t88, H88, H⟩ := bind_some H
    refine cl ha (by rfl) (by kernel_rfl) (by rfl) (by rfl) (by rfl) (vineryref04_Bytes.walk w85 _ hM a0 ao1 cap1 f1 k _ H88) ?_
    rintro _ w88 ⟨ao89, cap89, rfl, f89, ne_iD000089, hc88, hMn⟩ a ha
    have o1 : Ok [] (blkL ao83 ++ (blkL ao45 ++ (blkL ao42 ++ (blkL ao39 ++ (blkL ao34 ++ (blkL ao31 ++ (blkL ao19 ++ (M)))))))) w85.heap.size := Ok.nil _ _
    have o2 : Ok (blkL ao89 ++ (blkL ao83 ++ (blkL ao45 ++ (blkL ao42 ++ (blkL ao39 ++ (blkL ao34 ++ (blkL ao31 ++ (blkL ao19 ++ (M))))))))) (blkL ao83 ++ (blkL ao45 ++ (blkL ao42 ++ (blkL ao39 ++ (blkL ao34 ++ (blkL ao31 ++ (blkL ao19 ++ (M)))))))) w85.heap.size := (Ok.app (fun x h => .inr (ne_iD000089 x h)) (Ok.refl _ _))
    have hG := hG.chg hc88 o1 o2
    have f1 := f1.chg hc88 o1 o2
    have f2 := f2.chg hc88 o1 o2
    have f19 := f19.chg hc88 o1 o2 (fun _ _ h => nomatch h) (fun _ h => mr (mr (mr (mr (mr (mr (mr (ml h))))))))
    have f31 := f31.chg hc88 o1 o2 (fun _ _ h => nomatch h) (fun _ h => mr (mr (mr (mr (mr (mr (ml h)))))))
    have f34 := f34.chg hc88 o1 o2 (fun _ _ h => nomatch h) (fun _ h => mr (mr (mr (mr (mr (ml h))))))
    have f39 := f39.chg hc88 o1 o2 (fun _ _ h => nomatch h) (fun _ h => mr (mr (mr (mr (ml h)))))
    have f42 := f42.chg hc88 o1 o2 (fun _ _ h => nomatch h) (fun _ h => mr (mr (mr (ml h))))
    have f45 := f45.chg hc88 o1 o2 (fun _ _ h => nomatch h) (fun _ h => mr (mr (ml h)))
    have p_iD000089_iD000083 : ∀ x ∈ blkL ao89, x ∉ (blkL ao83) := fun x hx hy => absurd (hM x (ml hy)) (Nat.not_lt.2 (ne_iD000089 x hx))
    have p_iD000089_i45 : ∀ x ∈ blkL ao89, x ∉ (blkL ao45) := fun x hx hy => absurd (hM x (mr (ml hy))) (Nat.not_lt.2 (ne_iD000089 x hx))
    have p_iD000089_i42 : ∀ x ∈ blkL ao89, x ∉ (blkL ao42) := fun x hx hy => absurd (hM x (mr (mr (ml hy)))) (Nat.not_lt.2 (ne_iD000089 x hx))
    have p_iD000089_i39 : ∀ x ∈ blkL ao89, x ∉ (blkL ao39) := fun x hx hy => absurd (hM x (mr (mr (mr (ml hy))))) (Nat.not_lt.2 (ne_iD000089 x hx))
    have p_iD000089_i34 : ∀ x ∈ blkL ao89, x ∉ (blkL ao34) := fun x hx hy => absurd (hM x (mr (mr (mr (mr (ml hy)))))) (Nat.not_lt.2 (ne_iD000089 x hx))
    have p_iD000089_i31 : ∀ x ∈ blkL ao89, x ∉ (blkL ao31) := fun x hx hy => absurd (hM x (mr (mr (mr (mr (mr (ml hy))))))) (Nat.not_lt.2 (ne_iD000089 x hx))
    have p_iD000089_i19 : ∀ x ∈ blkL ao89, x ∉ (blkL ao19) := fun x hx hy => absurd (hM x (mr (mr (mr (mr (mr (mr (ml hy)))))))) (Nat.not_lt.2 (ne_iD000089 x hx))
    have p_iD000089_M : ∀ x ∈ blkL ao89, x ∉ M := fun x hx hy => absurd (hM x (mr (mr (mr (mr (mr (mr (mr (hy))))))))) (Nat.not_lt.2 (ne_iD000089 x hx))
    have e_iD000089 : ∀ x ∈ blkL ao89, w.heap.size ≤ x := fun x hx => Nat.le_trans hC.size (ne_iD000089 x hx)
    have hM : MS (blkL ao89 ++ (blkL ao83 ++ (blkL ao45 ++ (blkL ao42 ++ (blkL ao39 ++ (blkL ao34 ++ (blkL ao31 ++ (blkL ao19 ++ (M))))))))) w88 := (MS.app (fun x h => hMn x (ml h)) (hM.chg hc88))
    have hC := hC.trans hc88 (Ok.nil _ _)
    have d_iD000089 : Ok (blkL ao89) [] w47.heap.size := fun x hx => .inr (Nat.le_trans hS.size (ne_iD000089 x hx))
    have hS := hS.trans hc88 (Ok.nil _ _)
    refine ae hK87 hS ?_; clear hK87 K87
    refine ac 9 (by kernel_rfl) (by rfl) fun K90 hK90 => ?_
    refine cvs ha rfl (by kernel_rfl) (by kernel_rfl) (by kernel_rfl) rfl rfl rfl (Own.toRSl (M' := []) f89 (Ok.nil _ _) (fun _ _ h => nomatch h)) fun a ha => ?_
    refine ae hK90 hS ?_; clear hK90 K90
    refine tkpz 10 0 (.bool ((bstr (b2s t38)).toList == (bstr (b2s t88)).toList)) ha (s := hS) (q := fun a ha => ?_)
    refine tkpz 11 3 (.bool ((bstr (b2s t38)).toList == (bstr (b2s t88)).toList)) ha (s := hS) (q := fun a ha => ?_)
    refine tkpz 12 0 (.bool ((bstr (b2s t38)).toList == (bstr (b2s t88)).toList)) ha (s := hS) (q := fun a ha => ?_)
    have ha := ha.sel (env' := [(82, .bool ((bstr (b2s t38)).toList == (bstr (b2s t88)).toList)), (0, .slice ao1 a0.length cap1), (1, .slice ao2 a1.length cap2), (7, .bool t6), (8, .slice ao19 (([] : List (List Int)) ++ a0).length cap19), (10, .slice ao31 t30.length cap31), (11, .slice ao34 t33.length cap34), (12, .bool t36), (13, .slice ao39 t38.length cap39), (14, .slice ao42 t41.1.length cap42), (15, .int .i64 t41.2), (16, .slice ao45 t44.1.length cap45), (17, .int .i64 t44.2), (18, .bool s47)]) (by kernel_rfl)
    rcases Bool.eq_false_or_eq_true ((bstr (b2s t38)).toList == (bstr (b2s t88)).toList) with hb91 | hb91
    ·have ha := ha.lit hb91
     have H := ite_t hb91 H
     refine tkpz 13 0 (.slice ao42 t41.1.length cap42) ha (s := hS) (q := fun a ha => ?_)
     refine tkpz 14 0 (.slice ao45 t44.1.length cap45) ha (s := hS) (q := fun a ha => ?_)
     refine ac 15 (by kernel_rfl) (by rfl) fun K92 hK92 => ?_
     have hML : MS (blkL ao89 ++ (blkL ao83 ++ (blkL ao39 ++ (blkL ao34 ++ (blkL ao31 ++ (blkL ao19 ++ (M))))))) w88 := MS.rest hM (fun _ h => (List.mem_append.1 h).elim (fun h => ml h) (fun h => (List.mem_append.1 h).elim (fun h => mr (ml h)) (fun h => (List.mem_append.1 h).elim (fun h => mr (mr (mr (mr (ml h))))) (fun h => (List.mem_append.1 h).elim (fun h => mr (mr (mr (mr (mr (ml h)))))) (fun h => (List.mem_append.1 h).elim (fun h => mr (mr (mr (mr (mr (mr (ml h))))))) (fun h => (List.mem_append.1 h).elim (fun h => mr (mr (mr (mr (mr (mr (mr (ml h)))))))) (fun h => mr (mr (mr (mr (mr (mr (mr (mr (h)))))))))))))))
     have oL : Ok (blkL ao89 ++ (blkL ao83 ++ (blkL ao39 ++ (blkL ao34 ++ (blkL ao31 ++ (blkL ao19 ++ (M))))))) (blkL ao89 ++ (blkL ao83 ++ (blkL ao45 ++ (blkL ao42 ++ (blkL ao39 ++ (blkL ao34 ++ (blkL ao31 ++ (blkL ao19 ++ (M))))))))) w88.heap.size := (Ok.app (fun _ h => .inl (ml h)) (Ok.app (fun _ h => .inl (mr (ml h))) (fun _ h => .inl (mr (mr (mr (mr (h))))))))
     obtain ⟨t93, H93, H⟩ := bind_some H
     refine cl ha (by rfl) (by kernel_rfl) (by rfl) (by rfl) (by rfl) (vineryref04_Same.walk w88 _ hML t41.1 ao42 cap42 (Own.toRSl (M' := blkL ao89 ++ (blkL ao83 ++ (blkL ao39 ++ (blkL ao34 ++ (blkL ao31 ++ (blkL ao19 ++ (M))))))) f42 oL (fun x hx hm => (List.mem_append.1 hm).elim (fun h => (fun x hx hy => p_iD000089_i42 x hy hx) x hx h) (fun h => (List.mem_append.1 h).elim (fun h => (fun x hx hy => p_iD000083_i42 x hy hx) x hx h) (fun h => (List.mem_append.1 h).elim (fun h => p_i42_i39 x hx h) (fun h => (List.mem_append.1 h).elim (fun h => p_i42_i34 x hx h) (fun h => (List.mem_append.1 h).elim (fun h => p_i42_i31 x hx h) (fun h => (List.mem_append.1 h).elim (fun h => p_i42_i19 x hx h) (fun h => p_i42_M x hx h)))))))) t44.1 ao45 cap45 (Own.toRSl (M' := blkL ao89 ++ (blkL ao83 ++ (blkL ao39 ++ (blkL ao34 ++ (blkL ao31 ++ (blkL ao19 ++ (M))))))) f45 oL (fun x hx hm => (List.mem_append.1 hm).elim (fun h => (fun x hx hy => p_iD000089_i45 x hy hx) x hx h) (fun h => (List.mem_append.1 h).elim (fun h => (fun x hx hy => p_iD000083_i45 x hy hx) x hx h) (fun h => (List.mem_append.1 h).elim (fun h => p_i45_i39 x hx h) (fun h => (List.mem_append.1 h).elim (fun h => p_i45_i34 x hx h) (fun h => (List.mem_append.1 h).elim (fun h => p_i45_i31 x hx h) (fun h => (List.mem_append.1 h).elim (fun h => p_i45_i19 x hx h) (fun h => p_i45_M x hx h)))))))) k _ H93) ?_
     rintro _ w93 ⟨rfl, hc93, hMn⟩ a ha
     have o1 : Ok [] (blkL ao89 ++ (blkL ao83 ++ (blkL ao45 ++ (blkL ao42 ++ (blkL ao39 ++ (blkL ao34 ++ (blkL ao31 ++ (blkL ao19 ++ (M))))))))) w88.heap.size := Ok.nil _ _
     have o2 : Ok (blkL ao89 ++ (blkL ao83 ++ (blkL ao45 ++ (blkL ao42 ++ (blkL ao39 ++ (blkL ao34 ++ (blkL ao31 ++ (blkL ao19 ++ (M))))))))) (blkL ao89 ++ (blkL ao83 ++ (blkL ao45 ++ (blkL ao42 ++ (blkL ao39 ++ (blkL ao34 ++ (blkL ao31 ++ (blkL ao19 ++ (M))))))))) w88.heap.size := (Ok.refl _ _)
     have hG := hG.chg hc93 o1 o2
     have f1 := f1.chg hc93 o1 o2
     have f2 := f2.chg hc93 o1 o2
     have f19 := f19.chg hc93 o1 o2 (fun _ _ h => nomatch h) (fun _ h => mr (mr (mr (mr (mr (mr (mr (ml h))))))))
     have f31 := f31.chg hc93 o1 o2 (fun _ _ h => nomatch h) (fun _ h => mr (mr (mr (mr (mr (mr (ml h)))))))
     have f34 := f34.chg hc93 o1 o2 (fun _ _ h => nomatch h) (fun _ h => mr (mr (mr (mr (mr (ml h))))))
     have f39 := f39.chg hc93 o1 o2 (fun _ _ h => nomatch h) (fun _ h => mr (mr (mr (mr (ml h)))))
     have f42 := f42.chg hc93 o1 o2 (fun _ _ h => nomatch h) (fun _ h => mr (mr (mr (ml h))))
     have f45 := f45.chg hc93 o1 o2 (fun _ _ h => nomatch h) (fun _ h => mr (mr (ml h)))
     have hM : MS (blkL ao89 ++ (blkL ao83 ++ (blkL ao45 ++ (blkL ao42 ++ (blkL ao39 ++ (blkL ao34 ++ (blkL ao31 ++ (blkL ao19 ++ (M))))))))) w93 := (hM.chg hc93)
     have hC := hC.trans hc93 (Ok.nil _ _)
     have hS := hS.trans hc93 (Ok.nil _ _)
     refine ae hK92 hS ?_; clear hK92 K92
     refine tkpz 16 3 (.bool t93) ha (s := hS) (q := fun a ha => ?_)
     refine tkpz 17 0 (.bool t93) ha (s := hS) (q := fun a ha => ?_)
     refine dn (by kernel_rfl) ?_
     obtain rfl := Option.some.inj H
     have o1 : Ok [] (blkL ao89 ++ (blkL ao83 ++ (blkL ao45 ++ (blkL ao42 ++ (blkL ao39 ++ (blkL ao34 ++ (blkL ao31 ++ (blkL ao19 ++ (M))))))))) w93.heap.size := Ok.nil _ _
     have o2 : Ok (blkL ao39 ++ (blkL ao34 ++ (blkL ao31 ++ (blkL ao19 ++ (M))))) (blkL ao89 ++ (blkL ao83 ++ (blkL ao45 ++ (blkL ao42 ++ (blkL ao39 ++ (blkL ao34 ++ (blkL ao31 ++ (blkL ao19 ++ (M))))))))) w93.heap.size := (fun _ h => .inl (mr (mr (mr (mr (h))))))
     have hG := hG.chg (Chg.refl [] _) o1 o2
     have f1 := f1.chg (Chg.refl [] _) o1 o2
     have f2 := f2.chg (Chg.refl [] _) o1 o2
     have f19 := f19.chg (Chg.refl [] _) o1 o2 (fun _ _ h => nomatch h) (fun _ h => mr (mr (mr (ml h))))
     have f31 := f31.chg (Chg.refl [] _) o1 o2 (fun _ _ h => nomatch h) (fun _ h => mr (mr (ml h)))
     have f34 := f34.chg (Chg.refl [] _) o1 o2 (fun _ _ h => nomatch h) (fun _ h => mr (ml h))
     have f39 := f39.chg (Chg.refl [] _) o1 o2 (fun _ _ h => nomatch h) (fun _ h => ml h)
     have hM : MS (blkL ao39 ++ (blkL ao34 ++ (blkL ao31 ++ (blkL ao19 ++ (M))))) w93 := (fun x h => hM.chg (Chg.refl [] _) x (mr (mr (mr (mr (h))))))
     exact J51 _ _ (ha.sel (by kernel_rfl)) f1 f2 f19 f31 f34 f39 hG hC hM
    ·have ha := ha.lit hb91
     have H := ite_f hb91 H
     refine tkoz 13 ha (s := hS) (q := fun a ha => ?_)
     refine tkoz 14 ha (s := hS) (q := fun a ha => ?_)
     refine tkoz 15 ha (s := hS) (q := fun a ha => ?_)
     refine tkpz 16 4 (.bool false) ha (s := hS) (q := fun a ha => ?_)
     refine tkpz 17 0 (.bool false) ha (s := hS) (q := fun a ha => ?_)
     refine dn (by kernel_rfl) ?_
     obtain rfl := Option.some.inj H
     have o1 : Ok [] (blkL ao89 ++ (blkL ao83 ++ (blkL ao45 ++ (blkL ao42 ++ (blkL ao39 ++ (blkL ao34 ++ (blkL ao31 ++ (blkL ao19 ++ (M))))))))) w88.heap.size := Ok.nil _ _
     have o2 : Ok (blkL ao39 ++ (blkL ao34 ++ (blkL ao31 ++ (blkL ao19 ++ (M))))) (blkL ao89 ++ (blkL ao83 ++ (blkL ao45 ++ (blkL ao42 ++ (blkL ao39 ++ (blkL ao34 ++ (blkL ao31 ++ (blkL ao19 ++ (M))))))))) w88.heap.size := (fun _ h => .inl (mr (mr (mr (mr (h))))))
     have hG := hG.chg (Chg.refl [] _) o1 o2
     have f1 := f1.chg (Chg.refl [] _) o1 o2
     have f2 := f2.chg (Chg.refl [] _) o1 o2
     have f19 := f19.chg (Chg.refl [] _) o1 o2 (fun _ _ h => nomatch h) (fun _ h => mr (mr (mr (ml h))))
     have f31 := f31.chg (Chg.refl [] _) o1 o2 (fun _ _ h => nomatch h) (fun _ h => mr (mr (ml h)))
     have f34 := f34.chg (Chg.refl [] _) o1 o2 (fun _ _ h => nomatch h) (fun _ h => mr (ml h))
     have f39 := f39.chg (Chg.refl [] _) o1 o2 (fun _ _ h => nomatch h) (fun _ h => ml h)
     have hM : MS (blkL ao39 ++ (blkL ao34 ++ (blkL ao31 ++ (blkL ao19 ++ (M))))) w88 := (fun x h => hM.chg (Chg.refl [] _) x (mr (mr (mr (mr (h))))))
     exact J51 _ _ (ha.sel (by kernel_rfl)) f1 f2 f19 f31 f34 f39 hG hC hM
   ·have ha := ha.lit hb86
    have H := ite_f hb86 H
    refine tkoz 5 ha (s := hS) (q := fun a ha => ?_)
    refine tkoz 6 ha (s := hS) (q := fun a ha => ?_)
    refine tkoz 7 ha (s := hS) (q := fun a ha => ?_)
    refine tkoz 8 ha (s := hS) (q := fun a ha => ?_)
    refine tkoz 9 ha (s := hS) (q := fun a ha => ?_)
    refine tkoz 10 ha (s := hS) (q := fun a ha => ?_)
    refine tkpz 11 4 (.bool false) ha (s := hS) (q := fun a ha => ?_)
    refine tkpz 12 0 (.bool false) ha (s := hS) (q := fun a ha => ?_)
    refine tkoz 13 ha (s := hS) (q := fun a ha => ?_)
    refine tkoz 14 ha (s := hS) (q := fun a ha => ?_)
    refine tkoz 15 ha (s := hS) (q := fun a ha => ?_)
    refine tkpz 16 4 (.bool false) ha (s := hS) (q := fun a ha => ?_)
    refine tkpz 17 0 (.bool false) ha (s := hS) (q := fun a ha => ?_)
    refine dn (by kernel_rfl) ?_
    obtain rfl := Option.some.inj H
    have o1 : Ok [] (blkL ao83 ++ (blkL ao45 ++ (blkL ao42 ++ (blkL ao39 ++ (blkL ao34 ++ (blkL ao31 ++ (blkL ao19 ++ (M)))))))) w85.heap.size := Ok.nil _ _
    have o2 : Ok (blkL ao39 ++ (blkL ao34 ++ (blkL ao31 ++ (blkL ao19 ++ (M))))) (blkL ao83 ++ (blkL ao45 ++ (blkL ao42 ++ (blkL ao39 ++ (blkL ao34 ++ (blkL ao31 ++ (blkL ao19 ++ (M)))))))) w85.heap.size := (fun _ h => .inl (mr (mr (mr (h)))))
    have hG := hG.chg (Chg.refl [] _) o1 o2
    have f1 := f1.chg (Chg.refl [] _) o1 o2
    have f2 := f2.chg (Chg.refl [] _) o1 o2
    have f19 := f19.chg (Chg.refl [] _) o1 o2 (fun _ _ h => nomatch h) (fun _ h => mr (mr (mr (ml h))))
    have f31 := f31.chg (Chg.refl [] _) o1 o2 (fun _ _ h => nomatch h) (fun _ h => mr (mr (ml h)))
    have f34 := f34.chg (Chg.refl [] _) o1 o2 (fun _ _ h => nomatch h) (fun _ h => mr (ml h))
    have f39 := f39.chg (Chg.refl [] _) o1 o2 (fun _ _ h => nomatch h) (fun _ h => ml h)
    have hM : MS (blkL ao39 ++ (blkL ao34 ++ (blkL ao31 ++ (blkL ao19 ++ (M))))) w85 := (fun x h => hM.chg (Chg.refl [] _) x (mr (mr (mr (h)))))
    exact J51 _ _ (ha.sel (by kernel_rfl)) f1 f2 f19 f31 f34 f39 hG hC hM
  have H := H47
  refine seg ha 2 [(0, .slice ao1 a0.length cap1), (1, .slice ao2 a1.length cap2), (2, .slice ao3 a2.length cap3), (7, .bool t6), (8, .slice ao19 (([] : List (List Int)) ++ a0).length cap19), (9, .slice ao28 (([] : List (List Int)) ++ a1).length cap28), (10, .slice ao31 t30.length cap31), (11, .slice ao34 t33.length cap34), (12, .bool t36), (13, .slice ao39 t38.length cap39), (14, .slice ao42 t41.1.length cap42), (15, .int .i64 t41.2), (16, .slice ao45 t44.1.length cap45), (17, .int .i64 t44.2), (57, .slice ao19 (([] : List (List Int)) ++ a0).length cap19), (58, .slice ao1 a0.length cap1)] (by kernel_rfl) fun a ha => ?_
  have hML : MS (blkL ao45 ++ (blkL ao42 ++ (blkL ao39 ++ (blkL ao34 ++ (blkL ao31 ++ (blkL ao28 ++ (M))))))) w44 := MS.rest hM (fun _ h => (List.mem_append.1 h).elim (fun h => ml h) (fun h => (List.mem_append.1 h).elim (fun h => mr (ml h)) (fun h => (List.mem_append.1 h).elim (fun h => mr (mr (ml h))) (fun h => (List.mem_append.1 h).elim (fun h => mr (mr (mr (ml h)))) (fun h => (List.mem_append.1 h).elim (fun h => mr (mr (mr (mr (ml h))))) (fun h => (List.mem_append.1 h).elim (fun h => mr (mr (mr (mr (mr (ml h)))))) (fun h => mr (mr (mr (mr (mr (mr (mr (h))))))))))))))
  have oL : Ok (blkL ao45 ++ (blkL ao42 ++ (blkL ao39 ++ (blkL ao34 ++ (blkL ao31 ++ (blkL ao28 ++ (M))))))) (blkL ao45 ++ (blkL ao42 ++ (blkL ao39 ++ (blkL ao34 ++ (blkL ao31 ++ (blkL ao28 ++ (blkL ao19 ++ (M)))))))) w44.heap.size := (Ok.app (fun _ h => .inl (ml h)) (Ok.app (fun _ h => .inl (mr (ml h))) (Ok.app (fun _ h => .inl (mr (mr (ml h)))) (Ok.app (fun _ h => .inl (mr (mr (mr (ml h))))) (Ok.app (fun _ h => .inl (mr (mr (mr (mr (ml h)))))) (Ok.app (fun _ h => .inl (mr (mr (mr (mr (mr (ml h))))))) (fun _ h => .inl (mr (mr (mr (mr (mr (mr (mr (h)))))))))))))))
  obtain ⟨t94, H94, H⟩ := bind_some H
  refine cl ha (by rfl) (by kernel_rfl) (by rfl) (by rfl) (by rfl) (vineryref04_Same.walk w44 _ hML (([] : List (List Int)) ++ a0) ao19 cap19 (Own.toRSl (M' := blkL ao45 ++ (blkL ao42 ++ (blkL ao39 ++ (blkL ao34 ++ (blkL ao31 ++ (blkL ao28 ++ (M))))))) f19 oL (fun x hx hm => (List.mem_append.1 hm).elim (fun h => (fun x hx hy => p_i45_i19 x hy hx) x hx h) (fun h => (List.mem_append.1 h).elim (fun h => (fun x hx hy => p_i42_i19 x hy hx) x hx h) (fun h => (List.mem_append.1 h).elim (fun h => (fun x hx hy => p_i39_i19 x hy hx) x hx h) (fun h => (List.mem_append.1 h).elim (fun h => (fun x hx hy => p_i34_i19 x hy hx) x hx h) (fun h => (List.mem_append.1 h).elim (fun h => (fun x hx hy => p_i31_i19 x hy hx) x hx h) (fun h => (List.mem_append.1 h).elim (fun h => (fun x hx hy => p_i28_i19 x hy hx) x hx h) (fun h => p_i19_M x hx h)))))))) a0 ao1 cap1 (RSl.chg f1 (Chg.refl [] _) (Ok.nil _ _) oL) k _ H94) ?_
  rintro _ w94 ⟨rfl, hc94, hMn⟩ a ha
  have o1 : Ok [] (blkL ao45 ++ (blkL ao42 ++ (blkL ao39 ++ (blkL ao34 ++ (blkL ao31 ++ (blkL ao28 ++ (blkL ao19 ++ (M)))))))) w44.heap.size := Ok.nil _ _
  have o2 : Ok (blkL ao45 ++ (blkL ao42 ++ (blkL ao39 ++ (blkL ao34 ++ (blkL ao31 ++ (blkL ao28 ++ (blkL ao19 ++ (M)))))))) (blkL ao45 ++ (blkL ao42 ++ (blkL ao39 ++ (blkL ao34 ++ (blkL ao31 ++ (blkL ao28 ++ (blkL ao19 ++ (M)))))))) w44.heap.size := (Ok.refl _ _)
  have hG := hG.chg hc94 o1 o2
  have f1 := f1.chg hc94 o1 o2
  have f2 := f2.chg hc94 o1 o2
  have f3 := f3.chg hc94 o1 o2
  have f19 := f19.chg hc94 o1 o2 (fun _ _ h => nomatch h) (fun _ h => mr (mr (mr (mr (mr (mr (ml h)))))))
  have f28 := f28.chg hc94 o1 o2 (fun _ _ h => nomatch h) (fun _ h => mr (mr (mr (mr (mr (ml h))))))
  have f31 := f31.chg hc94 o1 o2 (fun _ _ h => nomatch h) (fun _ h => mr (mr (mr (mr (ml h)))))
  have f34 := f34.chg hc94 o1 o2 (fun _ _ h => nomatch h) (fun _ h => mr (mr (mr (ml h))))
  have f39 := f39.chg hc94 o1 o2 (fun _ _ h => nomatch h) (fun _ h => mr (mr (ml h)))
  have f42 := f42.chg hc94 o1 o2 (fun _ _ h => nomatch h) (fun _ h => mr (ml h))
  have f45 := f45.chg hc94 o1 o2 (fun _ _ h => nomatch h) (fun _ h => ml h)
  have hM : MS (blkL ao45 ++ (blkL ao42 ++ (blkL ao39 ++ (blkL ao34 ++ (blkL ao31 ++ (blkL ao28 ++ (blkL ao19 ++ (M)))))))) w94 := (hM.chg hc94)
  have hC := hC.trans hc94 (Ok.nil _ _)
  refine seg ha 1 [(60, .bool t94), (0, .slice ao1 a0.length cap1), (1, .slice ao2 a1.length cap2), (2, .slice ao3 a2.length cap3), (7, .bool t6), (8, .slice ao19 (([] : List (List Int)) ++ a0).length cap19), (9, .slice ao28 (([] : List (List Int)) ++ a1).length cap28), (10, .slice ao31 t30.length cap31), (11, .slice ao34 t33.length cap34), (12, .bool t36), (13, .slice ao39 t38.length cap39), (14, .slice ao42 t41.1.length cap42), (15, .int .i64 t41.2), (16, .slice ao45 t44.1.length cap45), (17, .int .i64 t44.2)] (by kernel_rfl) fun a ha => ?_
  rcases Bool.eq_false_or_eq_true (t94) with hb95 | hb95
  ·have ha := ha.lit hb95
   have H := ite_t hb95 H
   refine sgh ha 2 [2, 2] [(0, .slice ao1 a0.length cap1), (1, .slice ao2 a1.length cap2), (2, .slice ao3 a2.length cap3), (7, .bool t6), (8, .slice ao19 (([] : List (List Int)) ++ a0).length cap19), (10, .slice ao31 t30.length cap31), (11, .slice ao34 t33.length cap34), (12, .bool t36), (13, .slice ao39 t38.length cap39), (14, .slice ao42 t41.1.length cap42), (15, .int .i64 t41.2), (16, .slice ao45 t44.1.length cap45), (17, .int .i64 t44.2), (60, .bool true), (61, .slice ao28 (([] : List (List Int)) ++ a1).length cap28), (62, .slice ao2 a1.length cap2)] (by kernel_rfl) fun a ha => ?_
   have hML : MS (blkL ao45 ++ (blkL ao42 ++ (blkL ao39 ++ (blkL ao34 ++ (blkL ao31 ++ (blkL ao19 ++ (M))))))) w94 := MS.rest hM (fun _ h => (List.mem_append.1 h).elim (fun h => ml h) (fun h => (List.mem_append.1 h).elim (fun h => mr (ml h)) (fun h => (List.mem_append.1 h).elim (fun h => mr (mr (ml h))) (fun h => (List.mem_append.1 h).elim (fun h => mr (mr (mr (ml h)))) (fun h => (List.mem_append.1 h).elim (fun h => mr (mr (mr (mr (ml h))))) (fun h => (List.mem_append.1 h).elim (fun h => mr (mr (mr (mr (mr (mr (ml h))))))) (fun h => mr (mr (mr (mr (mr (mr (mr (h))))))))))))))
   have oL : Ok (blkL ao45 ++ (blkL ao42 ++ (blkL ao39 ++ (blkL ao34 ++ (blkL ao31 ++ (blkL ao19 ++ (M))))))) (blkL ao45 ++ (blkL ao42 ++ (blkL ao39 ++ (blkL ao34 ++ (blkL ao31 ++ (blkL ao28 ++ (blkL ao19 ++ (M)))))))) w94.heap.size := (Ok.app (fun _ h => .inl (ml h)) (Ok.app (fun _ h => .inl (mr (ml h))) (Ok.app (fun _ h => .inl (mr (mr (ml h)))) (Ok.app (fun _ h => .inl (mr (mr (mr (ml h))))) (Ok.app (fun _ h => .inl (mr (mr (mr (mr (ml h)))))) (fun _ h => .inl (mr (mr (mr (mr (mr (mr (h)))))))))))))
   obtain ⟨t96, H96, H⟩ := bind_some H
   refine cl ha (by rfl) (by kernel_rfl) (by rfl) (by rfl) (by rfl) (vineryref04_Same.walk w94 _ hML (([] : List (List Int)) ++ a1) ao28 cap28 (Own.toRSl (M' := blkL ao45 ++ (blkL ao42 ++ (blkL ao39 ++ (blkL ao34 ++ (blkL ao31 ++ (blkL ao19 ++ (M))))))) f28 oL (fun x hx hm => (List.mem_append.1 hm).elim (fun h => (fun x hx hy => p_i45_i28 x hy hx) x hx h) (fun h => (List.mem_append.1 h).elim (fun h => (fun x hx hy => p_i42_i28 x hy hx) x hx h) (fun h => (List.mem_append.1 h).elim (fun h => (fun x hx hy => p_i39_i28 x hy hx) x hx h) (fun h => (List.mem_append.1 h).elim (fun h => (fun x hx hy => p_i34_i28 x hy hx) x hx h) (fun h => (List.mem_append.1 h).elim (fun h => (fun x hx hy => p_i31_i28 x hy hx) x hx h) (fun h => (List.mem_append.1 h).elim (fun h => p_i28_i19 x hx h) (fun h => p_i28_M x hx h)))))))) a1 ao2 cap2 (RSl.chg f2 (Chg.refl [] _) (Ok.nil _ _) oL) k _ H96) ?_
   rintro _ w96 ⟨rfl, hc96, hMn⟩ a ha
   have o1 : Ok [] (blkL ao45 ++ (blkL ao42 ++ (blkL ao39 ++ (blkL ao34 ++ (blkL ao31 ++ (blkL ao28 ++ (blkL ao19 ++ (M)))))))) w94.heap.size := Ok.nil _ _
   have o2 : Ok (blkL ao45 ++ (blkL ao42 ++ (blkL ao39 ++ (blkL ao34 ++ (blkL ao31 ++ (blkL ao28 ++ (blkL ao19 ++ (M)))))))) (blkL ao45 ++ (blkL ao42 ++ (blkL ao39 ++ (blkL ao34 ++ (blkL ao31 ++ (blkL ao28 ++ (blkL ao19 ++ (M)))))))) w94.heap.size := (Ok.refl _ _)
   have hG := hG.chg hc96 o1 o2
   have f1 := f1.chg hc96 o1 o2
   have f2 := f2.chg hc96 o1 o2
   have f3 := f3.chg hc96 o1 o2
   have f19 := f19.chg hc96 o1 o2 (fun _ _ h => nomatch h) (fun _ h => mr (mr (mr (mr (mr (mr (ml h)))))))
   have f31 := f31.chg hc96 o1 o2 (fun _ _ h => nomatch h) (fun _ h => mr (mr (mr (mr (ml h)))))
   have f34 := f34.chg hc96 o1 o2 (fun _ _ h => nomatch h) (fun _ h => mr (mr (mr (ml h))))
   have f39 := f39.chg hc96 o1 o2 (fun _ _ h => nomatch h) (fun _ h => mr (mr (ml h)))
   have f42 := f42.chg hc96 o1 o2 (fun _ _ h => nomatch h) (fun _ h => mr (ml h))
   have f45 := f45.chg hc96 o1 o2 (fun _ _ h => nomatch h) (fun _ h => ml h)
   have f28 := f28.chg hc96 o1 o2 (fun _ _ h => nomatch h) (fun _ h => mr (mr (mr (mr (mr (ml h))))))
   have hM : MS (blkL ao45 ++ (blkL ao42 ++ (blkL ao39 ++ (blkL ao34 ++ (blkL ao31 ++ (blkL ao28 ++ (blkL ao19 ++ (M)))))))) w96 := (hM.chg hc96)
   have hC := hC.trans hc96 (Ok.nil _ _)
   refine sgh ha 2 [3, 0] [(65, .bool t96), (0, .slice ao1 a0.length cap1), (1, .slice ao2 a1.length cap2), (2, .slice ao3 a2.length cap3), (7, .bool t6), (8, .slice ao19 (([] : List (List Int)) ++ a0).length cap19), (10, .slice ao31 t30.length cap31), (11, .slice ao34 t33.length cap34), (12, .bool t36), (13, .slice ao39 t38.length cap39), (14, .slice ao42 t41.1.length cap42), (15, .int .i64 t41.2), (16, .slice ao45 t44.1.length cap45), (17, .int .i64 t44.2)] (by kernel_rfl) fun a ha => ?_
   rcases Bool.eq_false_or_eq_true (t96) with hb97 | hb97
   ·have ha := ha.lit hb97
    have H := ite_t hb97 H
    refine sgh ha 2 [2, 2] [(0, .slice ao1 a0.length cap1), (1, .slice ao2 a1.length cap2), (7, .bool t6), (8, .slice ao19 (([] : List (List Int)) ++ a0).length cap19), (10, .slice ao31 t30.length cap31), (11, .slice ao34 t33.length cap34), (12, .bool t36), (13, .slice ao39 t38.length cap39), (14, .slice ao42 t41.1.length cap42), (15, .int .i64 t41.2), (16, .slice ao45 t44.1.length cap45), (17, .int .i64 t44.2), (65, .bool true), (66, .slice ao31 t30.length cap31), (67, .slice ao3 a2.length cap3)] (by kernel_rfl) fun a ha => ?_
    obtain ⟨t98, H98, H⟩ := bind_some H
    refine cl ha (by rfl) (by kernel_rfl) (by rfl) (by rfl) (by rfl) (Kept.walk w96 _ hM t30 ao31 cap31 f31 a2 ao3 cap3 f3 _ H98) ?_
    rintro _ w98 ⟨rfl, hc98, hMn⟩ a ha
    have o1 : Ok [] (blkL ao45 ++ (blkL ao42 ++ (blkL ao39 ++ (blkL ao34 ++ (blkL ao31 ++ (blkL ao28 ++ (blkL ao19 ++ (M)))))))) w96.heap.size := Ok.nil _ _
    have o2 : Ok (blkL ao45 ++ (blkL ao42 ++ (blkL ao39 ++ (blkL ao34 ++ (blkL ao31 ++ (blkL ao28 ++ (blkL ao19 ++ (M)))))))) (blkL ao45 ++ (blkL ao42 ++ (blkL ao39 ++ (blkL ao34 ++ (blkL ao31 ++ (blkL ao28 ++ (blkL ao19 ++ (M)))))))) w96.heap.size := (Ok.refl _ _)
    have hG := hG.chg hc98 o1 o2
    have f1 := f1.chg hc98 o1 o2
    have f2 := f2.chg hc98 o1 o2
    have f19 := f19.chg hc98 o1 o2 (fun _ _ h => nomatch h) (fun _ h => mr (mr (mr (mr (mr (mr (ml h)))))))
    have f31 := f31.chg hc98 o1 o2 (fun _ _ h => nomatch h) (fun _ h => mr (mr (mr (mr (ml h)))))
    have f34 := f34.chg hc98 o1 o2 (fun _ _ h => nomatch h) (fun _ h => mr (mr (mr (ml h))))
    have f39 := f39.chg hc98 o1 o2 (fun _ _ h => nomatch h) (fun _ h => mr (mr (ml h)))
    have f42 := f42.chg hc98 o1 o2 (fun _ _ h => nomatch h) (fun _ h => mr (ml h))
    have f45 := f45.chg hc98 o1 o2 (fun _ _ h => nomatch h) (fun _ h => ml h)
    have f3 := f3.chg hc98 o1 o2
    have hM : MS (blkL ao45 ++ (blkL ao42 ++ (blkL ao39 ++ (blkL ao34 ++ (blkL ao31 ++ (blkL ao28 ++ (blkL ao19 ++ (M)))))))) w98 := (hM.chg hc98)
    have hC := hC.trans hc98 (Ok.nil _ _)
    refine sgh ha 2 [3, 0] [(0, .slice ao1 a0.length cap1), (1, .slice ao2 a1.length cap2), (7, .bool t6), (8, .slice ao19 (([] : List (List Int)) ++ a0).length cap19), (10, .slice ao31 t30.length cap31), (11, .slice ao34 t33.length cap34), (12, .bool t36), (13, .slice ao39 t38.length cap39), (14, .slice ao42 t41.1.length cap42), (15, .int .i64 t41.2), (16, .slice ao45 t44.1.length cap45), (17, .int .i64 t44.2), (18, .bool t98)] (by kernel_rfl) fun a ha => ?_
    obtain rfl := Option.some.inj H
    have o1 : Ok [] (blkL ao45 ++ (blkL ao42 ++ (blkL ao39 ++ (blkL ao34 ++ (blkL ao31 ++ (blkL ao28 ++ (blkL ao19 ++ (M)))))))) w98.heap.size := Ok.nil _ _
    have o2 : Ok (blkL ao45 ++ (blkL ao42 ++ (blkL ao39 ++ (blkL ao34 ++ (blkL ao31 ++ (blkL ao19 ++ (M))))))) (blkL ao45 ++ (blkL ao42 ++ (blkL ao39 ++ (blkL ao34 ++ (blkL ao31 ++ (blkL ao28 ++ (blkL ao19 ++ (M)))))))) w98.heap.size := (Ok.app (fun _ h => .inl (ml h)) (Ok.app (fun _ h => .inl (mr (ml h))) (Ok.app (fun _ h => .inl (mr (mr (ml h)))) (Ok.app (fun _ h => .inl (mr (mr (mr (ml h))))) (Ok.app (fun _ h => .inl (mr (mr (mr (mr (ml h)))))) (fun _ h => .inl (mr (mr (mr (mr (mr (mr (h)))))))))))))
    have hG := hG.chg (Chg.refl [] _) o1 o2
    have f1 := f1.chg (Chg.refl [] _) o1 o2
    have f2 := f2.chg (Chg.refl [] _) o1 o2
    have f19 := f19.chg (Chg.refl [] _) o1 o2 (fun _ _ h => nomatch h) (fun _ h => mr (mr (mr (mr (mr (ml h))))))
    have f31 := f31.chg (Chg.refl [] _) o1 o2 (fun _ _ h => nomatch h) (fun _ h => mr (mr (mr (mr (ml h)))))
    have f34 := f34.chg (Chg.refl [] _) o1 o2 (fun _ _ h => nomatch h) (fun _ h => mr (mr (mr (ml h))))
    have f39 := f39.chg (Chg.refl [] _) o1 o2 (fun _ _ h => nomatch h) (fun _ h => mr (mr (ml h)))
    have f42 := f42.chg (Chg.refl [] _) o1 o2 (fun _ _ h => nomatch h) (fun _ h => mr (ml h))
    have f45 := f45.chg (Chg.refl [] _) o1 o2 (fun _ _ h => nomatch h) (fun _ h => ml h)
    have hM : MS (blkL ao45 ++ (blkL ao42 ++ (blkL ao39 ++ (blkL ao34 ++ (blkL ao31 ++ (blkL ao19 ++ (M))))))) w98 := (MS.app (fun x h => hM.chg (Chg.refl [] _) x (ml h)) (MS.app (fun x h => hM.chg (Chg.refl [] _) x (mr (ml h))) (MS.app (fun x h => hM.chg (Chg.refl [] _) x (mr (mr (ml h)))) (MS.app (fun x h => hM.chg (Chg.refl [] _) x (mr (mr (mr (ml h))))) (MS.app (fun x h => hM.chg (Chg.refl [] _) x (mr (mr (mr (mr (ml h)))))) (fun x h => hM.chg (Chg.refl [] _) x (mr (mr (mr (mr (mr (mr (h)))))))))))))
    exact J47 _ _ (ha.sel (by kernel_rfl)) f1 f2 f19 f31 f34 f39 f42 f45 hG hC hM
   ·have ha := ha.lit hb97
    have H := ite_f hb97 H
    refine sgh ha 5 [1, 1, 1, 4, 0] [(0, .slice ao1 a0.length cap1), (1, .slice ao2 a1.length cap2), (7, .bool t6), (8, .slice ao19 (([] : List (List Int)) ++ a0).length cap19), (10, .slice ao31 t30.length cap31), (11, .slice ao34 t33.length cap34), (12, .bool t36), (13, .slice ao39 t38.length cap39), (14, .slice ao42 t41.1.length cap42), (15, .int .i64 t41.2), (16, .slice ao45 t44.1.length cap45), (17, .int .i64 t44.2), (18, .bool false)] (by kernel_rfl) fun a ha => ?_
    obtain rfl := Option.some.inj H
    have o1 : Ok [] (blkL ao45 ++ (blkL ao42 ++ (blkL ao39 ++ (blkL ao34 ++ (blkL ao31 ++ (blkL ao28 ++ (blkL ao19 ++ (M)))))))) w96.heap.size := Ok.nil _ _
    have o2 : Ok (blkL ao45 ++ (blkL ao42 ++ (blkL ao39 ++ (blkL ao34 ++ (blkL ao31 ++ (blkL ao19 ++ (M))))))) (blkL ao45 ++ (blkL ao42 ++ (blkL ao39 ++ (blkL ao34 ++ (blkL ao31 ++ (blkL ao28 ++ (blkL ao19 ++ (M)))))))) w96.heap.size := (Ok.app (fun _ h => .inl (ml h)) (Ok.app (fun _ h => .inl (mr (ml h))) (Ok.app (fun _ h => .inl (mr (mr (ml h)))) (Ok.app (fun _ h => .inl (mr (mr (mr (ml h))))) (Ok.app (fun _ h => .inl (mr (mr (mr (mr (ml h)))))) (fun _ h => .inl (mr (mr (mr (mr (mr (mr (h)))))))))))))
    have hG := hG.chg (Chg.refl [] _) o1 o2
    have f1 := f1.chg (Chg.refl [] _) o1 o2
    have f2 := f2.chg (Chg.refl [] _) o1 o2
    have f19 := f19.chg (Chg.refl [] _) o1 o2 (fun _ _ h => nomatch h) (fun _ h => mr (mr (mr (mr (mr (ml h))))))
    have f31 := f31.chg (Chg.refl [] _) o1 o2 (fun _ _ h => nomatch h) (fun _ h => mr (mr (mr (mr (ml h)))))
    have f34 := f34.chg (Chg.refl [] _) o1 o2 (fun _ _ h => nomatch h) (fun _ h => mr (mr (mr (ml h))))
    have f39 := f39.chg (Chg.refl [] _) o1 o2 (fun _ _ h => nomatch h) (fun _ h => mr (mr (ml h)))
    have f42 := f42.chg (Chg.refl [] _) o1 o2 (fun _ _ h => nomatch h) (fun _ h => mr (ml h))
    have f45 := f45.chg (Chg.refl [] _) o1 o2 (fun _ _ h => nomatch h) (fun _ h => ml h)
    have hM : MS (blkL ao45 ++ (blkL ao42 ++ (blkL ao39 ++ (blkL ao34 ++ (blkL ao31 ++ (blkL ao19 ++ (M))))))) w96 := (MS.app (fun x h => hM.chg (Chg.refl [] _) x (ml h)) (MS.app (fun x h => hM.chg (Chg.refl [] _) x (mr (ml h))) (MS.app (fun x h => hM.chg (Chg.refl [] _) x (mr (mr (ml h)))) (MS.app (fun x h => hM.chg (Chg.refl [] _) x (mr (mr (mr (ml h))))) (MS.app (fun x h => hM.chg (Chg.refl [] _) x (mr (mr (mr (mr (ml h)))))) (fun x h => hM.chg (Chg.refl [] _) x (mr (mr (mr (mr (mr (mr (h)))))))))))))
    exact J47 _ _ (ha.sel (by kernel_rfl)) f1 f2 f19 f31 f34 f39 f42 f45 hG hC hM
  ·have ha := ha.lit hb95
   have H := ite_f hb95 H
   refine sgh ha 10 [1, 1, 1, 4, 0, 1, 1, 1, 4, 0] [(0, .slice ao1 a0.length cap1), (1, .slice ao2 a1.length cap2), (7, .bool t6), (8, .slice ao19 (([] : List (List Int)) ++ a0).length cap19), (10, .slice ao31 t30.length cap31), (11, .slice ao34 t33.length cap34), (12, .bool t36), (13, .slice ao39 t38.length cap39), (14, .slice ao42 t41.1.length cap42), (15, .int .i64 t41.2), (16, .slice ao45 t44.1.length cap45), (17, .int .i64 t44.2), (18, .bool false)] (by kernel_rfl) fun a ha => ?_
   obtain rfl := Option.some.inj H
   have o1 : Ok [] (blkL ao45 ++ (blkL ao42 ++ (blkL ao39 ++ (blkL ao34 ++ (blkL ao31 ++ (blkL ao28 ++ (blkL ao19 ++ (M)))))))) w94.heap.size := Ok.nil _ _
   have o2 : Ok (blkL ao45 ++ (blkL ao42 ++ (blkL ao39 ++ (blkL ao34 ++ (blkL ao31 ++ (blkL ao19 ++ (M))))))) (blkL ao45 ++ (blkL ao42 ++ (blkL ao39 ++ (blkL ao34 ++ (blkL ao31 ++ (blkL ao28 ++ (blkL ao19 ++ (M)))))))) w94.heap.size := (Ok.app (fun _ h => .inl (ml h)) (Ok.app (fun _ h => .inl (mr (ml h))) (Ok.app (fun _ h => .inl (mr (mr (ml h)))) (Ok.app (fun _ h => .inl (mr (mr (mr (ml h))))) (Ok.app (fun _ h => .inl (mr (mr (mr (mr (ml h)))))) (fun _ h => .inl (mr (mr (mr (mr (mr (mr (h)))))))))))))
   have hG := hG.chg (Chg.refl [] _) o1 o2
   have f1 := f1.chg (Chg.refl [] _) o1 o2
   have f2 := f2.chg (Chg.refl [] _) o1 o2
   have f19 := f19.chg (Chg.refl [] _) o1 o2 (fun _ _ h => nomatch h) (fun _ h => mr (mr (mr (mr (mr (ml h))))))
   have f31 := f31.chg (Chg.refl [] _) o1 o2 (fun _ _ h => nomatch h) (fun _ h => mr (mr (mr (mr (ml h)))))
   have f34 := f34.chg (Chg.refl [] _) o1 o2 (fun _ _ h => nomatch h) (fun _ h => mr (mr (mr (ml h))))
   have f39 := f39.chg (Chg.refl [] _) o1 o2 (fun _ _ h => nomatch h) (fun _ h => mr (mr (ml h)))
   have f42 := f42.chg (Chg.refl [] _) o1 o2 (fun _ _ h => nomatch h) (fun _ h => mr (ml h))
   have f45 := f45.chg (Chg.refl [] _) o1 o2 (fun _ _ h => nomatch h) (fun _ h => ml h)
   have hM : MS (blkL ao45 ++ (blkL ao42 ++ (blkL ao39 ++ (blkL ao34 ++ (blkL ao31 ++ (blkL ao19 ++ (M))))))) w94 := (MS.app (fun x h => hM.chg (Chg.refl [] _) x (ml h)) (MS.app (fun x h => hM.chg (Chg.refl [] _) x (mr (ml h))) (MS.app (fun x h => hM.chg (Chg.refl [] _) x (mr (mr (ml h)))) (MS.app (fun x h => hM.chg (Chg.refl [] _) x (mr (mr (mr (ml h))))) (MS.app (fun x h => hM.chg (Chg.refl [] _) x (mr (mr (mr (mr (ml h)))))) (fun x h => hM.chg (Chg.refl [] _) x (mr (mr (mr (mr (mr (mr (h)))))))))))))
   exact J47 _ _ (ha.sel (by kernel_rfl)) f1 f2 f19 f31 f34 f39 f42 f45 hG hC hM
end Go.E
