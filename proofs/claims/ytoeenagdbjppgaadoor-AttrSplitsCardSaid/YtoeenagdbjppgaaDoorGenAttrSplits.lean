/- What the functions that the law reaches compute, and the walks that show it. -/
import Derived.Test.YtoeenagdbjppgaaDoorEngO
import Derived.Test.YtoeenagdbjppgaaDoorEngX
import Derived.Test.YtoeenagdbjppgaaDoorEngQ
import Derived.Test.YtoeenagdbjppgaaDoorEngY
import Derived.Test.YtoeenagdbjppgaaDoorEngZ
import Derived.Test.YtoeenagdbjppgaaDoorProg
import Derived.Test.YtoeenagdbjppgaaDoorGenAttrSplitsP1
set_option linter.unusedVariables false
set_option linter.unusedSimpArgs false
namespace Go.E
open Go.RowKit Go.Proofs
def vinerylaw09_AttrSplits.f (k : Nat) (a0 : List Int) (a1 : List S_api_Raw) : Option (Bool) := (vinerylaw09_small.f k ).bind fun t5 => (vinerylaw09_fewRaws.f k a1).bind fun t7 => (if (if (!t7) = true then true else (decide ((a0.length : Int) > (16384 : Int)))) = true then some ((t5 : Bool)) else (Lent.f a0).bind fun t13 => (vinerylaw09_lent.f a1).bind fun t16 => (attr_Split.f k t13).bind fun t18 => (attr_Join.f k t16).bind fun t21 => ((Kept.f t13 a0).bind fun t47 => (if t47 = true then (vineryref09_SameRaws.f k t16 a1).bind fun t49 => some (t49 : Bool) else some (false : Bool))).bind fun s24 => (vinerylaw09_spoil.f t16).bind fun t32 => (vineryref09_Split.f k a0).bind fun t34 => (vineryref09_Join.f k a1).bind fun t37 => ((if t5 = true then (if s24 = true then (vineryref09_SameRaws.f k t18.1 t34.1).bind fun t43 => (if t43 = true then (if (t18.2 == t34.2) = true then (if ((bstr (b2s t21.1)).toList == (bstr (b2s t37.1)).toList) = true then some (t21.2 == t37.2 : Bool) else some (false : Bool)) else some (false : Bool)) else some (false : Bool)) else some (false : Bool)) else some (false : Bool))).bind fun s40 => some ((s40 : Bool)))
set_option maxRecDepth 100000 in
theorem vinerylaw09_AttrSplits.walk (w : World) (M : List Nat) (hM : MS M w) (a0 : List Int) (ao1 : Option Addr) (cap1 : Nat) (f1 : RSl (rInt .u8) 5 w M ao1 cap1 a0) (a1 : List S_api_Raw) (ao2 : Option Addr) (cap2 : Nat) (f2 : RSl rS_api_Raw 61 w M ao2 cap2 a1) (k : Nat) (r : Bool) (H : vinerylaw09_AttrSplits.f k a0 a1 = some r) :
    To Tryd.prog 8 [.slice ao1 a0.length cap1, .slice ao2 a1.length cap2] w fun v w' => v = .bool r ∧ Chg [] w w' ∧ MS (M) w' := by
 unfold vinerylaw09_AttrSplits.f at H
 refine ent Tryd.func8 rfl [(0, .slice ao1 a0.length cap1), (1, .slice ao2 a1.length cap2)] rfl (by rfl) fun a ha => ?_
 have hC : Chg [] w w := Chg.refl _ _
 refine wp_seq_k fun K3 hK3 => ?_
 refine wp_region_lit ?_
 refine seg ha 1 [(0, .slice ao1 a0.length cap1), (1, .slice ao2 a1.length cap2)] (by kernel_rfl) fun a ha => ?_
 refine hK3 _ _ ?_; try clear hK3 K3
 refine wp_seq_k fun K4 hK4 => ?_
 refine wp_region_lit ?_
 obtain ⟨t5, H5, H⟩ := bind_some H
 refine cl ha (by rfl) (by kernel_rfl) (by rfl) (by rfl) (by rfl) (vinerylaw09_small.walk w _ hM  k _ H5) ?_
 rintro _ w5 ⟨rfl, hc5, hMn⟩ a ha
 have o1 : Ok [] (M) w.heap.size := Ok.nil _ _
 have o2 : Ok (M) (M) w.heap.size := (Ok.refl _ _)
 have f1 := f1.chg hc5 o1 o2
 have f2 := f2.chg hc5 o1 o2
 have hM : MS (M) w5 := (hM.chg hc5)
 have hC := hC.trans hc5 (Ok.nil _ _)
 refine seg ha 1 [(0, .slice ao1 a0.length cap1), (1, .slice ao2 a1.length cap2), (5, .bool t5)] (by kernel_rfl) fun a ha => ?_
 refine hK4 _ _ ?_; try clear hK4 K4
 refine wp_seq_k fun K6 hK6 => ?_
 refine wp_region_lit ?_
 refine seg ha 1 [(0, .slice ao1 a0.length cap1), (1, .slice ao2 a1.length cap2), (5, .bool t5), (19, .slice ao2 a1.length cap2)] (by kernel_rfl) fun a ha => ?_
 obtain ⟨t7, H7, H⟩ := bind_some H
 refine cl ha (by rfl) (by kernel_rfl) (by rfl) (by rfl) (by rfl) (vinerylaw09_fewRaws.walk w5 _ hM a1 ao2 cap2 f2 k _ H7) ?_
 rintro _ w7 ⟨rfl, hc7, hMn⟩ a ha
 have o1 : Ok [] (M) w5.heap.size := Ok.nil _ _
 have o2 : Ok (M) (M) w5.heap.size := (Ok.refl _ _)
 have f1 := f1.chg hc7 o1 o2
 have f2 := f2.chg hc7 o1 o2
 have hM : MS (M) w7 := (hM.chg hc7)
 have hC := hC.trans hc7 (Ok.nil _ _)
 refine seg ha 1 [(0, .slice ao1 a0.length cap1), (1, .slice ao2 a1.length cap2), (5, .bool t5), (6, .bool t7)] (by kernel_rfl) fun a ha => ?_
 refine hK6 _ _ ?_; try clear hK6 K6
 refine wp_seq_k fun K8 hK8 => ?_
 refine wp_seq_k fun K9 hK9 => ?_
 refine wp_region_lit ?_
 refine seg ha 7 [(0, .slice ao1 a0.length cap1), (1, .slice ao2 a1.length cap2), (5, .bool t5), (27, .bool (if (!t7) = true then true else (decide ((a0.length : Int) > (16384 : Int)))))] (by kernel_rfl) fun a ha => ?_
 refine hK9 _ _ ?_; try clear hK9 K9
 refine cnd ha rfl (fun hc10 => ?_) (fun hc10 => ?_)
 ·have H := ite_t hc10 H
  refine wp_seq_k fun K11 hK11 => ?_
  refine wp_region_lit ?_
  refine seg ha 2 [(4, .bool t5)] (by kernel_rfl) fun a ha => ?_
  refine hK11 _ _ ?_; try clear hK11 K11
  refine wp_ret ?_
  try simp only [Exit.then, Exit.inBlock]
  obtain rfl := Option.some.inj H
  refine rt1 ha rfl rfl ?_
  exact ⟨rfl, hC, hM⟩
 ·have H := ite_f hc10 H
  refine wp_skip ?_
  refine hK8 _ _ ?_; try clear hK8 K8
  refine wp_seq_k fun K12 hK12 => ?_
  refine wp_region_lit ?_
  refine seg ha 1 [(0, .slice ao1 a0.length cap1), (1, .slice ao2 a1.length cap2), (5, .bool t5), (29, .slice ao1 a0.length cap1)] (by kernel_rfl) fun a ha => ?_
  obtain ⟨t13, H13, H⟩ := bind_some H
  refine cl ha (by rfl) (by kernel_rfl) (by rfl) (by rfl) (by rfl) (Lent.walk w7 _ hM a0 ao1 cap1 f1 _ H13) ?_
  rintro _ w13 ⟨ao14, cap14, rfl, f14, ne_i14, hc13, hMn⟩ a ha
  have o1 : Ok [] (M) w7.heap.size := Ok.nil _ _
  have o2 : Ok (blkL ao14 ++ (M)) (M) w7.heap.size := (Ok.app (fun x h => .inr (ne_i14 x h)) (Ok.refl _ _))
  have f1 := f1.chg hc13 o1 o2
  have f2 := f2.chg hc13 o1 o2
  have p_i14_M : ∀ x ∈ blkL ao14, x ∉ M := fun x hx hy => absurd (hM x (hy)) (Nat.not_lt.2 (ne_i14 x hx))
  have e_i14 : ∀ x ∈ blkL ao14, w.heap.size ≤ x := fun x hx => Nat.le_trans hC.size (ne_i14 x hx)
  have hM : MS (blkL ao14 ++ (M)) w13 := (MS.app (fun x h => hMn x (ml h)) (hM.chg hc13))
  have hC := hC.trans hc13 (Ok.nil _ _)
  refine seg ha 1 [(0, .slice ao1 a0.length cap1), (1, .slice ao2 a1.length cap2), (5, .bool t5), (7, .slice ao14 t13.length cap14)] (by kernel_rfl) fun a ha => ?_
  refine hK12 _ _ ?_; try clear hK12 K12
  refine wp_seq_k fun K15 hK15 => ?_
  refine wp_region_lit ?_
  refine seg ha 1 [(0, .slice ao1 a0.length cap1), (1, .slice ao2 a1.length cap2), (5, .bool t5), (7, .slice ao14 t13.length cap14), (31, .slice ao2 a1.length cap2)] (by kernel_rfl) fun a ha => ?_
  obtain ⟨t16, H16, H⟩ := bind_some H
  refine cl ha (by rfl) (by kernel_rfl) (by rfl) (by rfl) (by rfl) (vinerylaw09_lent.walk w13 _ hM a1 ao2 cap2 f2 _ H16) ?_
  rintro _ w16 ⟨ao16, cap16, ps16, rfl, hp16, fO16, ne_i16, hc16, hMn⟩ a ha
  have o1 : Ok [] (blkL ao14 ++ (M)) w13.heap.size := Ok.nil _ _
  have o2 : Ok (LB ao16 ps16 ++ (blkL ao14 ++ (M))) (blkL ao14 ++ (M)) w13.heap.size := (Ok.app (fun x h => .inr (ne_i16 x h)) (Ok.refl _ _))
  have f1 := f1.chg hc16 o1 o2
  have f2 := f2.chg hc16 o1 o2
  have f14 := f14.chg hc16 o1 o2 (fun _ _ h => nomatch h) (fun _ h => mr (ml h))
  have p_i16_i14 : ∀ x ∈ LB ao16 ps16, x ∉ (blkL ao14) := fun x hx hy => absurd (hM x (ml hy)) (Nat.not_lt.2 (ne_i16 x hx))
  have p_i16_M : ∀ x ∈ LB ao16 ps16, x ∉ M := fun x hx hy => absurd (hM x (mr (hy))) (Nat.not_lt.2 (ne_i16 x hx))
  have e_i16 : ∀ x ∈ LB ao16 ps16, w.heap.size ≤ x := fun x hx => Nat.le_trans hC.size (ne_i16 x hx)
  have hM : MS (LB ao16 ps16 ++ (blkL ao14 ++ (M))) w16 := (MS.app (fun x h => hMn x (ml h)) (hM.chg hc16))
  have hC := hC.trans hc16 (Ok.nil _ _)
  refine seg ha 1 [(0, .slice ao1 a0.length cap1), (1, .slice ao2 a1.length cap2), (5, .bool t5), (7, .slice ao14 t13.length cap14), (8, .slice ao16 t16.length cap16)] (by kernel_rfl) fun a ha => ?_
  refine hK15 _ _ ?_; try clear hK15 K15
  refine wp_seq_k fun K17 hK17 => ?_
  refine wp_region_lit ?_
  refine seg ha 1 [(0, .slice ao1 a0.length cap1), (1, .slice ao2 a1.length cap2), (5, .bool t5), (7, .slice ao14 t13.length cap14), (8, .slice ao16 t16.length cap16), (34, .slice ao14 t13.length cap14)] (by kernel_rfl) fun a ha => ?_
  have hML : MS (LB ao16 ps16 ++ (M)) w16 := MS.rest hM (fun _ h => (List.mem_append.1 h).elim (fun h => ml h) (fun h => mr (mr (h))))
  have oL : Ok (LB ao16 ps16 ++ (M)) (LB ao16 ps16 ++ (blkL ao14 ++ (M))) w16.heap.size := (Ok.app (fun _ h => .inl (ml h)) (fun _ h => .inl (mr (mr (h)))))
  obtain ⟨t18, H18, H⟩ := bind_some H
  have hMo := hM
  refine cl ha (by rfl) (by kernel_rfl) (by rfl) (by rfl) (by rfl) (attr_Split.walk w16 _ hML t13 ao14 cap14 (Len.toRSl (T := 5) (M' := LB ao16 ps16 ++ (M)) f14 oL (fun x hx hm => (List.mem_append.1 hm).elim (fun h => (fun x hx hy => p_i16_i14 x hy hx) x hx h) (fun h => p_i14_M x hx h))) k _ H18) ?_
  rintro _ w18 ⟨ao19, cap19, rfl, f19, ne_i19, hc18, hMn⟩ a ha
  have o1 : Ok [] (LB ao16 ps16 ++ (blkL ao14 ++ (M))) w16.heap.size := Ok.nil _ _
  have o2 : Ok (blkL ao19 ++ (LB ao16 ps16 ++ (blkL ao14 ++ (M)))) (LB ao16 ps16 ++ (blkL ao14 ++ (M))) w16.heap.size := (Ok.app (fun x h => .inr (ne_i19 x h)) (Ok.refl _ _))
  have f1 := f1.chg hc18 o1 o2
  have f2 := f2.chg hc18 o1 o2
  have f14 := f14.chg hc18 o1 o2 (fun _ _ h => nomatch h) (fun _ h => mr (mr (ml h)))
  have fO16 := fO16.chg hc18 (fun _ _ h => nomatch h)
  have p_i19_i16 : ∀ x ∈ blkL ao19, x ∉ (LB ao16 ps16) := fun x hx hy => absurd (hM x (ml hy)) (Nat.not_lt.2 (ne_i19 x hx))
  have p_i19_i14 : ∀ x ∈ blkL ao19, x ∉ (blkL ao14) := fun x hx hy => absurd (hM x (mr (ml hy))) (Nat.not_lt.2 (ne_i19 x hx))
  have p_i19_M : ∀ x ∈ blkL ao19, x ∉ M := fun x hx hy => absurd (hM x (mr (mr (hy)))) (Nat.not_lt.2 (ne_i19 x hx))
  have e_i19 : ∀ x ∈ blkL ao19, w.heap.size ≤ x := fun x hx => Nat.le_trans hC.size (ne_i19 x hx)
  have hM : MS (blkL ao19 ++ (LB ao16 ps16 ++ (blkL ao14 ++ (M)))) w18 := (MS.app (fun x h => hMn x (ml h)) (hM.chg hc18))
  have hC := hC.trans hc18 (Ok.nil _ _)
  have f19 := own_up (M2 := blkL ao19 ++ (LB ao16 ps16 ++ (blkL ao14 ++ (M)))) f19 (fun y hy => (List.mem_append.1 hy).elim (fun h => .inl (ml h)) (fun h => .inr (hMo y h))) (fun _ h => ml h)
  refine seg ha 5 [(0, .slice ao1 a0.length cap1), (1, .slice ao2 a1.length cap2), (5, .bool t5), (7, .slice ao14 t13.length cap14), (8, .slice ao16 t16.length cap16), (9, .slice ao19 t18.1.length cap19), (10, .int .i64 t18.2)] (by kernel_rfl) fun a ha => ?_
  refine hK17 _ _ ?_; try clear hK17 K17
  refine wp_seq_k fun K20 hK20 => ?_
  refine wp_region_lit ?_
  refine seg ha 1 [(0, .slice ao1 a0.length cap1), (1, .slice ao2 a1.length cap2), (5, .bool t5), (7, .slice ao14 t13.length cap14), (8, .slice ao16 t16.length cap16), (9, .slice ao19 t18.1.length cap19), (10, .int .i64 t18.2), (39, .slice ao16 t16.length cap16)] (by kernel_rfl) fun a ha => ?_
  have hML : MS (blkL ao19 ++ (blkL ao14 ++ (M))) w18 := MS.rest hM (fun _ h => (List.mem_append.1 h).elim (fun h => ml h) (fun h => (List.mem_append.1 h).elim (fun h => mr (mr (ml h))) (fun h => mr (mr (mr (h))))))
  have oL : Ok (blkL ao19 ++ (blkL ao14 ++ (M))) (blkL ao19 ++ (LB ao16 ps16 ++ (blkL ao14 ++ (M)))) w18.heap.size := (Ok.app (fun _ h => .inl (ml h)) (fun _ h => .inl (mr (mr (h)))))
  obtain ⟨t21, H21, H⟩ := bind_some H
  refine cl ha (by rfl) (by kernel_rfl) (by rfl) (by rfl) (by rfl) (attr_Join.walk w18 _ hML t16 ao16 cap16 (LentAt.rd fO16 hp16 (blkL ao19 ++ (blkL ao14 ++ (M))) (fun x hx hm => (List.mem_append.1 hm).elim (fun h => (fun x hx hy => p_i19_i16 x hy hx) x hx h) (fun h => (List.mem_append.1 h).elim (fun h => p_i16_i14 x hx h) (fun h => p_i16_M x hx h)))) k _ H21) ?_
  rintro _ w21 ⟨ao22, cap22, rfl, f22, ne_i22, hc21, hMn⟩ a ha
  have o1 : Ok [] (blkL ao19 ++ (LB ao16 ps16 ++ (blkL ao14 ++ (M)))) w18.heap.size := Ok.nil _ _
  have o2 : Ok (blkL ao22 ++ (blkL ao19 ++ (LB ao16 ps16 ++ (blkL ao14 ++ (M))))) (blkL ao19 ++ (LB ao16 ps16 ++ (blkL ao14 ++ (M)))) w18.heap.size := (Ok.app (fun x h => .inr (ne_i22 x h)) (Ok.refl _ _))
  have f1 := f1.chg hc21 o1 o2
  have f2 := f2.chg hc21 o1 o2
  have f14 := f14.chg hc21 o1 o2 (fun _ _ h => nomatch h) (fun _ h => mr (mr (mr (ml h))))
  have f19 := f19.chg hc21 o1 o2 (fun _ _ h => nomatch h) (fun _ h => mr (ml h))
  have fO16 := fO16.chg hc21 (fun _ _ h => nomatch h)
  have p_i22_i19 : ∀ x ∈ blkL ao22, x ∉ (blkL ao19) := fun x hx hy => absurd (hM x (ml hy)) (Nat.not_lt.2 (ne_i22 x hx))
  have p_i22_i16 : ∀ x ∈ blkL ao22, x ∉ (LB ao16 ps16) := fun x hx hy => absurd (hM x (mr (ml hy))) (Nat.not_lt.2 (ne_i22 x hx))
  have p_i22_i14 : ∀ x ∈ blkL ao22, x ∉ (blkL ao14) := fun x hx hy => absurd (hM x (mr (mr (ml hy)))) (Nat.not_lt.2 (ne_i22 x hx))
  have p_i22_M : ∀ x ∈ blkL ao22, x ∉ M := fun x hx hy => absurd (hM x (mr (mr (mr (hy))))) (Nat.not_lt.2 (ne_i22 x hx))
  have e_i22 : ∀ x ∈ blkL ao22, w.heap.size ≤ x := fun x hx => Nat.le_trans hC.size (ne_i22 x hx)
  have hM : MS (blkL ao22 ++ (blkL ao19 ++ (LB ao16 ps16 ++ (blkL ao14 ++ (M))))) w21 := (MS.app (fun x h => hMn x (ml h)) (hM.chg hc21))
  have hC := hC.trans hc21 (Ok.nil _ _)
  have f22 := Own.re (M' := blkL ao22 ++ (blkL ao19 ++ (LB ao16 ps16 ++ (blkL ao14 ++ (M))))) (fun _ _ _ _ _ h => h) f22 (fun _ h => ml h)
  refine seg ha 5 [(0, .slice ao1 a0.length cap1), (1, .slice ao2 a1.length cap2), (5, .bool t5), (7, .slice ao14 t13.length cap14), (8, .slice ao16 t16.length cap16), (9, .slice ao19 t18.1.length cap19), (10, .int .i64 t18.2), (11, .slice ao22 t21.1.length cap22), (12, .int .i64 t21.2)] (by kernel_rfl) fun a ha => ?_
  refine hK20 _ _ ?_; try clear hK20 K20
  refine wp_seq_k fun K23 hK23 => ?_
  refine wp_region_lit ?_
  obtain ⟨s24, H24, H⟩ := bind_some H
  have J24 : ∀ (a : Act) (w24 : World), Has a Tryd.f8.ntmps [(0, .slice ao1 a0.length cap1), (1, .slice ao2 a1.length cap2), (5, .bool t5), (7, .slice ao14 t13.length cap14), (8, .slice ao16 t16.length cap16), (9, .slice ao19 t18.1.length cap19), (10, .int .i64 t18.2), (11, .slice ao22 t21.1.length cap22), (12, .int .i64 t21.2), (13, .bool s24)] → (RSl (rInt .u8) 5 w24 (blkL ao22 ++ (blkL ao19 ++ (LB ao16 ps16 ++ (blkL ao14 ++ (M))))) ao1 cap1 a0) → (RSl rS_api_Raw 61 w24 (blkL ao22 ++ (blkL ao19 ++ (LB ao16 ps16 ++ (blkL ao14 ++ (M))))) ao2 cap2 a1) → (Len w24 (blkL ao22 ++ (blkL ao19 ++ (LB ao16 ps16 ++ (blkL ao14 ++ (M))))) ao14 cap14 t13) → (Own rS_api_Raw 61 w24 (blkL ao22 ++ (blkL ao19 ++ (LB ao16 ps16 ++ (blkL ao14 ++ (M))))) ao19 cap19 t18.1) → (Own (rInt .u8) 5 w24 (blkL ao22 ++ (blkL ao19 ++ (LB ao16 ps16 ++ (blkL ao14 ++ (M))))) ao22 cap22 t21.1) → (LentAt w24 ao16 cap16 ps16) → (Chg [] w w24) → (MS (blkL ao22 ++ (blkL ao19 ++ (LB ao16 ps16 ++ (blkL ao14 ++ (M))))) w24) → K23 a w24 := by
   intro a w24 ha f1 f2 f14 f19 f22 fO16 hC hM
   refine hK23 _ _ ?_; try clear hK23 K23
   refine wp_seq_k fun K25 hK25 => ?_
   refine wp_region_lit ?_
   refine seg ha 1 [(0, .slice ao1 a0.length cap1), (1, .slice ao2 a1.length cap2), (5, .bool t5), (8, .slice ao16 t16.length cap16), (9, .slice ao19 t18.1.length cap19), (10, .int .i64 t18.2), (11, .slice ao22 t21.1.length cap22), (12, .int .i64 t21.2), (13, .bool s24), (51, .slice ao14 t13.length cap14)] (by kernel_rfl) fun a ha => ?_
   refine bsl (vals := ([.slice ao14 t13.length cap14] : List Value)) (T := 25) ha rfl (([.slice ao14 t13.length cap14] : List Value) ++ ([] : List Value)) (fun w => by kernel_rfl) rfl rfl rfl fun a w26 g27 hN28 ha => ?_
   have hgr29 : ∀ x ∈ (blkL ao22 ++ (blkL ao19 ++ (LB ao16 ps16 ++ (blkL ao14 ++ (M))))), x ≠ g27 := fun x h e => absurd (hM x h) (Nat.not_lt.2 (by rw [e]; exact hN28.ge))
   have o1 : Ok [] (blkL ao22 ++ (blkL ao19 ++ (LB ao16 ps16 ++ (blkL ao14 ++ (M))))) w24.heap.size := Ok.nil _ _
   have o2 : Ok (blkL ao22 ++ (blkL ao19 ++ (LB ao16 ps16 ++ (blkL ao14 ++ (M))))) (blkL ao22 ++ (blkL ao19 ++ (LB ao16 ps16 ++ (blkL ao14 ++ (M))))) w24.heap.size := (Ok.refl _ _)
   have f1 := f1.chg hN28.chg o1 o2
   have f2 := f2.chg hN28.chg o1 o2
   have f19 := f19.chg hN28.chg o1 o2 (fun _ _ h => nomatch h) (fun _ h => mr (ml h))
   have f22 := f22.chg hN28.chg o1 o2 (fun _ _ h => nomatch h) (fun _ h => ml h)
   have f14 := f14.chg hN28.chg o1 o2 (fun _ _ h => nomatch h) (fun _ h => mr (mr (mr (ml h))))
   have fO16 := fO16.chg hN28.chg (fun _ _ h => nomatch h)
   have hM : MS (blkL ao22 ++ (blkL ao19 ++ (LB ao16 ps16 ++ (blkL ao14 ++ (M))))) w26 := (hM.chg hN28.chg)
   have hC := hC.trans hN28.chg (Ok.nil _ _)
   have hB29 : Box w26 g27 ([.slice ao14 t13.length cap14] : List Value) := hN28.box
   refine cl ha (by rfl) (by kernel_rfl) (by rfl) (by rfl) (by rfl) (Owned.call w26 _ hM g27 [(ao14, t13.length, cap14)] (blkL ao14) (List.forall_mem_cons.2 ⟨f14.rowOk, (fun _ h => nomatch h)⟩) (List.Pairwise.cons (fun _ h => nomatch h) List.Pairwise.nil) (List.forall_mem_cons.2 ⟨(fun h => hgr29 _ (mr (mr (mr (ml h)))) rfl), (fun _ h => nomatch h)⟩) hB29 (Nat.le_of_ble_eq_true rfl) (List.forall_mem_cons.2 ⟨(fun _ h => h), (fun _ h => nomatch h)⟩)) ?_
   rintro _ w30 ⟨rfl, hc30, _⟩ a ha
   have o1 : Ok (blkL ao14) (blkL ao22 ++ (blkL ao19 ++ (LB ao16 ps16 ++ (blkL ao14 ++ (M))))) w26.heap.size := (fun _ h => .inl (mr (mr (mr (ml h)))))
   have o2 : Ok (blkL ao22 ++ (blkL ao19 ++ (LB ao16 ps16 ++ (M)))) (blkL ao22 ++ (blkL ao19 ++ (LB ao16 ps16 ++ (blkL ao14 ++ (M))))) w26.heap.size := (Ok.app (fun _ h => .inl (ml h)) (Ok.app (fun _ h => .inl (mr (ml h))) (Ok.app (fun _ h => .inl (mr (mr (ml h)))) (fun _ h => .inl (mr (mr (mr (mr (h)))))))))
   have f1 := f1.chg hc30 o1 o2
   have f2 := f2.chg hc30 o1 o2
   have f19 := f19.chg hc30 o1 o2 p_i19_i14 (fun _ h => mr (ml h))
   have f22 := f22.chg hc30 o1 o2 p_i22_i14 (fun _ h => ml h)
   have fO16 := fO16.chg hc30 p_i16_i14
   have hM : MS (blkL ao22 ++ (blkL ao19 ++ (LB ao16 ps16 ++ (M)))) w30 := (MS.app (fun x h => hM.chg hc30 x (ml h)) (MS.app (fun x h => hM.chg hc30 x (mr (ml h))) (MS.app (fun x h => hM.chg hc30 x (mr (mr (ml h)))) (fun x h => hM.chg hc30 x (mr (mr (mr (mr (h)))))))))
   have hC := hC.trans hc30 (fun x h => .inr (e_i14 x h))
   refine hK25 _ _ ?_; try clear hK25 K25
   refine wp_seq_k fun K31 hK31 => ?_
   refine wp_region_lit ?_
   refine seg ha 1 [(0, .slice ao1 a0.length cap1), (1, .slice ao2 a1.length cap2), (5, .bool t5), (9, .slice ao19 t18.1.length cap19), (10, .int .i64 t18.2), (11, .slice ao22 t21.1.length cap22), (12, .int .i64 t21.2), (13, .bool s24), (54, .slice ao16 t16.length cap16)] (by kernel_rfl) fun a ha => ?_
   obtain ⟨t32, H32, H⟩ := bind_some H
   refine cl ha (by rfl) (by kernel_rfl) (by rfl) (by rfl) (by rfl) (vinerylaw09_spoil.walk w30 _ hM ao16 cap16 ps16 t16 hp16 fO16 H32) ?_
   rintro _ w32 ⟨rfl, hc32, hMn⟩ a ha
   have o1 : Ok (LB ao16 ps16) (blkL ao22 ++ (blkL ao19 ++ (LB ao16 ps16 ++ (M)))) w30.heap.size := (fun _ h => .inl (mr (mr (ml h))))
   have o2 : Ok (blkL ao22 ++ (blkL ao19 ++ (LB ao16 ps16 ++ (M)))) (blkL ao22 ++ (blkL ao19 ++ (LB ao16 ps16 ++ (M)))) w30.heap.size := (Ok.refl _ _)
   have f1 := f1.chg hc32 o1 o2
   have f2 := f2.chg hc32 o1 o2
   have f19 := f19.chg hc32 o1 o2 p_i19_i16 (fun _ h => mr (ml h))
   have f22 := f22.chg hc32 o1 o2 p_i22_i16 (fun _ h => ml h)
   have hM : MS (blkL ao22 ++ (blkL ao19 ++ (LB ao16 ps16 ++ (M)))) w32 := (hM.chg hc32)
   have hC := hC.trans hc32 (fun x h => .inr (e_i16 x h))
   refine hK31 _ _ ?_; try clear hK31 K31
   refine wp_seq_k fun K33 hK33 => ?_
   refine wp_region_lit ?_
   refine seg ha 1 [(1, .slice ao2 a1.length cap2), (5, .bool t5), (9, .slice ao19 t18.1.length cap19), (10, .int .i64 t18.2), (11, .slice ao22 t21.1.length cap22), (12, .int .i64 t21.2), (13, .bool s24), (57, .slice ao1 a0.length cap1)] (by kernel_rfl) fun a ha => ?_
   obtain ⟨t34, H34, H⟩ := bind_some H
   refine cl ha (by rfl) (by kernel_rfl) (by rfl) (by rfl) (by rfl) (vineryref09_Split.walk w32 _ hM a0 ao1 cap1 f1 k _ H34) ?_
   rintro _ w34 ⟨ao35, cap35, rfl, f35, ne_i35, hc34, hMn⟩ a ha
   have o1 : Ok [] (blkL ao22 ++ (blkL ao19 ++ (LB ao16 ps16 ++ (M)))) w32.heap.size := Ok.nil _ _
   have o2 : Ok (blkL ao35 ++ (blkL ao22 ++ (blkL ao19 ++ (LB ao16 ps16 ++ (M))))) (blkL ao22 ++ (blkL ao19 ++ (LB ao16 ps16 ++ (M)))) w32.heap.size := (Ok.app (fun x h => .inr (ne_i35 x h)) (Ok.refl _ _))
   have f2 := f2.chg hc34 o1 o2
   have f19 := f19.chg hc34 o1 o2 (fun _ _ h => nomatch h) (fun _ h => mr (mr (ml h)))
   have f22 := f22.chg hc34 o1 o2 (fun _ _ h => nomatch h) (fun _ h => mr (ml h))
   have f1 := f1.chg hc34 o1 o2
   have p_i35_i22 : ∀ x ∈ blkL ao35, x ∉ (blkL ao22) := fun x hx hy => absurd (hM x (ml hy)) (Nat.not_lt.2 (ne_i35 x hx))
   have p_i35_i19 : ∀ x ∈ blkL ao35, x ∉ (blkL ao19) := fun x hx hy => absurd (hM x (mr (ml hy))) (Nat.not_lt.2 (ne_i35 x hx))
   have p_i35_i16 : ∀ x ∈ blkL ao35, x ∉ (LB ao16 ps16) := fun x hx hy => absurd (hM x (mr (mr (ml hy)))) (Nat.not_lt.2 (ne_i35 x hx))
   have p_i35_M : ∀ x ∈ blkL ao35, x ∉ M := fun x hx hy => absurd (hM x (mr (mr (mr (hy))))) (Nat.not_lt.2 (ne_i35 x hx))
   have e_i35 : ∀ x ∈ blkL ao35, w.heap.size ≤ x := fun x hx => Nat.le_trans hC.size (ne_i35 x hx)
   have hM : MS (blkL ao35 ++ (blkL ao22 ++ (blkL ao19 ++ (LB ao16 ps16 ++ (M))))) w34 := (MS.app (fun x h => hMn x (ml h)) (hM.chg hc34))
   have hC := hC.trans hc34 (Ok.nil _ _)
   refine seg ha 5 [(1, .slice ao2 a1.length cap2), (5, .bool t5), (9, .slice ao19 t18.1.length cap19), (10, .int .i64 t18.2), (11, .slice ao22 t21.1.length cap22), (12, .int .i64 t21.2), (13, .bool s24), (14, .slice ao35 t34.1.length cap35), (15, .int .i64 t34.2)] (by kernel_rfl) fun a ha => ?_
   refine hK33 _ _ ?_; try clear hK33 K33
   refine wp_seq_k fun K36 hK36 => ?_
   refine wp_region_lit ?_
   refine seg ha 1 [(5, .bool t5), (9, .slice ao19 t18.1.length cap19), (10, .int .i64 t18.2), (11, .slice ao22 t21.1.length cap22), (12, .int .i64 t21.2), (13, .bool s24), (14, .slice ao35 t34.1.length cap35), (15, .int .i64 t34.2), (62, .slice ao2 a1.length cap2)] (by kernel_rfl) fun a ha => ?_
   obtain ⟨t37, H37, H⟩ := bind_some H
   refine cl ha (by rfl) (by kernel_rfl) (by rfl) (by rfl) (by rfl) (vineryref09_Join.walk w34 _ hM a1 ao2 cap2 f2 k _ H37) ?_
   rintro _ w37 ⟨ao38, cap38, rfl, f38, ne_i38, hc37, hMn⟩ a ha
   have o1 : Ok [] (blkL ao35 ++ (blkL ao22 ++ (blkL ao19 ++ (LB ao16 ps16 ++ (M))))) w34.heap.size := Ok.nil _ _
   have o2 : Ok (blkL ao38 ++ (blkL ao35 ++ (blkL ao22 ++ (blkL ao19 ++ (LB ao16 ps16 ++ (M)))))) (blkL ao35 ++ (blkL ao22 ++ (blkL ao19 ++ (LB ao16 ps16 ++ (M))))) w34.heap.size := (Ok.app (fun x h => .inr (ne_i38 x h)) (Ok.refl _ _))
   have f19 := f19.chg hc37 o1 o2 (fun _ _ h => nomatch h) (fun _ h => mr (mr (mr (ml h))))
   have f22 := f22.chg hc37 o1 o2 (fun _ _ h => nomatch h) (fun _ h => mr (mr (ml h)))
   have f35 := f35.chg hc37 o1 o2 (fun _ _ h => nomatch h) (fun _ h => mr (ml h))
   have f2 := f2.chg hc37 o1 o2
   have p_i38_i35 : ∀ x ∈ blkL ao38, x ∉ (blkL ao35) := fun x hx hy => absurd (hM x (ml hy)) (Nat.not_lt.2 (ne_i38 x hx))
   have p_i38_i22 : ∀ x ∈ blkL ao38, x ∉ (blkL ao22) := fun x hx hy => absurd (hM x (mr (ml hy))) (Nat.not_lt.2 (ne_i38 x hx))
   have p_i38_i19 : ∀ x ∈ blkL ao38, x ∉ (blkL ao19) := fun x hx hy => absurd (hM x (mr (mr (ml hy)))) (Nat.not_lt.2 (ne_i38 x hx))
   have p_i38_i16 : ∀ x ∈ blkL ao38, x ∉ (LB ao16 ps16) := fun x hx hy => absurd (hM x (mr (mr (mr (ml hy))))) (Nat.not_lt.2 (ne_i38 x hx))
   have p_i38_M : ∀ x ∈ blkL ao38, x ∉ M := fun x hx hy => absurd (hM x (mr (mr (mr (mr (hy)))))) (Nat.not_lt.2 (ne_i38 x hx))
   have e_i38 : ∀ x ∈ blkL ao38, w.heap.size ≤ x := fun x hx => Nat.le_trans hC.size (ne_i38 x hx)
   have hM : MS (blkL ao38 ++ (blkL ao35 ++ (blkL ao22 ++ (blkL ao19 ++ (LB ao16 ps16 ++ (M)))))) w37 := (MS.app (fun x h => hMn x (ml h)) (hM.chg hc37))
   have hC := hC.trans hc37 (Ok.nil _ _)
   refine seg ha 5 [(5, .bool t5), (9, .slice ao19 t18.1.length cap19), (10, .int .i64 t18.2), (11, .slice ao22 t21.1.length cap22), (12, .int .i64 t21.2), (13, .bool s24), (14, .slice ao35 t34.1.length cap35), (15, .int .i64 t34.2), (16, .slice ao38 t37.1.length cap38), (17, .int .i64 t37.2)] (by kernel_rfl) fun a ha => ?_
   refine hK36 _ _ ?_; try clear hK36 K36
   refine wp_seq_k fun K39 hK39 => ?_
   refine wp_region_lit ?_
   obtain ⟨s40, H40, H⟩ := bind_some H
   have J40 : ∀ (a : Act) (w40 : World), Has a Tryd.f8.ntmps [(4, .bool s40)] → (Chg [] w w40) → (MS (M) w40) → K39 a w40 := by
    intro a w40 ha hC hM
    refine hK39 _ _ ?_; try clear hK39 K39
    refine wp_ret ?_
    try simp only [Exit.then, Exit.inBlock]
    obtain rfl := Option.some.inj H
    refine rt1 ha rfl rfl ?_
    exact ⟨rfl, hC, hM⟩
   have H := H40
   refine seg ha 2 [(67, .bool t5), (9, .slice ao19 t18.1.length cap19), (10, .int .i64 t18.2), (11, .slice ao22 t21.1.length cap22), (12, .int .i64 t21.2), (13, .bool s24), (14, .slice ao35 t34.1.length cap35), (15, .int .i64 t34.2), (16, .slice ao38 t37.1.length cap38), (17, .int .i64 t37.2)] (by kernel_rfl) fun a ha => ?_
   rcases Bool.eq_false_or_eq_true (t5) with hb41 | hb41
   ·have ha := ha.lit hb41
    have H := ite_t hb41 H
    refine sgh ha 3 [2, 3, 0] [(70, .bool s24), (9, .slice ao19 t18.1.length cap19), (10, .int .i64 t18.2), (11, .slice ao22 t21.1.length cap22), (12, .int .i64 t21.2), (14, .slice ao35 t34.1.length cap35), (15, .int .i64 t34.2), (16, .slice ao38 t37.1.length cap38), (17, .int .i64 t37.2)] (by kernel_rfl) fun a ha => ?_
    rcases Bool.eq_false_or_eq_true (s24) with hb42 | hb42
    ·have ha := ha.lit hb42
     have H := ite_t hb42 H
     refine sgh ha 2 [2, 2] [(10, .int .i64 t18.2), (11, .slice ao22 t21.1.length cap22), (12, .int .i64 t21.2), (15, .int .i64 t34.2), (16, .slice ao38 t37.1.length cap38), (17, .int .i64 t37.2), (70, .bool true), (71, .slice ao19 t18.1.length cap19), (72, .slice ao35 t34.1.length cap35)] (by kernel_rfl) fun a ha => ?_
     have fz := f19.toRSl (M' := blkL ao38 ++ (blkL ao35 ++ (blkL ao22 ++ (LB ao16 ps16 ++ (M))))) (Ok.app (fun _ h => .inl (ml h)) (Ok.app (fun _ h => .inl (mr (ml h))) (Ok.app (fun _ h => .inl (mr (mr (ml h)))) (fun _ h => .inl (mr (mr (mr (mr (h))))))))) (fun x hx hm => (List.mem_append.1 hm).elim (fun h => (fun x hx hy => p_i38_i19 x hy hx) x hx h) (fun h => (List.mem_append.1 h).elim (fun h => (fun x hx hy => p_i35_i19 x hy hx) x hx h) (fun h => (List.mem_append.1 h).elim (fun h => (fun x hx hy => p_i22_i19 x hy hx) x hx h) (fun h => (List.mem_append.1 h).elim (fun h => p_i19_i16 x hx h) (fun h => p_i19_M x hx h)))))
     have o1 : Ok [] (blkL ao38 ++ (blkL ao35 ++ (blkL ao22 ++ (blkL ao19 ++ (LB ao16 ps16 ++ (M)))))) w37.heap.size := Ok.nil _ _
     have o2 : Ok (blkL ao38 ++ (blkL ao35 ++ (blkL ao22 ++ (LB ao16 ps16 ++ (M))))) (blkL ao38 ++ (blkL ao35 ++ (blkL ao22 ++ (blkL ao19 ++ (LB ao16 ps16 ++ (M)))))) w37.heap.size := (Ok.app (fun _ h => .inl (ml h)) (Ok.app (fun _ h => .inl (mr (ml h))) (Ok.app (fun _ h => .inl (mr (mr (ml h)))) (fun _ h => .inl (mr (mr (mr (mr (h)))))))))
     have f22 := f22.chg (Chg.refl [] _) o1 o2 (fun _ _ h => nomatch h) (fun _ h => mr (mr (ml h)))
     have f38 := f38.chg (Chg.refl [] _) o1 o2 (fun _ _ h => nomatch h) (fun _ h => ml h)
     have f35 := f35.chg (Chg.refl [] _) o1 o2 (fun _ _ h => nomatch h) (fun _ h => mr (ml h))
     have hM : MS (blkL ao38 ++ (blkL ao35 ++ (blkL ao22 ++ (LB ao16 ps16 ++ (M))))) w37 := (MS.app (fun x h => hM.chg (Chg.refl [] _) x (ml h)) (MS.app (fun x h => hM.chg (Chg.refl [] _) x (mr (ml h))) (MS.app (fun x h => hM.chg (Chg.refl [] _) x (mr (mr (ml h)))) (fun x h => hM.chg (Chg.refl [] _) x (mr (mr (mr (mr (h)))))))))
     have f19 := fz
     have fz := f35.toRSl (M' := blkL ao38 ++ (blkL ao22 ++ (LB ao16 ps16 ++ (M)))) (Ok.app (fun _ h => .inl (ml h)) (fun _ h => .inl (mr (mr (h))))) (fun x hx hm => (List.mem_append.1 hm).elim (fun h => (fun x hx hy => p_i38_i35 x hy hx) x hx h) (fun h => (List.mem_append.1 h).elim (fun h => p_i35_i22 x hx h) (fun h => (List.mem_append.1 h).elim (fun h => p_i35_i16 x hx h) (fun h => p_i35_M x hx h))))
     have o1 : Ok [] (blkL ao38 ++ (blkL ao35 ++ (blkL ao22 ++ (LB ao16 ps16 ++ (M))))) w37.heap.size := Ok.nil _ _
     have o2 : Ok (blkL ao38 ++ (blkL ao22 ++ (LB ao16 ps16 ++ (M)))) (blkL ao38 ++ (blkL ao35 ++ (blkL ao22 ++ (LB ao16 ps16 ++ (M))))) w37.heap.size := (Ok.app (fun _ h => .inl (ml h)) (fun _ h => .inl (mr (mr (h)))))
     have f22 := f22.chg (Chg.refl [] _) o1 o2 (fun _ _ h => nomatch h) (fun _ h => mr (ml h))
     have f38 := f38.chg (Chg.refl [] _) o1 o2 (fun _ _ h => nomatch h) (fun _ h => ml h)
     have f19 := f19.chg (Chg.refl [] _) o1 o2
     have hM : MS (blkL ao38 ++ (blkL ao22 ++ (LB ao16 ps16 ++ (M)))) w37 := (MS.app (fun x h => hM.chg (Chg.refl [] _) x (ml h)) (fun x h => hM.chg (Chg.refl [] _) x (mr (mr (h)))))
     have f35 := fz
     obtain ⟨t43, H43, H⟩ := bind_some H
     refine cl ha (by rfl) (by kernel_rfl) (by rfl) (by rfl) (by rfl) (vineryref09_SameRaws.walk w37 _ hM t18.1 ao19 cap19 f19 t34.1 ao35 cap35 f35 k _ H43) ?_
     rintro _ w43 ⟨rfl, hc43, hMn⟩ a ha
     have o1 : Ok [] (blkL ao38 ++ (blkL ao22 ++ (LB ao16 ps16 ++ (M)))) w37.heap.size := Ok.nil _ _
     have o2 : Ok (blkL ao38 ++ (blkL ao22 ++ (LB ao16 ps16 ++ (M)))) (blkL ao38 ++ (blkL ao22 ++ (LB ao16 ps16 ++ (M)))) w37.heap.size := (Ok.refl _ _)
     have f22 := f22.chg hc43 o1 o2 (fun _ _ h => nomatch h) (fun _ h => mr (ml h))
     have f38 := f38.chg hc43 o1 o2 (fun _ _ h => nomatch h) (fun _ h => ml h)
     have f19 := f19.chg hc43 o1 o2
     have f35 := f35.chg hc43 o1 o2
     have hM : MS (blkL ao38 ++ (blkL ao22 ++ (LB ao16 ps16 ++ (M)))) w43 := (hM.chg hc43)
     have hC := hC.trans hc43 (Ok.nil _ _)
     refine sgh ha 2 [3, 0] [(75, .bool t43), (10, .int .i64 t18.2), (11, .slice ao22 t21.1.length cap22), (12, .int .i64 t21.2), (15, .int .i64 t34.2), (16, .slice ao38 t37.1.length cap38), (17, .int .i64 t37.2)] (by kernel_rfl) fun a ha => ?_
     rcases Bool.eq_false_or_eq_true (t43) with hb44 | hb44
     ·have ha := ha.lit hb44
      have H := ite_t hb44 H
      refine sgh ha 5 [2, 2, 2, 3, 0] [(80, .bool (t18.2 == t34.2)), (11, .slice ao22 t21.1.length cap22), (12, .int .i64 t21.2), (16, .slice ao38 t37.1.length cap38), (17, .int .i64 t37.2)] (by kernel_rfl) fun a ha => ?_
      rcases Bool.eq_false_or_eq_true (t18.2 == t34.2) with hb45 | hb45
      ·have ha := ha.lit hb45
       have H := ite_t hb45 H
       refine sgh ha 1 [2] [(12, .int .i64 t21.2), (16, .slice ao38 t37.1.length cap38), (17, .int .i64 t37.2), (80, .bool true), (81, .slice ao22 t21.1.length cap22)] (by kernel_rfl) fun a ha => ?_
       refine cvs ha rfl (by kernel_rfl) (by kernel_rfl) (by kernel_rfl) rfl rfl rfl (Own.toRSl (M' := []) f22 (Ok.nil _ _) (fun _ _ h => nomatch h)) fun a ha => ?_
       refine sgh ha 1 [2] [(12, .int .i64 t21.2), (17, .int .i64 t37.2), (80, .bool true), (82, .string (bstr (b2s t21.1))), (83, .slice ao38 t37.1.length cap38)] (by kernel_rfl) fun a ha => ?_
       refine cvs ha rfl (by kernel_rfl) (by kernel_rfl) (by kernel_rfl) rfl rfl rfl (Own.toRSl (M' := []) f38 (Ok.nil _ _) (fun _ _ h => nomatch h)) fun a ha => ?_
       refine sgh ha 3 [2, 3, 0] [(87, .bool ((bstr (b2s t21.1)).toList == (bstr (b2s t37.1)).toList)), (12, .int .i64 t21.2), (17, .int .i64 t37.2)] (by kernel_rfl) fun a ha => ?_
       rcases Bool.eq_false_or_eq_true ((bstr (b2s t21.1)).toList == (bstr (b2s t37.1)).toList) with hb46 | hb46
       ·have ha := ha.lit hb46
        have H := ite_t hb46 H
        refine sgh ha 5 [2, 2, 2, 3, 0] [(4, .bool (t21.2 == t37.2))] (by kernel_rfl) fun a ha => ?_
        obtain rfl := Option.some.inj H
        have hM : MS (M) w43 := (fun x h => hM.chg (Chg.refl [] _) x (mr (mr (mr (h)))))
        exact J40 _ _ (ha.sel (by kernel_rfl)) hC hM
       ·have ha := ha.lit hb46
        have H := ite_f hb46 H
        refine sgh ha 5 [1, 1, 1, 4, 0] [(4, .bool false)] (by kernel_rfl) fun a ha => ?_
        obtain rfl := Option.some.inj H
        have hM : MS (M) w43 := (fun x h => hM.chg (Chg.refl [] _) x (mr (mr (mr (h)))))
        exact J40 _ _ (ha.sel (by kernel_rfl)) hC hM
      ·have ha := ha.lit hb45
       have H := ite_f hb45 H
       refine sgh ha 12 [1, 1, 1, 1, 1, 4, 0, 1, 1, 1, 4, 0] [(4, .bool false)] (by kernel_rfl) fun a ha => ?_
       obtain rfl := Option.some.inj H
       have hM : MS (M) w43 := (fun x h => hM.chg (Chg.refl [] _) x (mr (mr (mr (h)))))
       exact J40 _ _ (ha.sel (by kernel_rfl)) hC hM
     ·have ha := ha.lit hb44
      have H := ite_f hb44 H
      refine sgh ha 17 [1, 1, 1, 4, 0, 1, 1, 1, 1, 1, 4, 0, 1, 1, 1, 4, 0] [(4, .bool false)] (by kernel_rfl) fun a ha => ?_
      obtain rfl := Option.some.inj H
      have hM : MS (M) w43 := (fun x h => hM.chg (Chg.refl [] _) x (mr (mr (mr (h)))))
      exact J40 _ _ (ha.sel (by kernel_rfl)) hC hM
    ·have ha := ha.lit hb42
     have H := ite_f hb42 H
     refine sgh ha 22 [1, 1, 1, 4, 0, 1, 1, 1, 4, 0, 1, 1, 1, 1, 1, 4, 0, 1, 1, 1, 4, 0] [(4, .bool false)] (by kernel_rfl) fun a ha => ?_
     obtain rfl := Option.some.inj H
     have hM : MS (M) w37 := (fun x h => hM.chg (Chg.refl [] _) x (mr (mr (mr (mr (mr (h)))))))
     exact J40 _ _ (ha.sel (by kernel_rfl)) hC hM
   ·have ha := ha.lit hb41
    have H := ite_f hb41 H
    refine sgh ha 25 [1, 4, 0, 1, 1, 1, 4, 0, 1, 1, 1, 4, 0, 1, 1, 1, 1, 1, 4, 0, 1, 1, 1, 4, 0] [(4, .bool false)] (by kernel_rfl) fun a ha => ?_
    obtain rfl := Option.some.inj H
    have hM : MS (M) w37 := (fun x h => hM.chg (Chg.refl [] _) x (mr (mr (mr (mr (mr (h)))))))
    exact J40 _ _ (ha.sel (by kernel_rfl)) hC hM
  have H := H24
  refine seg ha 2 [(0, .slice ao1 a0.length cap1), (1, .slice ao2 a1.length cap2), (5, .bool t5), (7, .slice ao14 t13.length cap14), (8, .slice ao16 t16.length cap16), (9, .slice ao19 t18.1.length cap19), (10, .int .i64 t18.2), (11, .slice ao22 t21.1.length cap22), (12, .int .i64 t21.2), (43, .slice ao14 t13.length cap14), (44, .slice ao1 a0.length cap1)] (by kernel_rfl) fun a ha => ?_
  obtain ⟨t47, H47, H⟩ := bind_some H
  refine cl ha (by rfl) (by kernel_rfl) (by rfl) (by rfl) (by rfl) (Kept.walk w21 _ hM t13 ao14 cap14 f14 a0 ao1 cap1 f1 _ H47) ?_
  rintro _ w47 ⟨rfl, hc47, hMn⟩ a ha
  have o1 : Ok [] (blkL ao22 ++ (blkL ao19 ++ (LB ao16 ps16 ++ (blkL ao14 ++ (M))))) w21.heap.size := Ok.nil _ _
  have o2 : Ok (blkL ao22 ++ (blkL ao19 ++ (LB ao16 ps16 ++ (blkL ao14 ++ (M))))) (blkL ao22 ++ (blkL ao19 ++ (LB ao16 ps16 ++ (blkL ao14 ++ (M))))) w21.heap.size := (Ok.refl _ _)
  have f1 := f1.chg hc47 o1 o2
  have f2 := f2.chg hc47 o1 o2
  have f14 := f14.chg hc47 o1 o2 (fun _ _ h => nomatch h) (fun _ h => mr (mr (mr (ml h))))
  have f19 := f19.chg hc47 o1 o2 (fun _ _ h => nomatch h) (fun _ h => mr (ml h))
  have f22 := f22.chg hc47 o1 o2 (fun _ _ h => nomatch h) (fun _ h => ml h)
  have fO16 := fO16.chg hc47 (fun _ _ h => nomatch h)
  have hM : MS (blkL ao22 ++ (blkL ao19 ++ (LB ao16 ps16 ++ (blkL ao14 ++ (M))))) w47 := (hM.chg hc47)
  have hC := hC.trans hc47 (Ok.nil _ _)
  refine seg ha 1 [(46, .bool t47), (0, .slice ao1 a0.length cap1), (1, .slice ao2 a1.length cap2), (5, .bool t5), (7, .slice ao14 t13.length cap14), (8, .slice ao16 t16.length cap16), (9, .slice ao19 t18.1.length cap19), (10, .int .i64 t18.2), (11, .slice ao22 t21.1.length cap22), (12, .int .i64 t21.2)] (by kernel_rfl) fun a ha => ?_
  rcases Bool.eq_false_or_eq_true (t47) with hb48 | hb48
  ·have ha := ha.lit hb48
   have H := ite_t hb48 H
   refine sgh ha 2 [2, 2] [(0, .slice ao1 a0.length cap1), (1, .slice ao2 a1.length cap2), (5, .bool t5), (7, .slice ao14 t13.length cap14), (8, .slice ao16 t16.length cap16), (9, .slice ao19 t18.1.length cap19), (10, .int .i64 t18.2), (11, .slice ao22 t21.1.length cap22), (12, .int .i64 t21.2), (46, .bool true), (47, .slice ao16 t16.length cap16), (48, .slice ao2 a1.length cap2)] (by kernel_rfl) fun a ha => ?_
   have hML : MS (blkL ao22 ++ (blkL ao19 ++ (blkL ao14 ++ (M)))) w47 := MS.rest hM (fun _ h => (List.mem_append.1 h).elim (fun h => ml h) (fun h => (List.mem_append.1 h).elim (fun h => mr (ml h)) (fun h => (List.mem_append.1 h).elim (fun h => mr (mr (mr (ml h)))) (fun h => mr (mr (mr (mr (h))))))))
   have oL : Ok (blkL ao22 ++ (blkL ao19 ++ (blkL ao14 ++ (M)))) (blkL ao22 ++ (blkL ao19 ++ (LB ao16 ps16 ++ (blkL ao14 ++ (M))))) w47.heap.size := (Ok.app (fun _ h => .inl (ml h)) (Ok.app (fun _ h => .inl (mr (ml h))) (fun _ h => .inl (mr (mr (mr (h)))))))
   obtain ⟨t49, H49, H⟩ := bind_some H
   refine cl ha (by rfl) (by kernel_rfl) (by rfl) (by rfl) (by rfl) (vineryref09_SameRaws.walk w47 _ hML t16 ao16 cap16 (LentAt.rd fO16 hp16 (blkL ao22 ++ (blkL ao19 ++ (blkL ao14 ++ (M)))) (fun x hx hm => (List.mem_append.1 hm).elim (fun h => (fun x hx hy => p_i22_i16 x hy hx) x hx h) (fun h => (List.mem_append.1 h).elim (fun h => (fun x hx hy => p_i19_i16 x hy hx) x hx h) (fun h => (List.mem_append.1 h).elim (fun h => p_i16_i14 x hx h) (fun h => p_i16_M x hx h))))) a1 ao2 cap2 (RSl.chg f2 (Chg.refl [] _) (Ok.nil _ _) oL) k _ H49) ?_
   rintro _ w49 ⟨rfl, hc49, hMn⟩ a ha
   have o1 : Ok [] (blkL ao22 ++ (blkL ao19 ++ (LB ao16 ps16 ++ (blkL ao14 ++ (M))))) w47.heap.size := Ok.nil _ _
   have o2 : Ok (blkL ao22 ++ (blkL ao19 ++ (LB ao16 ps16 ++ (blkL ao14 ++ (M))))) (blkL ao22 ++ (blkL ao19 ++ (LB ao16 ps16 ++ (blkL ao14 ++ (M))))) w47.heap.size := (Ok.refl _ _)
   have f1 := f1.chg hc49 o1 o2
   have f2 := f2.chg hc49 o1 o2
   have f14 := f14.chg hc49 o1 o2 (fun _ _ h => nomatch h) (fun _ h => mr (mr (mr (ml h))))
   have f19 := f19.chg hc49 o1 o2 (fun _ _ h => nomatch h) (fun _ h => mr (ml h))
   have f22 := f22.chg hc49 o1 o2 (fun _ _ h => nomatch h) (fun _ h => ml h)
   have fO16 := fO16.chg hc49 (fun _ _ h => nomatch h)
   have hM : MS (blkL ao22 ++ (blkL ao19 ++ (LB ao16 ps16 ++ (blkL ao14 ++ (M))))) w49 := (hM.chg hc49)
   have hC := hC.trans hc49 (Ok.nil _ _)
   refine sgh ha 2 [3, 0] [(0, .slice ao1 a0.length cap1), (1, .slice ao2 a1.length cap2), (5, .bool t5), (7, .slice ao14 t13.length cap14), (8, .slice ao16 t16.length cap16), (9, .slice ao19 t18.1.length cap19), (10, .int .i64 t18.2), (11, .slice ao22 t21.1.length cap22), (12, .int .i64 t21.2), (13, .bool t49)] (by kernel_rfl) fun a ha => ?_
   obtain rfl := Option.some.inj H
   exact J24 _ _ (ha.sel (by kernel_rfl)) f1 f2 f14 f19 f22 fO16 hC hM
  ·have ha := ha.lit hb48
   have H := ite_f hb48 H
   refine sgh ha 5 [1, 1, 1, 4, 0] [(0, .slice ao1 a0.length cap1), (1, .slice ao2 a1.length cap2), (5, .bool t5), (7, .slice ao14 t13.length cap14), (8, .slice ao16 t16.length cap16), (9, .slice ao19 t18.1.length cap19), (10, .int .i64 t18.2), (11, .slice ao22 t21.1.length cap22), (12, .int .i64 t21.2), (13, .bool false)] (by kernel_rfl) fun a ha => ?_
   obtain rfl := Option.some.inj H
   exact J24 _ _ (ha.sel (by kernel_rfl)) f1 f2 f14 f19 f22 fO16 hC hM
end Go.E
