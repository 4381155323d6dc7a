/- What the functions that the law reaches compute, and the walks that show it. -/
import Derived.Test.YtmgjcnjcnejjkabEngR
import Derived.Test.YtmgjcnjcnejjkabProg
import Derived.Test.YtmgjcnjcnejjkabGenDecidePrefsP0
set_option linter.unusedVariables false
set_option linter.unusedSimpArgs false
namespace Go.E
open Go.RowKit Go.Proofs
def vinerylaw16_small.f (k : Nat) : Option (Bool) := (vinerylaw15_Intra.f (1 : Int) (1 : Int)).bind fun t3 => ((decide_Best.f k ([(⟨t3, (1 : Int), (⟨(0 : Int), (List.replicate 16 (0 : Int))⟩ : S_api_Addr)⟩ : S_api_Choice), (⟨(⟨t3.Size, t3.Safi, t3.M, t3.U, t3.Next, (⟨t3.Attrs.Origin, t3.Attrs.Path, t3.Attrs.Med, (200 : Int), t3.Attrs.Originator, t3.Attrs.Clusters, t3.Attrs.Exts, t3.Attrs.Tunnels⟩ : S_api_Attrs)⟩ : S_api_Route), (1 : Int), (⟨(0 : Int), (List.replicate 16 (0 : Int))⟩ : S_api_Addr)⟩ : S_api_Choice)] : List S_api_Choice)).bind fun t41 => (if (t41 == (1 : Int)) = true then (decide_Best.f k ([(⟨t3, (1 : Int), (⟨(0 : Int), (List.replicate 16 (0 : Int))⟩ : S_api_Addr)⟩ : S_api_Choice), (⟨t3, (0 : Int), (⟨(0 : Int), (List.replicate 16 (0 : Int))⟩ : S_api_Addr)⟩ : S_api_Choice)] : List S_api_Choice)).bind fun t48 => (if (t48 == (1 : Int)) = true then (decide_Best.f k ([] : List S_api_Choice)).bind fun t50 => (if (t50 == (-1 : Int)) = true then (decide_Compare.f k (⟨t3, (0 : Int), (⟨(0 : Int), (List.replicate 16 (0 : Int))⟩ : S_api_Addr)⟩ : S_api_Choice) (⟨t3, (1 : Int), (⟨(0 : Int), (List.replicate 16 (0 : Int))⟩ : S_api_Addr)⟩ : S_api_Choice)).bind fun t52 => (if (t52 == (-1 : Int)) = true then (decide_Length.f k ([(⟨true, ([(1 : Int), (2 : Int)] : List Int)⟩ : S_api_Segment), (⟨false, ([(3 : Int), (4 : Int)] : List Int)⟩ : S_api_Segment)] : List S_api_Segment)).bind fun t69 => some (t69 == (3 : Int) : Bool) else some (false : Bool)) else some (false : Bool)) else some (false : Bool)) else some (false : Bool))).bind fun s35 => some ((s35 : Bool))
set_option maxRecDepth 100000 in
theorem vinerylaw16_small.walk (w : World) (M : List Nat) (hM : MS M w)  (k : Nat) (r : Bool) (H : vinerylaw16_small.f k = some r) :
    To Try.prog 7 [] w fun v w' => v = .bool r ∧ Chg [] w w' ∧ MS (M) w' := by
  unfold vinerylaw16_small.f at H
  refine ent Try.func7 rfl [] rfl (by rfl) fun a ha => ?_
  have hC : Chg [] w w := Chg.refl _ _
  refine wp_seq_k fun K1 hK1 => ?_
  refine wp_region_lit ?_
  refine seg ha 1 [] (by kernel_rfl) fun a ha => ?_
  refine hK1 _ _ ?_; clear hK1 K1
  refine wp_seq_k fun K2 hK2 => ?_
  refine wp_region_lit ?_
  obtain ⟨t3, H3, H⟩ := bind_some H
  refine cl ha (by rfl) (by kernel_rfl) (by rfl) (by rfl) (by rfl) (vinerylaw15_Intra.walk w _ hM (1 : Int) (1 : Int) _ H3) ?_
  rintro _ w3 ⟨ao4, cap4, ao5, cap5, ao6, cap6, ao7, cap7, rfl, f4, f5, f6, f7, hc3, hMn⟩ a ha
  have o1 : Ok [] (M) w.heap.size := Ok.nil _ _
  have o2 : Ok (M) (M) w.heap.size := (fun _ h => .inl (h))
  have hM : MS (M) w3 := (fun x h => hM.chg hc3 x (h))
  have hC := hC.trans hc3 (Ok.nil _ _)
  refine opk (v := .agg (cS_api_Choice (⟨t3, (1 : Int), (⟨(0 : Int), (List.replicate 16 (0 : Int))⟩ : S_api_Addr)⟩ : S_api_Choice) ao4 cap4 ao5 cap5 ao6 cap6 ao7 cap7).toArray) ha rfl rfl rfl rfl rfl (fun w => by kernel_rfl) fun a ha => ?_
  refine al (cs := (cS_api_Choice (⟨(⟨(0 : Int), (0 : Int), (⟨(0 : Int), (List.replicate 8 (0 : Int)), (0 : Int), (⟨(0 : Int), (List.replicate 16 (0 : Int))⟩ : S_api_Addr), (⟨(0 : Int), (List.replicate 16 (0 : Int))⟩ : S_api_Addr), (⟨(0 : Int), (List.replicate 16 (0 : Int))⟩ : S_api_Addr), ([] : List UInt8)⟩ : S_api_Mroute), (⟨(List.replicate 8 (0 : Int)), (⟨(⟨(0 : Int), (List.replicate 16 (0 : Int))⟩ : S_api_Addr), (0 : Int)⟩ : S_api_Prefix), (0 : Int)⟩ : S_api_Uroute), (⟨(0 : Int), (List.replicate 16 (0 : Int))⟩ : S_api_Addr), (⟨(0 : Int), ([] : List S_api_Segment), (0 : Int), (0 : Int), (⟨(0 : Int), (List.replicate 16 (0 : Int))⟩ : S_api_Addr), ([] : List S_api_Addr), ([] : List (List Int)), ([] : List S_api_Tunnel)⟩ : S_api_Attrs)⟩ : S_api_Route), (0 : Int), (⟨(0 : Int), (List.replicate 16 (0 : Int))⟩ : S_api_Addr)⟩ : S_api_Choice) none 0 none 0 none 0 none 0)) (z := .agg (cS_api_Choice (⟨(⟨(0 : Int), (0 : Int), (⟨(0 : Int), (List.replicate 8 (0 : Int)), (0 : Int), (⟨(0 : Int), (List.replicate 16 (0 : Int))⟩ : S_api_Addr), (⟨(0 : Int), (List.replicate 16 (0 : Int))⟩ : S_api_Addr), (⟨(0 : Int), (List.replicate 16 (0 : Int))⟩ : S_api_Addr), ([] : List UInt8)⟩ : S_api_Mroute), (⟨(List.replicate 8 (0 : Int)), (⟨(⟨(0 : Int), (List.replicate 16 (0 : Int))⟩ : S_api_Addr), (0 : Int)⟩ : S_api_Prefix), (0 : Int)⟩ : S_api_Uroute), (⟨(0 : Int), (List.replicate 16 (0 : Int))⟩ : S_api_Addr), (⟨(0 : Int), ([] : List S_api_Segment), (0 : Int), (0 : Int), (⟨(0 : Int), (List.replicate 16 (0 : Int))⟩ : S_api_Addr), ([] : List S_api_Addr), ([] : List (List Int)), ([] : List S_api_Tunnel)⟩ : S_api_Attrs)⟩ : S_api_Route), (0 : Int), (⟨(0 : Int), (List.replicate 16 (0 : Int))⟩ : S_api_Addr)⟩ : S_api_Choice) none 0 none 0 none 0 none 0).toArray) ha (fun w => by kernel_rfl) rfl rfl rfl rfl fun a w8 g9 hN10 ha => ?_
  have o1 : Ok [] (M) w3.heap.size := Ok.nil _ _
  have o2 : Ok ([g9] ++ (M)) (M) w3.heap.size := (Ok.app (hN10.ok _) (fun _ h => .inl (h)))
  have f4 := f4.chg hN10.chg o1 o2
  have f5 := f5.chg hN10.chg o1 o2
  have f6 := f6.chg hN10.chg o1 o2
  have f7 := f7.chg hN10.chg o1 o2
  have nw : Ok ([g9]) (M) w3.heap.size := (hN10.ok _)
  have p_i11_M : ∀ x ∈ [g9], x ∉ M := fun x hx hy => absurd (hM x (hy)) (Nat.not_lt.2 ((hN10.ge1) x hx))
  have e_i11 : ∀ x ∈ [g9], w.heap.size ≤ x := fun x hx => Nat.le_trans hC.size ((hN10.ge1) x hx)
  have hM : MS ([g9] ++ (M)) w8 := (MS.app hN10.ms (fun x h => hM.chg hN10.chg x (h)))
  have hC := hC.trans hN10.chg (Ok.nil _ _)
  have hBg9 : Box w8 g9 (cS_api_Choice (⟨(⟨(0 : Int), (0 : Int), (⟨(0 : Int), (List.replicate 8 (0 : Int)), (0 : Int), (⟨(0 : Int), (List.replicate 16 (0 : Int))⟩ : S_api_Addr), (⟨(0 : Int), (List.replicate 16 (0 : Int))⟩ : S_api_Addr), (⟨(0 : Int), (List.replicate 16 (0 : Int))⟩ : S_api_Addr), ([] : List UInt8)⟩ : S_api_Mroute), (⟨(List.replicate 8 (0 : Int)), (⟨(⟨(0 : Int), (List.replicate 16 (0 : Int))⟩ : S_api_Addr), (0 : Int)⟩ : S_api_Prefix), (0 : Int)⟩ : S_api_Uroute), (⟨(0 : Int), (List.replicate 16 (0 : Int))⟩ : S_api_Addr), (⟨(0 : Int), ([] : List S_api_Segment), (0 : Int), (0 : Int), (⟨(0 : Int), (List.replicate 16 (0 : Int))⟩ : S_api_Addr), ([] : List S_api_Addr), ([] : List (List Int)), ([] : List S_api_Tunnel)⟩ : S_api_Attrs)⟩ : S_api_Route), (0 : Int), (⟨(0 : Int), (List.replicate 16 (0 : Int))⟩ : S_api_Addr)⟩ : S_api_Choice) none 0 none 0 none 0 none 0) := hN10.box
  refine stA (l := (cS_api_Choice (⟨t3, (1 : Int), (⟨(0 : Int), (List.replicate 16 (0 : Int))⟩ : S_api_Addr)⟩ : S_api_Choice) ao4 cap4 ao5 cap5 ao6 cap6 ao7 cap7)) ha rfl rfl rfl (by kernel_rfl) rfl rfl hBg9 rfl fun a w12 ha hb2 hc13 _ => ?_
  have o1 : Ok [g9] ([g9] ++ (M)) w8.heap.size := (fun _ h => .inl (ml h))
  have o2 : Ok ([g9] ++ (M)) ([g9] ++ (M)) w8.heap.size := (Ok.app (fun _ h => .inl (ml h)) (fun _ h => .inl (mr (h))))
  have f4 := f4.chg hc13 o1 o2
  have f5 := f5.chg hc13 o1 o2
  have f6 := f6.chg hc13 o1 o2
  have f7 := f7.chg hc13 o1 o2
  have hM : MS ([g9] ++ (M)) w12 := (MS.app (fun x h => hM.chg hc13 x (ml h)) (fun x h => hM.chg hc13 x (mr (h))))
  have hC := hC.trans hc13 (fun x h => .inr (e_i11 x h))
  have hBg9 : Box w12 g9 (cS_api_Choice (⟨t3, (1 : Int), (⟨(0 : Int), (List.replicate 16 (0 : Int))⟩ : S_api_Addr)⟩ : S_api_Choice) ao4 cap4 ao5 cap5 ao6 cap6 ao7 cap7) := hb2
  refine hK2 _ _ ?_; clear hK2 K2
  refine wp_seq_k fun K14 hK14 => ?_
  refine wp_region_lit ?_
  refine ldA (cs := (cS_api_Choice (⟨t3, (1 : Int), (⟨(0 : Int), (List.replicate 16 (0 : Int))⟩ : S_api_Addr)⟩ : S_api_Choice) ao4 cap4 ao5 cap5 ao6 cap6 ao7 cap7)) ha rfl (by kernel_rfl) rfl rfl rfl (cells_sub (Box.cells hBg9) (all := (cS_api_Choice (⟨t3, (1 : Int), (⟨(0 : Int), (List.replicate 16 (0 : Int))⟩ : S_api_Addr)⟩ : S_api_Choice) ao4 cap4 ao5 cap5 ao6 cap6 ao7 cap7)) [] [] (by kernel_rfl)) fun a ha => ?_
  refine al (cs := (cS_api_Choice (⟨(⟨(0 : Int), (0 : Int), (⟨(0 : Int), (List.replicate 8 (0 : Int)), (0 : Int), (⟨(0 : Int), (List.replicate 16 (0 : Int))⟩ : S_api_Addr), (⟨(0 : Int), (List.replicate 16 (0 : Int))⟩ : S_api_Addr), (⟨(0 : Int), (List.replicate 16 (0 : Int))⟩ : S_api_Addr), ([] : List UInt8)⟩ : S_api_Mroute), (⟨(List.replicate 8 (0 : Int)), (⟨(⟨(0 : Int), (List.replicate 16 (0 : Int))⟩ : S_api_Addr), (0 : Int)⟩ : S_api_Prefix), (0 : Int)⟩ : S_api_Uroute), (⟨(0 : Int), (List.replicate 16 (0 : Int))⟩ : S_api_Addr), (⟨(0 : Int), ([] : List S_api_Segment), (0 : Int), (0 : Int), (⟨(0 : Int), (List.replicate 16 (0 : Int))⟩ : S_api_Addr), ([] : List S_api_Addr), ([] : List (List Int)), ([] : List S_api_Tunnel)⟩ : S_api_Attrs)⟩ : S_api_Route), (0 : Int), (⟨(0 : Int), (List.replicate 16 (0 : Int))⟩ : S_api_Addr)⟩ : S_api_Choice) none 0 none 0 none 0 none 0)) (z := .agg (cS_api_Choice (⟨(⟨(0 : Int), (0 : Int), (⟨(0 : Int), (List.replicate 8 (0 : Int)), (0 : Int), (⟨(0 : Int), (List.replicate 16 (0 : Int))⟩ : S_api_Addr), (⟨(0 : Int), (List.replicate 16 (0 : Int))⟩ : S_api_Addr), (⟨(0 : Int), (List.replicate 16 (0 : Int))⟩ : S_api_Addr), ([] : List UInt8)⟩ : S_api_Mroute), (⟨(List.replicate 8 (0 : Int)), (⟨(⟨(0 : Int), (List.replicate 16 (0 : Int))⟩ : S_api_Addr), (0 : Int)⟩ : S_api_Prefix), (0 : Int)⟩ : S_api_Uroute), (⟨(0 : Int), (List.replicate 16 (0 : Int))⟩ : S_api_Addr), (⟨(0 : Int), ([] : List S_api_Segment), (0 : Int), (0 : Int), (⟨(0 : Int), (List.replicate 16 (0 : Int))⟩ : S_api_Addr), ([] : List S_api_Addr), ([] : List (List Int)), ([] : List S_api_Tunnel)⟩ : S_api_Attrs)⟩ : S_api_Route), (0 : Int), (⟨(0 : Int), (List.replicate 16 (0 : Int))⟩ : S_api_Addr)⟩ : S_api_Choice) none 0 none 0 none 0 none 0).toArray) ha (fun w => by kernel_rfl) rfl rfl rfl rfl fun a w15 g16 hN17 ha => ?_
  have o1 : Ok [] ([g9] ++ (M)) w12.heap.size := Ok.nil _ _
  have o2 : Ok ([g16] ++ ([g9] ++ (M))) ([g9] ++ (M)) w12.heap.size := (Ok.app (hN17.ok _) (Ok.app (fun _ h => .inl (ml h)) (fun _ h => .inl (mr (h)))))
  have f4 := f4.chg hN17.chg o1 o2
  have f5 := f5.chg hN17.chg o1 o2
  have f6 := f6.chg hN17.chg o1 o2
  have f7 := f7.chg hN17.chg o1 o2
  have hBg9 := hBg9.chg hN17.chg (fun h => nomatch h)
  have nw : Ok ([g16]) ([g9] ++ (M)) w12.heap.size := (hN17.ok _)
  have p_i18_i11 : ∀ x ∈ [g16], x ∉ ([g9]) := fun x hx hy => absurd (hM x (ml hy)) (Nat.not_lt.2 ((hN17.ge1) x hx))
  have p_i18_M : ∀ x ∈ [g16], x ∉ M := fun x hx hy => absurd (hM x (mr (hy))) (Nat.not_lt.2 ((hN17.ge1) x hx))
  have e_i18 : ∀ x ∈ [g16], w.heap.size ≤ x := fun x hx => Nat.le_trans hC.size ((hN17.ge1) x hx)
  have hM : MS ([g16] ++ ([g9] ++ (M))) w15 := (MS.app hN17.ms (MS.app (fun x h => hM.chg hN17.chg x (ml h)) (fun x h => hM.chg hN17.chg x (mr (h)))))
  have hC := hC.trans hN17.chg (Ok.nil _ _)
  have hBg16 : Box w15 g16 (cS_api_Choice (⟨(⟨(0 : Int), (0 : Int), (⟨(0 : Int), (List.replicate 8 (0 : Int)), (0 : Int), (⟨(0 : Int), (List.replicate 16 (0 : Int))⟩ : S_api_Addr), (⟨(0 : Int), (List.replicate 16 (0 : Int))⟩ : S_api_Addr), (⟨(0 : Int), (List.replicate 16 (0 : Int))⟩ : S_api_Addr), ([] : List UInt8)⟩ : S_api_Mroute), (⟨(List.replicate 8 (0 : Int)), (⟨(⟨(0 : Int), (List.replicate 16 (0 : Int))⟩ : S_api_Addr), (0 : Int)⟩ : S_api_Prefix), (0 : Int)⟩ : S_api_Uroute), (⟨(0 : Int), (List.replicate 16 (0 : Int))⟩ : S_api_Addr), (⟨(0 : Int), ([] : List S_api_Segment), (0 : Int), (0 : Int), (⟨(0 : Int), (List.replicate 16 (0 : Int))⟩ : S_api_Addr), ([] : List S_api_Addr), ([] : List (List Int)), ([] : List S_api_Tunnel)⟩ : S_api_Attrs)⟩ : S_api_Route), (0 : Int), (⟨(0 : Int), (List.replicate 16 (0 : Int))⟩ : S_api_Addr)⟩ : S_api_Choice) none 0 none 0 none 0 none 0) := hN17.box
  refine stA (l := (cS_api_Choice (⟨t3, (1 : Int), (⟨(0 : Int), (List.replicate 16 (0 : Int))⟩ : S_api_Addr)⟩ : S_api_Choice) ao4 cap4 ao5 cap5 ao6 cap6 ao7 cap7)) ha rfl rfl rfl (by kernel_rfl) rfl rfl hBg16 rfl fun a w19 ha hb2 hc20 _ => ?_
  have o1 : Ok [g16] ([g16] ++ ([g9] ++ (M))) w15.heap.size := (fun _ h => .inl (ml h))
  have o2 : Ok ([g16] ++ ([g9] ++ (M))) ([g16] ++ ([g9] ++ (M))) w15.heap.size := (Ok.app (fun _ h => .inl (ml h)) (Ok.app (fun _ h => .inl (mr (ml h))) (fun _ h => .inl (mr (mr (h))))))
  have f4 := f4.chg hc20 o1 o2
  have f5 := f5.chg hc20 o1 o2
  have f6 := f6.chg hc20 o1 o2
  have f7 := f7.chg hc20 o1 o2
  have hBg9 := hBg9.chg hc20 ((fun x hx hy => p_i18_i11 x hy hx) g9 (by simp))
  have hM : MS ([g16] ++ ([g9] ++ (M))) w19 := (MS.app (fun x h => hM.chg hc20 x (ml h)) (MS.app (fun x h => hM.chg hc20 x (mr (ml h))) (fun x h => hM.chg hc20 x (mr (mr (h))))))
  have hC := hC.trans hc20 (fun x h => .inr (e_i18 x h))
  have hBg16 : Box w19 g16 (cS_api_Choice (⟨t3, (1 : Int), (⟨(0 : Int), (List.replicate 16 (0 : Int))⟩ : S_api_Addr)⟩ : S_api_Choice) ao4 cap4 ao5 cap5 ao6 cap6 ao7 cap7) := hb2
  refine hK14 _ _ ?_; clear hK14 K14
  refine wp_seq_k fun K21 hK21 => ?_
  refine wp_region_lit ?_
  refine seg ha 1 [(1, .pointer (some ⟨g9, 0, none⟩)), (2, .pointer (some ⟨g16, 0, none⟩)), (7, .pointer (some ⟨g16, 132, none⟩))] (by kernel_rfl) fun a ha => ?_
  refine st ha rfl rfl rfl (by kernel_rfl) rfl rfl hBg16 (Nat.le_of_ble_eq_true (by kernel_rfl)) fun a w22 ha hb2 hc23 _ => ?_
  have o1 : Ok [g16] ([g16] ++ ([g9] ++ (M))) w19.heap.size := (fun _ h => .inl (ml h))
  have o2 : Ok ([g16] ++ ([g9] ++ (M))) ([g16] ++ ([g9] ++ (M))) w19.heap.size := (Ok.app (fun _ h => .inl (ml h)) (Ok.app (fun _ h => .inl (mr (ml h))) (fun _ h => .inl (mr (mr (h))))))
  have f4 := f4.chg hc23 o1 o2
  have f5 := f5.chg hc23 o1 o2
  have f6 := f6.chg hc23 o1 o2
  have f7 := f7.chg hc23 o1 o2
  have hBg9 := hBg9.chg hc23 ((fun x hx hy => p_i18_i11 x hy hx) g9 (by simp))
  have hM : MS ([g16] ++ ([g9] ++ (M))) w22 := (MS.app (fun x h => hM.chg hc23 x (ml h)) (MS.app (fun x h => hM.chg hc23 x (mr (ml h))) (fun x h => hM.chg hc23 x (mr (mr (h))))))
  have hC := hC.trans hc23 (fun x h => .inr (e_i18 x h))
  have hBg16 : Box w22 g16 (cS_api_Choice (⟨t3, (0 : Int), (⟨(0 : Int), (List.replicate 16 (0 : Int))⟩ : S_api_Addr)⟩ : S_api_Choice) ao4 cap4 ao5 cap5 ao6 cap6 ao7 cap7) := hb2
  refine hK21 _ _ ?_; clear hK21 K21
  refine wp_seq_k fun K24 hK24 => ?_
  refine wp_region_lit ?_
  refine ldA (cs := (cS_api_Choice (⟨t3, (1 : Int), (⟨(0 : Int), (List.replicate 16 (0 : Int))⟩ : S_api_Addr)⟩ : S_api_Choice) ao4 cap4 ao5 cap5 ao6 cap6 ao7 cap7)) ha rfl (by kernel_rfl) rfl rfl rfl (cells_sub (Box.cells hBg9) (all := (cS_api_Choice (⟨t3, (1 : Int), (⟨(0 : Int), (List.replicate 16 (0 : Int))⟩ : S_api_Addr)⟩ : S_api_Choice) ao4 cap4 ao5 cap5 ao6 cap6 ao7 cap7)) [] [] (by kernel_rfl)) fun a ha => ?_
  refine al (cs := (cS_api_Choice (⟨(⟨(0 : Int), (0 : Int), (⟨(0 : Int), (List.replicate 8 (0 : Int)), (0 : Int), (⟨(0 : Int), (List.replicate 16 (0 : Int))⟩ : S_api_Addr), (⟨(0 : Int), (List.replicate 16 (0 : Int))⟩ : S_api_Addr), (⟨(0 : Int), (List.replicate 16 (0 : Int))⟩ : S_api_Addr), ([] : List UInt8)⟩ : S_api_Mroute), (⟨(List.replicate 8 (0 : Int)), (⟨(⟨(0 : Int), (List.replicate 16 (0 : Int))⟩ : S_api_Addr), (0 : Int)⟩ : S_api_Prefix), (0 : Int)⟩ : S_api_Uroute), (⟨(0 : Int), (List.replicate 16 (0 : Int))⟩ : S_api_Addr), (⟨(0 : Int), ([] : List S_api_Segment), (0 : Int), (0 : Int), (⟨(0 : Int), (List.replicate 16 (0 : Int))⟩ : S_api_Addr), ([] : List S_api_Addr), ([] : List (List Int)), ([] : List S_api_Tunnel)⟩ : S_api_Attrs)⟩ : S_api_Route), (0 : Int), (⟨(0 : Int), (List.replicate 16 (0 : Int))⟩ : S_api_Addr)⟩ : S_api_Choice) none 0 none 0 none 0 none 0)) (z := .agg (cS_api_Choice (⟨(⟨(0 : Int), (0 : Int), (⟨(0 : Int), (List.replicate 8 (0 : Int)), (0 : Int), (⟨(0 : Int), (List.replicate 16 (0 : Int))⟩ : S_api_Addr), (⟨(0 : Int), (List.replicate 16 (0 : Int))⟩ : S_api_Addr), (⟨(0 : Int), (List.replicate 16 (0 : Int))⟩ : S_api_Addr), ([] : List UInt8)⟩ : S_api_Mroute), (⟨(List.replicate 8 (0 : Int)), (⟨(⟨(0 : Int), (List.replicate 16 (0 : Int))⟩ : S_api_Addr), (0 : Int)⟩ : S_api_Prefix), (0 : Int)⟩ : S_api_Uroute), (⟨(0 : Int), (List.replicate 16 (0 : Int))⟩ : S_api_Addr), (⟨(0 : Int), ([] : List S_api_Segment), (0 : Int), (0 : Int), (⟨(0 : Int), (List.replicate 16 (0 : Int))⟩ : S_api_Addr), ([] : List S_api_Addr), ([] : List (List Int)), ([] : List S_api_Tunnel)⟩ : S_api_Attrs)⟩ : S_api_Route), (0 : Int), (⟨(0 : Int), (List.replicate 16 (0 : Int))⟩ : S_api_Addr)⟩ : S_api_Choice) none 0 none 0 none 0 none 0).toArray) ha (fun w => by kernel_rfl) rfl rfl rfl rfl fun a w25 g26 hN27 ha => ?_
  have o1 : Ok [] ([g16] ++ ([g9] ++ (M))) w22.heap.size := Ok.nil _ _
  have o2 : Ok ([g26] ++ ([g16] ++ ([g9] ++ (M)))) ([g16] ++ ([g9] ++ (M))) w22.heap.size := (Ok.app (hN27.ok _) (Ok.app (fun _ h => .inl (ml h)) (Ok.app (fun _ h => .inl (mr (ml h))) (fun _ h => .inl (mr (mr (h)))))))
  have f4 := f4.chg hN27.chg o1 o2
  have f5 := f5.chg hN27.chg o1 o2
  have f6 := f6.chg hN27.chg o1 o2
  have f7 := f7.chg hN27.chg o1 o2
  have hBg9 := hBg9.chg hN27.chg (fun h => nomatch h)
  have hBg16 := hBg16.chg hN27.chg (fun h => nomatch h)
  have nw : Ok ([g26]) ([g16] ++ ([g9] ++ (M))) w22.heap.size := (hN27.ok _)
  have p_i28_i18 : ∀ x ∈ [g26], x ∉ ([g16]) := fun x hx hy => absurd (hM x (ml hy)) (Nat.not_lt.2 ((hN27.ge1) x hx))
  have p_i28_i11 : ∀ x ∈ [g26], x ∉ ([g9]) := fun x hx hy => absurd (hM x (mr (ml hy))) (Nat.not_lt.2 ((hN27.ge1) x hx))
  have p_i28_M : ∀ x ∈ [g26], x ∉ M := fun x hx hy => absurd (hM x (mr (mr (hy)))) (Nat.not_lt.2 ((hN27.ge1) x hx))
  have e_i28 : ∀ x ∈ [g26], w.heap.size ≤ x := fun x hx => Nat.le_trans hC.size ((hN27.ge1) x hx)
  have hM : MS ([g26] ++ ([g16] ++ ([g9] ++ (M)))) w25 := (MS.app hN27.ms (MS.app (fun x h => hM.chg hN27.chg x (ml h)) (MS.app (fun x h => hM.chg hN27.chg x (mr (ml h))) (fun x h => hM.chg hN27.chg x (mr (mr (h)))))))
  have hC := hC.trans hN27.chg (Ok.nil _ _)
  have hBg26 : Box w25 g26 (cS_api_Choice (⟨(⟨(0 : Int), (0 : Int), (⟨(0 : Int), (List.replicate 8 (0 : Int)), (0 : Int), (⟨(0 : Int), (List.replicate 16 (0 : Int))⟩ : S_api_Addr), (⟨(0 : Int), (List.replicate 16 (0 : Int))⟩ : S_api_Addr), (⟨(0 : Int), (List.replicate 16 (0 : Int))⟩ : S_api_Addr), ([] : List UInt8)⟩ : S_api_Mroute), (⟨(List.replicate 8 (0 : Int)), (⟨(⟨(0 : Int), (List.replicate 16 (0 : Int))⟩ : S_api_Addr), (0 : Int)⟩ : S_api_Prefix), (0 : Int)⟩ : S_api_Uroute), (⟨(0 : Int), (List.replicate 16 (0 : Int))⟩ : S_api_Addr), (⟨(0 : Int), ([] : List S_api_Segment), (0 : Int), (0 : Int), (⟨(0 : Int), (List.replicate 16 (0 : Int))⟩ : S_api_Addr), ([] : List S_api_Addr), ([] : List (List Int)), ([] : List S_api_Tunnel)⟩ : S_api_Attrs)⟩ : S_api_Route), (0 : Int), (⟨(0 : Int), (List.replicate 16 (0 : Int))⟩ : S_api_Addr)⟩ : S_api_Choice) none 0 none 0 none 0 none 0) := hN27.box
  refine stA (l := (cS_api_Choice (⟨t3, (1 : Int), (⟨(0 : Int), (List.replicate 16 (0 : Int))⟩ : S_api_Addr)⟩ : S_api_Choice) ao4 cap4 ao5 cap5 ao6 cap6 ao7 cap7)) ha rfl rfl rfl (by kernel_rfl) rfl rfl hBg26 rfl fun a w29 ha hb2 hc30 _ => ?_
  have o1 : Ok [g26] ([g26] ++ ([g16] ++ ([g9] ++ (M)))) w25.heap.size := (fun _ h => .inl (ml h))
  have o2 : Ok ([g26] ++ ([g16] ++ ([g9] ++ (M)))) ([g26] ++ ([g16] ++ ([g9] ++ (M)))) w25.heap.size := (Ok.app (fun _ h => .inl (ml h)) (Ok.app (fun _ h => .inl (mr (ml h))) (Ok.app (fun _ h => .inl (mr (mr (ml h)))) (fun _ h => .inl (mr (mr (mr (h))))))))
  have f4 := f4.chg hc30 o1 o2
  have f5 := f5.chg hc30 o1 o2
  have f6 := f6.chg hc30 o1 o2
  have f7 := f7.chg hc30 o1 o2
  have hBg9 := hBg9.chg hc30 ((fun x hx hy => p_i28_i11 x hy hx) g9 (by simp))
  have hBg16 := hBg16.chg hc30 ((fun x hx hy => p_i28_i18 x hy hx) g16 (by simp))
  have hM : MS ([g26] ++ ([g16] ++ ([g9] ++ (M)))) w29 := (MS.app (fun x h => hM.chg hc30 x (ml h)) (MS.app (fun x h => hM.chg hc30 x (mr (ml h))) (MS.app (fun x h => hM.chg hc30 x (mr (mr (ml h)))) (fun x h => hM.chg hc30 x (mr (mr (mr (h))))))))
  have hC := hC.trans hc30 (fun x h => .inr (e_i28 x h))
  have hBg26 : Box w29 g26 (cS_api_Choice (⟨t3, (1 : Int), (⟨(0 : Int), (List.replicate 16 (0 : Int))⟩ : S_api_Addr)⟩ : S_api_Choice) ao4 cap4 ao5 cap5 ao6 cap6 ao7 cap7) := hb2
  refine hK24 _ _ ?_; clear hK24 K24
  refine wp_seq_k fun K31 hK31 => ?_
  refine wp_region_lit ?_
  refine seg ha 3 [(1, .pointer (some ⟨g9, 0, none⟩)), (2, .pointer (some ⟨g16, 0, none⟩)), (3, .pointer (some ⟨g26, 0, none⟩)), (11, .pointer (some ⟨g26, 111, none⟩))] (by kernel_rfl) fun a ha => ?_
  refine st ha rfl rfl rfl (by kernel_rfl) rfl rfl hBg26 (Nat.le_of_ble_eq_true (by kernel_rfl)) fun a w32 ha hb2 hc33 _ => ?_
  have o1 : Ok [g26] ([g26] ++ ([g16] ++ ([g9] ++ (M)))) w29.heap.size := (fun _ h => .inl (ml h))
  have o2 : Ok ([g26] ++ ([g16] ++ ([g9] ++ (M)))) ([g26] ++ ([g16] ++ ([g9] ++ (M)))) w29.heap.size := (Ok.app (fun _ h => .inl (ml h)) (Ok.app (fun _ h => .inl (mr (ml h))) (Ok.app (fun _ h => .inl (mr (mr (ml h)))) (fun _ h => .inl (mr (mr (mr (h))))))))
  have f4 := f4.chg hc33 o1 o2
  have f5 := f5.chg hc33 o1 o2
  have f6 := f6.chg hc33 o1 o2
  have f7 := f7.chg hc33 o1 o2
  have hBg9 := hBg9.chg hc33 ((fun x hx hy => p_i28_i11 x hy hx) g9 (by simp))
  have hBg16 := hBg16.chg hc33 ((fun x hx hy => p_i28_i18 x hy hx) g16 (by simp))
  have hM : MS ([g26] ++ ([g16] ++ ([g9] ++ (M)))) w32 := (MS.app (fun x h => hM.chg hc33 x (ml h)) (MS.app (fun x h => hM.chg hc33 x (mr (ml h))) (MS.app (fun x h => hM.chg hc33 x (mr (mr (ml h)))) (fun x h => hM.chg hc33 x (mr (mr (mr (h))))))))
  have hC := hC.trans hc33 (fun x h => .inr (e_i28 x h))
  have hBg26 : Box w32 g26 (cS_api_Choice (⟨(⟨t3.Size, t3.Safi, t3.M, t3.U, t3.Next, (⟨t3.Attrs.Origin, t3.Attrs.Path, t3.Attrs.Med, (200 : Int), t3.Attrs.Originator, t3.Attrs.Clusters, t3.Attrs.Exts, t3.Attrs.Tunnels⟩ : S_api_Attrs)⟩ : S_api_Route), (1 : Int), (⟨(0 : Int), (List.replicate 16 (0 : Int))⟩ : S_api_Addr)⟩ : S_api_Choice) ao4 cap4 ao5 cap5 ao6 cap6 ao7 cap7) := hb2
  refine hK31 _ _ ?_; clear hK31 K31
  refine wp_seq_k fun K34 hK34 => ?_
  refine wp_region_lit ?_
  obtain ⟨s35, H35, H⟩ := bind_some H
  have J35 : ∀ (a : Act) (w35 : World), Has a Try.f7.ntmps [(0, .bool s35)] → (RSl rS_api_Segment 58 w35 ([g26] ++ ([g16] ++ ([g9] ++ (M)))) ao4 cap4 t3.Attrs.Path) → (RSl rS_api_Addr 26 w35 ([g26] ++ ([g16] ++ ([g9] ++ (M)))) ao5 cap5 t3.Attrs.Clusters) → (RSl (rArr .u8 8) 81 w35 ([g26] ++ ([g16] ++ ([g9] ++ (M)))) ao6 cap6 t3.Attrs.Exts) → (RSl rS_api_Tunnel 70 w35 ([g26] ++ ([g16] ++ ([g9] ++ (M)))) ao7 cap7 t3.Attrs.Tunnels) → (Box w35 g9 (cS_api_Choice (⟨t3, (1 : Int), (⟨(0 : Int), (List.replicate 16 (0 : Int))⟩ : S_api_Addr)⟩ : S_api_Choice) ao4 cap4 ao5 cap5 ao6 cap6 ao7 cap7)) → (Box w35 g16 (cS_api_Choice (⟨t3, (0 : Int), (⟨(0 : Int), (List.replicate 16 (0 : Int))⟩ : S_api_Addr)⟩ : S_api_Choice) ao4 cap4 ao5 cap5 ao6 cap6 ao7 cap7)) → (Box w35 g26 (cS_api_Choice (⟨(⟨t3.Size, t3.Safi, t3.M, t3.U, t3.Next, (⟨t3.Attrs.Origin, t3.Attrs.Path, t3.Attrs.Med, (200 : Int), t3.Attrs.Originator, t3.Attrs.Clusters, t3.Attrs.Exts, t3.Attrs.Tunnels⟩ : S_api_Attrs)⟩ : S_api_Route), (1 : Int), (⟨(0 : Int), (List.replicate 16 (0 : Int))⟩ : S_api_Addr)⟩ : S_api_Choice) ao4 cap4 ao5 cap5 ao6 cap6 ao7 cap7)) → (Chg [] w w35) → (MS ([g26] ++ ([g16] ++ ([g9] ++ (M)))) w35) → K34 a w35 := by
    intro a w35 ha f4 f5 f6 f7 hBg9 hBg16 hBg26 hC hM
    refine hK34 _ _ ?_; clear hK34 K34
    refine wp_ret ?_
    try simp only [Exit.then, Exit.inBlock]
    have o1 : Ok [] ([g26] ++ ([g16] ++ ([g9] ++ (M)))) w35.heap.size := Ok.nil _ _
    have o2 : Ok (M) ([g26] ++ ([g16] ++ ([g9] ++ (M)))) w35.heap.size := (fun _ h => .inl (mr (mr (mr (h)))))
    have f4 := f4.chg (Chg.refl [] _) o1 o2
    have f5 := f5.chg (Chg.refl [] _) o1 o2
    have f6 := f6.chg (Chg.refl [] _) o1 o2
    have f7 := f7.chg (Chg.refl [] _) o1 o2
    have hBg9 := hBg9.chg (Chg.refl [] _) (fun h => nomatch h)
    have hBg16 := hBg16.chg (Chg.refl [] _) (fun h => nomatch h)
    have hBg26 := hBg26.chg (Chg.refl [] _) (fun h => nomatch h)
    have hM : MS (M) w35 := (fun x h => hM.chg (Chg.refl [] _) x (mr (mr (mr (h)))))
    have hC := hC.trans (Chg.refl [] _) (Ok.nil _ _)
    obtain rfl := Option.some.inj H
    refine rt1 ha rfl rfl ?_
    exact ⟨rfl, hC, hM⟩
  have H := H35
  refine ldA (cs := (cS_api_Choice (⟨t3, (1 : Int), (⟨(0 : Int), (List.replicate 16 (0 : Int))⟩ : S_api_Addr)⟩ : S_api_Choice) ao4 cap4 ao5 cap5 ao6 cap6 ao7 cap7)) ha rfl (by kernel_rfl) rfl rfl rfl (cells_sub (Box.cells hBg9) (all := (cS_api_Choice (⟨t3, (1 : Int), (⟨(0 : Int), (List.replicate 16 (0 : Int))⟩ : S_api_Addr)⟩ : S_api_Choice) ao4 cap4 ao5 cap5 ao6 cap6 ao7 cap7)) [] [] (by kernel_rfl)) fun a ha => ?_
  refine ldA (cs := (cS_api_Choice (⟨(⟨t3.Size, t3.Safi, t3.M, t3.U, t3.Next, (⟨t3.Attrs.Origin, t3.Attrs.Path, t3.Attrs.Med, (200 : Int), t3.Attrs.Originator, t3.Attrs.Clusters, t3.Attrs.Exts, t3.Attrs.Tunnels⟩ : S_api_Attrs)⟩ : S_api_Route), (1 : Int), (⟨(0 : Int), (List.replicate 16 (0 : Int))⟩ : S_api_Addr)⟩ : S_api_Choice) ao4 cap4 ao5 cap5 ao6 cap6 ao7 cap7)) ha rfl (by kernel_rfl) rfl rfl rfl (cells_sub (Box.cells hBg26) (all := (cS_api_Choice (⟨(⟨t3.Size, t3.Safi, t3.M, t3.U, t3.Next, (⟨t3.Attrs.Origin, t3.Attrs.Path, t3.Attrs.Med, (200 : Int), t3.Attrs.Originator, t3.Attrs.Clusters, t3.Attrs.Exts, t3.Attrs.Tunnels⟩ : S_api_Attrs)⟩ : S_api_Route), (1 : Int), (⟨(0 : Int), (List.replicate 16 (0 : Int))⟩ : S_api_Addr)⟩ : S_api_Choice) ao4 cap4 ao5 cap5 ao6 cap6 ao7 cap7)) [] [] (by kernel_rfl)) fun a ha => ?_
  refine bslA (vals := ([.agg (cS_api_Choice (⟨t3, (1 : Int), (⟨(0 : Int), (List.replicate 16 (0 : Int))⟩ : S_api_Addr)⟩ : S_api_Choice) ao4 cap4 ao5 cap5 ao6 cap6 ao7 cap7).toArray, .agg (cS_api_Choice (⟨(⟨t3.Size, t3.Safi, t3.M, t3.U, t3.Next, (⟨t3.Attrs.Origin, t3.Attrs.Path, t3.Attrs.Med, (200 : Int), t3.Attrs.Originator, t3.Attrs.Clusters, t3.Attrs.Exts, t3.Attrs.Tunnels⟩ : S_api_Attrs)⟩ : S_api_Route), (1 : Int), (⟨(0 : Int), (List.replicate 16 (0 : Int))⟩ : S_api_Addr)⟩ : S_api_Choice) ao4 cap4 ao5 cap5 ao6 cap6 ao7 cap7).toArray] : List Value)) (T := 42) (z := .agg (cS_api_Choice (⟨(⟨(0 : Int), (0 : Int), (⟨(0 : Int), (List.replicate 8 (0 : Int)), (0 : Int), (⟨(0 : Int), (List.replicate 16 (0 : Int))⟩ : S_api_Addr), (⟨(0 : Int), (List.replicate 16 (0 : Int))⟩ : S_api_Addr), (⟨(0 : Int), (List.replicate 16 (0 : Int))⟩ : S_api_Addr), ([] : List UInt8)⟩ : S_api_Mroute), (⟨(List.replicate 8 (0 : Int)), (⟨(⟨(0 : Int), (List.replicate 16 (0 : Int))⟩ : S_api_Addr), (0 : Int)⟩ : S_api_Prefix), (0 : Int)⟩ : S_api_Uroute), (⟨(0 : Int), (List.replicate 16 (0 : Int))⟩ : S_api_Addr), (⟨(0 : Int), ([] : List S_api_Segment), (0 : Int), (0 : Int), (⟨(0 : Int), (List.replicate 16 (0 : Int))⟩ : S_api_Addr), ([] : List S_api_Addr), ([] : List (List Int)), ([] : List S_api_Tunnel)⟩ : S_api_Attrs)⟩ : S_api_Route), (0 : Int), (⟨(0 : Int), (List.replicate 16 (0 : Int))⟩ : S_api_Addr)⟩ : S_api_Choice) none 0 none 0 none 0 none 0).toArray) ha rfl (by kernel_rfl) rfl (by kernel_rfl) (s := 150) (by kernel_rfl) rfl rfl (fun w => by kernel_rfl) (by kernel_rfl) rfl rfl rfl fun a w36 g37 hN38 ha => ?_
  have hN38 := (show New _ _ _ (.cells (((cS_api_Choice (⟨t3, (1 : Int), (⟨(0 : Int), (List.replicate 16 (0 : Int))⟩ : S_api_Addr)⟩ : S_api_Choice) ao4 cap4 ao5 cap5 ao6 cap6 ao7 cap7) ++ ((cS_api_Choice (⟨(⟨t3.Size, t3.Safi, t3.M, t3.U, t3.Next, (⟨t3.Attrs.Origin, t3.Attrs.Path, t3.Attrs.Med, (200 : Int), t3.Attrs.Originator, t3.Attrs.Clusters, t3.Attrs.Exts, t3.Attrs.Tunnels⟩ : S_api_Attrs)⟩ : S_api_Route), (1 : Int), (⟨(0 : Int), (List.replicate 16 (0 : Int))⟩ : S_api_Addr)⟩ : S_api_Choice) ao4 cap4 ao5 cap5 ao6 cap6 ao7 cap7) ++ ([] : List Value)))).toArray 42 (0, 0)) from hN38)
  have o1 : Ok [] ([g26] ++ ([g16] ++ ([g9] ++ (M)))) w32.heap.size := Ok.nil _ _
  have o2 : Ok ([g37] ++ ([g26] ++ ([g16] ++ ([g9] ++ (M))))) ([g26] ++ ([g16] ++ ([g9] ++ (M)))) w32.heap.size := (Ok.app (hN38.ok _) (Ok.app (fun _ h => .inl (ml h)) (Ok.app (fun _ h => .inl (mr (ml h))) (Ok.app (fun _ h => .inl (mr (mr (ml h)))) (fun _ h => .inl (mr (mr (mr (h)))))))))
  have f4 := f4.chg hN38.chg o1 o2
  have f5 := f5.chg hN38.chg o1 o2
  have f6 := f6.chg hN38.chg o1 o2
  have f7 := f7.chg hN38.chg o1 o2
  have hBg9 := hBg9.chg hN38.chg (fun h => nomatch h)
  have hBg16 := hBg16.chg hN38.chg (fun h => nomatch h)
  have hBg26 := hBg26.chg hN38.chg (fun h => nomatch h)
  have nw : Ok ([g37]) ([g26] ++ ([g16] ++ ([g9] ++ (M)))) w32.heap.size := (hN38.ok _)
  have p_i39_i28 : ∀ x ∈ [g37], x ∉ ([g26]) := fun x hx hy => absurd (hM x (ml hy)) (Nat.not_lt.2 ((hN38.ge1) x hx))
  have p_i39_i18 : ∀ x ∈ [g37], x ∉ ([g16]) := fun x hx hy => absurd (hM x (mr (ml hy))) (Nat.not_lt.2 ((hN38.ge1) x hx))
  have p_i39_i11 : ∀ x ∈ [g37], x ∉ ([g9]) := fun x hx hy => absurd (hM x (mr (mr (ml hy)))) (Nat.not_lt.2 ((hN38.ge1) x hx))
  have p_i39_M : ∀ x ∈ [g37], x ∉ M := fun x hx hy => absurd (hM x (mr (mr (mr (hy))))) (Nat.not_lt.2 ((hN38.ge1) x hx))
  have e_i39 : ∀ x ∈ [g37], w.heap.size ≤ x := fun x hx => Nat.le_trans hC.size ((hN38.ge1) x hx)
  have hM : MS ([g37] ++ ([g26] ++ ([g16] ++ ([g9] ++ (M))))) w36 := (MS.app hN38.ms (MS.app (fun x h => hM.chg hN38.chg x (ml h)) (MS.app (fun x h => hM.chg hN38.chg x (mr (ml h))) (MS.app (fun x h => hM.chg hN38.chg x (mr (mr (ml h)))) (fun x h => hM.chg hN38.chg x (mr (mr (mr (h)))))))))
  have hC := hC.trans hN38.chg (Ok.nil _ _)
  have f40 : Own rS_api_Choice 42 w36 ([g37] ++ ([g26] ++ ([g16] ++ ([g9] ++ (M))))) (some ⟨g37, 0, none⟩) 2 ([(⟨t3, (1 : Int), (⟨(0 : Int), (List.replicate 16 (0 : Int))⟩ : S_api_Addr)⟩ : S_api_Choice), (⟨(⟨t3.Size, t3.Safi, t3.M, t3.U, t3.Next, (⟨t3.Attrs.Origin, t3.Attrs.Path, t3.Attrs.Med, (200 : Int), t3.Attrs.Originator, t3.Attrs.Clusters, t3.Attrs.Exts, t3.Attrs.Tunnels⟩ : S_api_Attrs)⟩ : S_api_Route), (1 : Int), (⟨(0 : Int), (List.replicate 16 (0 : Int))⟩ : S_api_Addr)⟩ : S_api_Choice)] : List S_api_Choice) := hN38.own ⟨(cS_api_Choice (⟨t3, (1 : Int), (⟨(0 : Int), (List.replicate 16 (0 : Int))⟩ : S_api_Addr)⟩ : S_api_Choice) ao4 cap4 ao5 cap5 ao6 cap6 ao7 cap7), _, rfl, (rS_api_Choice.mk (⟨t3, (1 : Int), (⟨(0 : Int), (List.replicate 16 (0 : Int))⟩ : S_api_Addr)⟩ : S_api_Choice) f4 f5 f6 f7), ⟨(cS_api_Choice (⟨(⟨t3.Size, t3.Safi, t3.M, t3.U, t3.Next, (⟨t3.Attrs.Origin, t3.Attrs.Path, t3.Attrs.Med, (200 : Int), t3.Attrs.Originator, t3.Attrs.Clusters, t3.Attrs.Exts, t3.Attrs.Tunnels⟩ : S_api_Attrs)⟩ : S_api_Route), (1 : Int), (⟨(0 : Int), (List.replicate 16 (0 : Int))⟩ : S_api_Addr)⟩ : S_api_Choice) ao4 cap4 ao5 cap5 ao6 cap6 ao7 cap7), _, rfl, (rS_api_Choice.mk (⟨(⟨t3.Size, t3.Safi, t3.M, t3.U, t3.Next, (⟨t3.Attrs.Origin, t3.Attrs.Path, t3.Attrs.Med, (200 : Int), t3.Attrs.Originator, t3.Attrs.Clusters, t3.Attrs.Exts, t3.Attrs.Tunnels⟩ : S_api_Attrs)⟩ : S_api_Route), (1 : Int), (⟨(0 : Int), (List.replicate 16 (0 : Int))⟩ : S_api_Addr)⟩ : S_api_Choice) f4 f5 f6 f7), rfl⟩⟩ (Nat.le_of_ble_eq_true rfl)
  have fz := f40.toRSl (M' := [g26] ++ ([g16] ++ ([g9] ++ (M)))) (Ok.app (fun _ h => .inl (mr (ml h))) (Ok.app (fun _ h => .inl (mr (mr (ml h)))) (Ok.app (fun _ h => .inl (mr (mr (mr (ml h))))) (fun _ h => .inl (mr (mr (mr (mr (h))))))))) (fun x hx hm => (List.mem_append.1 hm).elim (fun h => p_i39_i28 x hx h) (fun h => (List.mem_append.1 h).elim (fun h => p_i39_i18 x hx h) (fun h => (List.mem_append.1 h).elim (fun h => p_i39_i11 x hx h) (fun h => p_i39_M x hx h))))
  have o1 : Ok [] ([g37] ++ ([g26] ++ ([g16] ++ ([g9] ++ (M))))) w36.heap.size := Ok.nil _ _
  have o2 : Ok ([g26] ++ ([g16] ++ ([g9] ++ (M)))) ([g37] ++ ([g26] ++ ([g16] ++ ([g9] ++ (M))))) w36.heap.size := (Ok.app (fun _ h => .inl (mr (ml h))) (Ok.app (fun _ h => .inl (mr (mr (ml h)))) (Ok.app (fun _ h => .inl (mr (mr (mr (ml h))))) (fun _ h => .inl (mr (mr (mr (mr (h)))))))))
  have f4 := f4.chg (Chg.refl [] _) o1 o2
  have f5 := f5.chg (Chg.refl [] _) o1 o2
  have f6 := f6.chg (Chg.refl [] _) o1 o2
  have f7 := f7.chg (Chg.refl [] _) o1 o2
  have hBg9 := hBg9.chg (Chg.refl [] _) (fun h => nomatch h)
  have hBg16 := hBg16.chg (Chg.refl [] _) (fun h => nomatch h)
  have hBg26 := hBg26.chg (Chg.refl [] _) (fun h => nomatch h)
  have hM : MS ([g26] ++ ([g16] ++ ([g9] ++ (M)))) w36 := (MS.app (fun x h => hM.chg (Chg.refl [] _) x (mr (ml h))) (MS.app (fun x h => hM.chg (Chg.refl [] _) x (mr (mr (ml h)))) (MS.app (fun x h => hM.chg (Chg.refl [] _) x (mr (mr (mr (ml h))))) (fun x h => hM.chg (Chg.refl [] _) x (mr (mr (mr (mr (h)))))))))
  have hC := hC.trans (Chg.refl [] _) (Ok.nil _ _)
  have f40 := fz
  obtain ⟨t41, H41, H⟩ := bind_some H
  refine cl ha (by rfl) (by kernel_rfl) (by rfl) (by rfl) (by rfl) (decide_Best.walk w36 _ hM ([(⟨t3, (1 : Int), (⟨(0 : Int), (List.replicate 16 (0 : Int))⟩ : S_api_Addr)⟩ : S_api_Choice), (⟨(⟨t3.Size, t3.Safi, t3.M, t3.U, t3.Next, (⟨t3.Attrs.Origin, t3.Attrs.Path, t3.Attrs.Med, (200 : Int), t3.Attrs.Originator, t3.Attrs.Clusters, t3.Attrs.Exts, t3.Attrs.Tunnels⟩ : S_api_Attrs)⟩ : S_api_Route), (1 : Int), (⟨(0 : Int), (List.replicate 16 (0 : Int))⟩ : S_api_Addr)⟩ : S_api_Choice)] : List S_api_Choice) (some ⟨g37, 0, none⟩) 2 f40 k _ H41) ?_
  rintro _ w41 ⟨rfl, hc41, hMn⟩ a ha
  have o1 : Ok [] ([g26] ++ ([g16] ++ ([g9] ++ (M)))) w36.heap.size := Ok.nil _ _
  have o2 : Ok ([g26] ++ ([g16] ++ ([g9] ++ (M)))) ([g26] ++ ([g16] ++ ([g9] ++ (M)))) w36.heap.size := (Ok.app (fun _ h => .inl (ml h)) (Ok.app (fun _ h => .inl (mr (ml h))) (Ok.app (fun _ h => .inl (mr (mr (ml h)))) (fun _ h => .inl (mr (mr (mr (h))))))))
  have f40 := f40.chg hc41 o1 o2
  have f4 := f4.chg hc41 o1 o2
  have f5 := f5.chg hc41 o1 o2
  have f6 := f6.chg hc41 o1 o2
  have f7 := f7.chg hc41 o1 o2
  have hBg9 := hBg9.chg hc41 (fun h => nomatch h)
  have hBg16 := hBg16.chg hc41 (fun h => nomatch h)
  have hBg26 := hBg26.chg hc41 (fun h => nomatch h)
  have hM : MS ([g26] ++ ([g16] ++ ([g9] ++ (M)))) w41 := (MS.app (fun x h => hM.chg hc41 x (ml h)) (MS.app (fun x h => hM.chg hc41 x (mr (ml h))) (MS.app (fun x h => hM.chg hc41 x (mr (mr (ml h)))) (fun x h => hM.chg hc41 x (mr (mr (mr (h))))))))
  have hC := hC.trans hc41 (Ok.nil _ _)
  refine seg ha 2 [(17, .bool (t41 == (1 : Int))), (1, .pointer (some ⟨g9, 0, none⟩)), (2, .pointer (some ⟨g16, 0, none⟩))] (by kernel_rfl) fun a ha => ?_
  rcases Bool.eq_false_or_eq_true (t41 == (1 : Int)) with hb42 | hb42
  · have ha := ha.lit hb42
    have H := ite_t hb42 H
    refine ldA (cs := (cS_api_Choice (⟨t3, (1 : Int), (⟨(0 : Int), (List.replicate 16 (0 : Int))⟩ : S_api_Addr)⟩ : S_api_Choice) ao4 cap4 ao5 cap5 ao6 cap6 ao7 cap7)) ha rfl (by kernel_rfl) rfl rfl rfl (cells_sub (Box.cells hBg9) (all := (cS_api_Choice (⟨t3, (1 : Int), (⟨(0 : Int), (List.replicate 16 (0 : Int))⟩ : S_api_Addr)⟩ : S_api_Choice) ao4 cap4 ao5 cap5 ao6 cap6 ao7 cap7)) [] [] (by kernel_rfl)) fun a ha => ?_
    refine ldA (cs := (cS_api_Choice (⟨t3, (0 : Int), (⟨(0 : Int), (List.replicate 16 (0 : Int))⟩ : S_api_Addr)⟩ : S_api_Choice) ao4 cap4 ao5 cap5 ao6 cap6 ao7 cap7)) ha rfl (by kernel_rfl) rfl rfl rfl (cells_sub (Box.cells hBg16) (all := (cS_api_Choice (⟨t3, (0 : Int), (⟨(0 : Int), (List.replicate 16 (0 : Int))⟩ : S_api_Addr)⟩ : S_api_Choice) ao4 cap4 ao5 cap5 ao6 cap6 ao7 cap7)) [] [] (by kernel_rfl)) fun a ha => ?_
    refine bslA (vals := ([.agg (cS_api_Choice (⟨t3, (1 : Int), (⟨(0 : Int), (List.replicate 16 (0 : Int))⟩ : S_api_Addr)⟩ : S_api_Choice) ao4 cap4 ao5 cap5 ao6 cap6 ao7 cap7).toArray, .agg (cS_api_Choice (⟨t3, (0 : Int), (⟨(0 : Int), (List.replicate 16 (0 : Int))⟩ : S_api_Addr)⟩ : S_api_Choice) ao4 cap4 ao5 cap5 ao6 cap6 ao7 cap7).toArray] : List Value)) (T := 42) (z := .agg (cS_api_Choice (⟨(⟨(0 : Int), (0 : Int), (⟨(0 : Int), (List.replicate 8 (0 : Int)), (0 : Int), (⟨(0 : Int), (List.replicate 16 (0 : Int))⟩ : S_api_Addr), (⟨(0 : Int), (List.replicate 16 (0 : Int))⟩ : S_api_Addr), (⟨(0 : Int), (List.replicate 16 (0 : Int))⟩ : S_api_Addr), ([] : List UInt8)⟩ : S_api_Mroute), (⟨(List.replicate 8 (0 : Int)), (⟨(⟨(0 : Int), (List.replicate 16 (0 : Int))⟩ : S_api_Addr), (0 : Int)⟩ : S_api_Prefix), (0 : Int)⟩ : S_api_Uroute), (⟨(0 : Int), (List.replicate 16 (0 : Int))⟩ : S_api_Addr), (⟨(0 : Int), ([] : List S_api_Segment), (0 : Int), (0 : Int), (⟨(0 : Int), (List.replicate 16 (0 : Int))⟩ : S_api_Addr), ([] : List S_api_Addr), ([] : List (List Int)), ([] : List S_api_Tunnel)⟩ : S_api_Attrs)⟩ : S_api_Route), (0 : Int), (⟨(0 : Int), (List.replicate 16 (0 : Int))⟩ : S_api_Addr)⟩ : S_api_Choice) none 0 none 0 none 0 none 0).toArray) ha rfl (by kernel_rfl) rfl (by kernel_rfl) (s := 150) (by kernel_rfl) rfl rfl (fun w => by kernel_rfl) (by kernel_rfl) rfl rfl rfl fun a w43 g44 hN45 ha => ?_
    have hN45 := (show New _ _ _ (.cells (((cS_api_Choice (⟨t3, (1 : Int), (⟨(0 : Int), (List.replicate 16 (0 : Int))⟩ : S_api_Addr)⟩ : S_api_Choice) ao4 cap4 ao5 cap5 ao6 cap6 ao7 cap7) ++ ((cS_api_Choice (⟨t3, (0 : Int), (⟨(0 : Int), (List.replicate 16 (0 : Int))⟩ : S_api_Addr)⟩ : S_api_Choice) ao4 cap4 ao5 cap5 ao6 cap6 ao7 cap7) ++ ([] : List Value)))).toArray 42 (0, 0)) from hN45)
    have o1 : Ok [] ([g26] ++ ([g16] ++ ([g9] ++ (M)))) w41.heap.size := Ok.nil _ _
    have o2 : Ok ([g44] ++ ([g26] ++ ([g16] ++ ([g9] ++ (M))))) ([g26] ++ ([g16] ++ ([g9] ++ (M)))) w41.heap.size := (Ok.app (hN45.ok _) (Ok.app (fun _ h => .inl (ml h)) (Ok.app (fun _ h => .inl (mr (ml h))) (Ok.app (fun _ h => .inl (mr (mr (ml h)))) (fun _ h => .inl (mr (mr (mr (h)))))))))
    have f4 := f4.chg hN45.chg o1 o2
    have f5 := f5.chg hN45.chg o1 o2
    have f6 := f6.chg hN45.chg o1 o2
    have f7 := f7.chg hN45.chg o1 o2
    have hBg9 := hBg9.chg hN45.chg (fun h => nomatch h)
    have hBg16 := hBg16.chg hN45.chg (fun h => nomatch h)
    have hBg26 := hBg26.chg hN45.chg (fun h => nomatch h)
    have nw : Ok ([g44]) ([g26] ++ ([g16] ++ ([g9] ++ (M)))) w41.heap.size := (hN45.ok _)
    have p_i46_i28 : ∀ x ∈ [g44], x ∉ ([g26]) := fun x hx hy => absurd (hM x (ml hy)) (Nat.not_lt.2 ((hN45.ge1) x hx))
    have p_i46_i18 : ∀ x ∈ [g44], x ∉ ([g16]) := fun x hx hy => absurd (hM x (mr (ml hy))) (Nat.not_lt.2 ((hN45.ge1) x hx))
    have p_i46_i11 : ∀ x ∈ [g44], x ∉ ([g9]) := fun x hx hy => absurd (hM x (mr (mr (ml hy)))) (Nat.not_lt.2 ((hN45.ge1) x hx))
    have p_i46_M : ∀ x ∈ [g44], x ∉ M := fun x hx hy => absurd (hM x (mr (mr (mr (hy))))) (Nat.not_lt.2 ((hN45.ge1) x hx))
    have e_i46 : ∀ x ∈ [g44], w.heap.size ≤ x := fun x hx => Nat.le_trans hC.size ((hN45.ge1) x hx)
    have hM : MS ([g44] ++ ([g26] ++ ([g16] ++ ([g9] ++ (M))))) w43 := (MS.app hN45.ms (MS.app (fun x h => hM.chg hN45.chg x (ml h)) (MS.app (fun x h => hM.chg hN45.chg x (mr (ml h))) (MS.app (fun x h => hM.chg hN45.chg x (mr (mr (ml h)))) (fun x h => hM.chg hN45.chg x (mr (mr (mr (h)))))))))
    have hC := hC.trans hN45.chg (Ok.nil _ _)
    have f47 : Own rS_api_Choice 42 w43 ([g44] ++ ([g26] ++ ([g16] ++ ([g9] ++ (M))))) (some ⟨g44, 0, none⟩) 2 ([(⟨t3, (1 : Int), (⟨(0 : Int), (List.replicate 16 (0 : Int))⟩ : S_api_Addr)⟩ : S_api_Choice), (⟨t3, (0 : Int), (⟨(0 : Int), (List.replicate 16 (0 : Int))⟩ : S_api_Addr)⟩ : S_api_Choice)] : List S_api_Choice) := hN45.own ⟨(cS_api_Choice (⟨t3, (1 : Int), (⟨(0 : Int), (List.replicate 16 (0 : Int))⟩ : S_api_Addr)⟩ : S_api_Choice) ao4 cap4 ao5 cap5 ao6 cap6 ao7 cap7), _, rfl, (rS_api_Choice.mk (⟨t3, (1 : Int), (⟨(0 : Int), (List.replicate 16 (0 : Int))⟩ : S_api_Addr)⟩ : S_api_Choice) f4 f5 f6 f7), ⟨(cS_api_Choice (⟨t3, (0 : Int), (⟨(0 : Int), (List.replicate 16 (0 : Int))⟩ : S_api_Addr)⟩ : S_api_Choice) ao4 cap4 ao5 cap5 ao6 cap6 ao7 cap7), _, rfl, (rS_api_Choice.mk (⟨t3, (0 : Int), (⟨(0 : Int), (List.replicate 16 (0 : Int))⟩ : S_api_Addr)⟩ : S_api_Choice) f4 f5 f6 f7), rfl⟩⟩ (Nat.le_of_ble_eq_true rfl)
    have fz := f47.toRSl (M' := [g26] ++ ([g16] ++ ([g9] ++ (M)))) (Ok.app (fun _ h => .inl (mr (ml h))) (Ok.app (fun _ h => .inl (mr (mr (ml h)))) (Ok.app (fun _ h => .inl (mr (mr (mr (ml h))))) (fun _ h => .inl (mr (mr (mr (mr (h))))))))) (fun x hx hm => (List.mem_append.1 hm).elim (fun h => p_i46_i28 x hx h) (fun h => (List.mem_append.1 h).elim (fun h => p_i46_i18 x hx h) (fun h => (List.mem_append.1 h).elim (fun h => p_i46_i11 x hx h) (fun h => p_i46_M x hx h))))
    have o1 : Ok [] ([g44] ++ ([g26] ++ ([g16] ++ ([g9] ++ (M))))) w43.heap.size := Ok.nil _ _
    have o2 : Ok ([g26] ++ ([g16] ++ ([g9] ++ (M)))) ([g44] ++ ([g26] ++ ([g16] ++ ([g9] ++ (M))))) w43.heap.size := (Ok.app (fun _ h => .inl (mr (ml h))) (Ok.app (fun _ h => .inl (mr (mr (ml h)))) (Ok.app (fun _ h => .inl (mr (mr (mr (ml h))))) (fun _ h => .inl (mr (mr (mr (mr (h)))))))))
    have f4 := f4.chg (Chg.refl [] _) o1 o2
    have f5 := f5.chg (Chg.refl [] _) o1 o2
    have f6 := f6.chg (Chg.refl [] _) o1 o2
    have f7 := f7.chg (Chg.refl [] _) o1 o2
    have hBg9 := hBg9.chg (Chg.refl [] _) (fun h => nomatch h)
    have hBg16 := hBg16.chg (Chg.refl [] _) (fun h => nomatch h)
    have hBg26 := hBg26.chg (Chg.refl [] _) (fun h => nomatch h)
    have hM : MS ([g26] ++ ([g16] ++ ([g9] ++ (M)))) w43 := (MS.app (fun x h => hM.chg (Chg.refl [] _) x (mr (ml h))) (MS.app (fun x h => hM.chg (Chg.refl [] _) x (mr (mr (ml h)))) (MS.app (fun x h => hM.chg (Chg.refl [] _) x (mr (mr (mr (ml h))))) (fun x h => hM.chg (Chg.refl [] _) x (mr (mr (mr (mr (h)))))))))
    have hC := hC.trans (Chg.refl [] _) (Ok.nil _ _)
    have f47 := fz
    obtain ⟨t48, H48, H⟩ := bind_some H
    refine cl ha (by rfl) (by kernel_rfl) (by rfl) (by rfl) (by rfl) (decide_Best.walk w43 _ hM ([(⟨t3, (1 : Int), (⟨(0 : Int), (List.replicate 16 (0 : Int))⟩ : S_api_Addr)⟩ : S_api_Choice), (⟨t3, (0 : Int), (⟨(0 : Int), (List.replicate 16 (0 : Int))⟩ : S_api_Addr)⟩ : S_api_Choice)] : List S_api_Choice) (some ⟨g44, 0, none⟩) 2 f47 k _ H48) ?_
    rintro _ w48 ⟨rfl, hc48, hMn⟩ a ha
    have o1 : Ok [] ([g26] ++ ([g16] ++ ([g9] ++ (M)))) w43.heap.size := Ok.nil _ _
    have o2 : Ok ([g26] ++ ([g16] ++ ([g9] ++ (M)))) ([g26] ++ ([g16] ++ ([g9] ++ (M)))) w43.heap.size := (Ok.app (fun _ h => .inl (ml h)) (Ok.app (fun _ h => .inl (mr (ml h))) (Ok.app (fun _ h => .inl (mr (mr (ml h)))) (fun _ h => .inl (mr (mr (mr (h))))))))
    have f47 := f47.chg hc48 o1 o2
    have f4 := f4.chg hc48 o1 o2
    have f5 := f5.chg hc48 o1 o2
    have f6 := f6.chg hc48 o1 o2
    have f7 := f7.chg hc48 o1 o2
    have hBg9 := hBg9.chg hc48 (fun h => nomatch h)
    have hBg16 := hBg16.chg hc48 (fun h => nomatch h)
    have hBg26 := hBg26.chg hc48 (fun h => nomatch h)
    have hM : MS ([g26] ++ ([g16] ++ ([g9] ++ (M)))) w48 := (MS.app (fun x h => hM.chg hc48 x (ml h)) (MS.app (fun x h => hM.chg hc48 x (mr (ml h))) (MS.app (fun x h => hM.chg hc48 x (mr (mr (ml h)))) (fun x h => hM.chg hc48 x (mr (mr (mr (h))))))))
    have hC := hC.trans hc48 (Ok.nil _ _)
    refine sgh ha 3 [2, 3, 0] [(24, .bool (t48 == (1 : Int))), (1, .pointer (some ⟨g9, 0, none⟩)), (2, .pointer (some ⟨g16, 0, none⟩))] (by kernel_rfl) fun a ha => ?_
    rcases Bool.eq_false_or_eq_true (t48 == (1 : Int)) with hb49 | hb49
    · have ha := ha.lit hb49
      have H := ite_t hb49 H
      obtain ⟨t50, H50, H⟩ := bind_some H
      refine cl ha (by rfl) (by kernel_rfl) (by rfl) (by rfl) (by rfl) (decide_Best.walk w48 _ hM ([] : List S_api_Choice) none 0 (RSl.nil (Nat.zero_le _)) k _ H50) ?_
      rintro _ w50 ⟨rfl, hc50, hMn⟩ a ha
      have o1 : Ok [] ([g26] ++ ([g16] ++ ([g9] ++ (M)))) w48.heap.size := Ok.nil _ _
      have o2 : Ok ([g26] ++ ([g16] ++ ([g9] ++ (M)))) ([g26] ++ ([g16] ++ ([g9] ++ (M)))) w48.heap.size := (Ok.app (fun _ h => .inl (ml h)) (Ok.app (fun _ h => .inl (mr (ml h))) (Ok.app (fun _ h => .inl (mr (mr (ml h)))) (fun _ h => .inl (mr (mr (mr (h))))))))
      have f4 := f4.chg hc50 o1 o2
      have f5 := f5.chg hc50 o1 o2
      have f6 := f6.chg hc50 o1 o2
      have f7 := f7.chg hc50 o1 o2
      have hBg9 := hBg9.chg hc50 (fun h => nomatch h)
      have hBg16 := hBg16.chg hc50 (fun h => nomatch h)
      have hBg26 := hBg26.chg hc50 (fun h => nomatch h)
      have hM : MS ([g26] ++ ([g16] ++ ([g9] ++ (M)))) w50 := (MS.app (fun x h => hM.chg hc50 x (ml h)) (MS.app (fun x h => hM.chg hc50 x (mr (ml h))) (MS.app (fun x h => hM.chg hc50 x (mr (mr (ml h)))) (fun x h => hM.chg hc50 x (mr (mr (mr (h))))))))
      have hC := hC.trans hc50 (Ok.nil _ _)
      refine sgh ha 3 [2, 3, 0] [(28, .bool (t50 == (-1 : Int))), (1, .pointer (some ⟨g9, 0, none⟩)), (2, .pointer (some ⟨g16, 0, none⟩))] (by kernel_rfl) fun a ha => ?_
      rcases Bool.eq_false_or_eq_true (t50 == (-1 : Int)) with hb51 | hb51
      · have ha := ha.lit hb51
        have H := ite_t hb51 H
        refine ldA (cs := (cS_api_Choice (⟨t3, (0 : Int), (⟨(0 : Int), (List.replicate 16 (0 : Int))⟩ : S_api_Addr)⟩ : S_api_Choice) ao4 cap4 ao5 cap5 ao6 cap6 ao7 cap7)) ha rfl (by kernel_rfl) rfl rfl rfl (cells_sub (Box.cells hBg16) (all := (cS_api_Choice (⟨t3, (0 : Int), (⟨(0 : Int), (List.replicate 16 (0 : Int))⟩ : S_api_Addr)⟩ : S_api_Choice) ao4 cap4 ao5 cap5 ao6 cap6 ao7 cap7)) [] [] (by kernel_rfl)) fun a ha => ?_
        refine ldA (cs := (cS_api_Choice (⟨t3, (1 : Int), (⟨(0 : Int), (List.replicate 16 (0 : Int))⟩ : S_api_Addr)⟩ : S_api_Choice) ao4 cap4 ao5 cap5 ao6 cap6 ao7 cap7)) ha rfl (by kernel_rfl) rfl rfl rfl (cells_sub (Box.cells hBg9) (all := (cS_api_Choice (⟨t3, (1 : Int), (⟨(0 : Int), (List.replicate 16 (0 : Int))⟩ : S_api_Addr)⟩ : S_api_Choice) ao4 cap4 ao5 cap5 ao6 cap6 ao7 cap7)) [] [] (by kernel_rfl)) fun a ha => ?_
        obtain ⟨t52, H52, H⟩ := bind_some H
        refine cl ha (by rfl) (by kernel_rfl) (by rfl) (by rfl) (by rfl) (decide_Compare.walk w50 _ hM (⟨t3, (0 : Int), (⟨(0 : Int), (List.replicate 16 (0 : Int))⟩ : S_api_Addr)⟩ : S_api_Choice) ao4 cap4 f4 ao5 cap5 f5 ao6 cap6 f6 ao7 cap7 f7 (⟨t3, (1 : Int), (⟨(0 : Int), (List.replicate 16 (0 : Int))⟩ : S_api_Addr)⟩ : S_api_Choice) ao4 cap4 f4 ao5 cap5 f5 ao6 cap6 f6 ao7 cap7 f7 k _ H52) ?_
        rintro _ w52 ⟨rfl, hc52, hMn⟩ a ha
        have o1 : Ok [] ([g26] ++ ([g16] ++ ([g9] ++ (M)))) w50.heap.size := Ok.nil _ _
        have o2 : Ok ([g26] ++ ([g16] ++ ([g9] ++ (M)))) ([g26] ++ ([g16] ++ ([g9] ++ (M)))) w50.heap.size := (Ok.app (fun _ h => .inl (ml h)) (Ok.app (fun _ h => .inl (mr (ml h))) (Ok.app (fun _ h => .inl (mr (mr (ml h)))) (fun _ h => .inl (mr (mr (mr (h))))))))
        have f4 := f4.chg hc52 o1 o2
        have f5 := f5.chg hc52 o1 o2
        have f6 := f6.chg hc52 o1 o2
        have f7 := f7.chg hc52 o1 o2
        have hBg9 := hBg9.chg hc52 (fun h => nomatch h)
        have hBg16 := hBg16.chg hc52 (fun h => nomatch h)
        have hBg26 := hBg26.chg hc52 (fun h => nomatch h)
        have hM : MS ([g26] ++ ([g16] ++ ([g9] ++ (M)))) w52 := (MS.app (fun x h => hM.chg hc52 x (ml h)) (MS.app (fun x h => hM.chg hc52 x (mr (ml h))) (MS.app (fun x h => hM.chg hc52 x (mr (mr (ml h)))) (fun x h => hM.chg hc52 x (mr (mr (mr (h))))))))
        have hC := hC.trans hc52 (Ok.nil _ _)
        refine sgh ha 3 [2, 3, 0] [(34, .bool (t52 == (-1 : Int)))] (by kernel_rfl) fun a ha => ?_
        rcases Bool.eq_false_or_eq_true (t52 == (-1 : Int)) with hb53 | hb53
        · have ha := ha.lit hb53
          have H := ite_t hb53 H
          refine bsl (vals := ([.int .i64 (1 : Int), .int .i64 (2 : Int)] : List Value)) (T := 3) ha rfl (([.int .i64 (1 : Int)] : List Value) ++ (([.int .i64 (2 : Int)] : List Value) ++ ([] : List Value))) (fun w => by kernel_rfl) rfl rfl rfl fun a w54 g55 hN56 ha => ?_
          have o1 : Ok [] ([g26] ++ ([g16] ++ ([g9] ++ (M)))) w52.heap.size := Ok.nil _ _
          have o2 : Ok ([g55] ++ ([g26] ++ ([g16] ++ ([g9] ++ (M))))) ([g26] ++ ([g16] ++ ([g9] ++ (M)))) w52.heap.size := (Ok.app (hN56.ok _) (Ok.app (fun _ h => .inl (ml h)) (Ok.app (fun _ h => .inl (mr (ml h))) (Ok.app (fun _ h => .inl (mr (mr (ml h)))) (fun _ h => .inl (mr (mr (mr (h)))))))))
          have f4 := f4.chg hN56.chg o1 o2
          have f5 := f5.chg hN56.chg o1 o2
          have f6 := f6.chg hN56.chg o1 o2
          have f7 := f7.chg hN56.chg o1 o2
          have hBg9 := hBg9.chg hN56.chg (fun h => nomatch h)
          have hBg16 := hBg16.chg hN56.chg (fun h => nomatch h)
          have hBg26 := hBg26.chg hN56.chg (fun h => nomatch h)
          have nw : Ok ([g55]) ([g26] ++ ([g16] ++ ([g9] ++ (M)))) w52.heap.size := (hN56.ok _)
          have p_i57_i28 : ∀ x ∈ [g55], x ∉ ([g26]) := fun x hx hy => absurd (hM x (ml hy)) (Nat.not_lt.2 ((hN56.ge1) x hx))
          have p_i57_i18 : ∀ x ∈ [g55], x ∉ ([g16]) := fun x hx hy => absurd (hM x (mr (ml hy))) (Nat.not_lt.2 ((hN56.ge1) x hx))
          have p_i57_i11 : ∀ x ∈ [g55], x ∉ ([g9]) := fun x hx hy => absurd (hM x (mr (mr (ml hy)))) (Nat.not_lt.2 ((hN56.ge1) x hx))
          have p_i57_M : ∀ x ∈ [g55], x ∉ M := fun x hx hy => absurd (hM x (mr (mr (mr (hy))))) (Nat.not_lt.2 ((hN56.ge1) x hx))
          have e_i57 : ∀ x ∈ [g55], w.heap.size ≤ x := fun x hx => Nat.le_trans hC.size ((hN56.ge1) x hx)
          have hM : MS ([g55] ++ ([g26] ++ ([g16] ++ ([g9] ++ (M))))) w54 := (MS.app hN56.ms (MS.app (fun x h => hM.chg hN56.chg x (ml h)) (MS.app (fun x h => hM.chg hN56.chg x (mr (ml h))) (MS.app (fun x h => hM.chg hN56.chg x (mr (mr (ml h)))) (fun x h => hM.chg hN56.chg x (mr (mr (mr (h)))))))))
          have hC := hC.trans hN56.chg (Ok.nil _ _)
          have f58 : Own (rInt .i64) 3 w54 ([g55] ++ ([g26] ++ ([g16] ++ ([g9] ++ (M))))) (some ⟨g55, 0, none⟩) 2 ([(1 : Int), (2 : Int)] : List Int) := hN56.own ⟨([.int .i64 (1 : Int)] : List Value), _, rfl, rfl, ⟨([.int .i64 (2 : Int)] : List Value), _, rfl, rfl, rfl⟩⟩ (Nat.le_of_ble_eq_true rfl)
          refine opk (v := .agg (cS_api_Segment (⟨true, ([(1 : Int), (2 : Int)] : List Int)⟩ : S_api_Segment) (some ⟨g55, 0, none⟩) 2).toArray) ha rfl rfl rfl rfl rfl (fun w => by kernel_rfl) fun a ha => ?_
          refine bsl (vals := ([.int .i64 (3 : Int), .int .i64 (4 : Int)] : List Value)) (T := 3) ha rfl (([.int .i64 (3 : Int)] : List Value) ++ (([.int .i64 (4 : Int)] : List Value) ++ ([] : List Value))) (fun w => by kernel_rfl) rfl rfl rfl fun a w59 g60 hN61 ha => ?_
          have o1 : Ok [] ([g55] ++ ([g26] ++ ([g16] ++ ([g9] ++ (M))))) w54.heap.size := Ok.nil _ _
          have o2 : Ok ([g60] ++ ([g55] ++ ([g26] ++ ([g16] ++ ([g9] ++ (M)))))) ([g55] ++ ([g26] ++ ([g16] ++ ([g9] ++ (M))))) w54.heap.size := (Ok.app (hN61.ok _) (Ok.app (fun _ h => .inl (ml h)) (Ok.app (fun _ h => .inl (mr (ml h))) (Ok.app (fun _ h => .inl (mr (mr (ml h)))) (Ok.app (fun _ h => .inl (mr (mr (mr (ml h))))) (fun _ h => .inl (mr (mr (mr (mr (h)))))))))))
          have f58 := f58.chg hN61.chg o1 o2 (fun _ _ h => nomatch h) (fun _ h => mr (ml h))
          have f4 := f4.chg hN61.chg o1 o2
          have f5 := f5.chg hN61.chg o1 o2
          have f6 := f6.chg hN61.chg o1 o2
          have f7 := f7.chg hN61.chg o1 o2
          have hBg9 := hBg9.chg hN61.chg (fun h => nomatch h)
          have hBg16 := hBg16.chg hN61.chg (fun h => nomatch h)
          have hBg26 := hBg26.chg hN61.chg (fun h => nomatch h)
          have nw : Ok ([g60]) ([g55] ++ ([g26] ++ ([g16] ++ ([g9] ++ (M))))) w54.heap.size := (hN61.ok _)
          have p_i62_i57 : ∀ x ∈ [g60], x ∉ ([g55]) := fun x hx hy => absurd (hM x (ml hy)) (Nat.not_lt.2 ((hN61.ge1) x hx))
          have p_i62_i28 : ∀ x ∈ [g60], x ∉ ([g26]) := fun x hx hy => absurd (hM x (mr (ml hy))) (Nat.not_lt.2 ((hN61.ge1) x hx))
          have p_i62_i18 : ∀ x ∈ [g60], x ∉ ([g16]) := fun x hx hy => absurd (hM x (mr (mr (ml hy)))) (Nat.not_lt.2 ((hN61.ge1) x hx))
          have p_i62_i11 : ∀ x ∈ [g60], x ∉ ([g9]) := fun x hx hy => absurd (hM x (mr (mr (mr (ml hy))))) (Nat.not_lt.2 ((hN61.ge1) x hx))
          have p_i62_M : ∀ x ∈ [g60], x ∉ M := fun x hx hy => absurd (hM x (mr (mr (mr (mr (hy)))))) (Nat.not_lt.2 ((hN61.ge1) x hx))
          have e_i62 : ∀ x ∈ [g60], w.heap.size ≤ x := fun x hx => Nat.le_trans hC.size ((hN61.ge1) x hx)
          have hM : MS ([g60] ++ ([g55] ++ ([g26] ++ ([g16] ++ ([g9] ++ (M)))))) w59 := (MS.app hN61.ms (MS.app (fun x h => hM.chg hN61.chg x (ml h)) (MS.app (fun x h => hM.chg hN61.chg x (mr (ml h))) (MS.app (fun x h => hM.chg hN61.chg x (mr (mr (ml h)))) (MS.app (fun x h => hM.chg hN61.chg x (mr (mr (mr (ml h))))) (fun x h => hM.chg hN61.chg x (mr (mr (mr (mr (h)))))))))))
          have hC := hC.trans hN61.chg (Ok.nil _ _)
          have f63 : Own (rInt .i64) 3 w59 ([g60] ++ ([g55] ++ ([g26] ++ ([g16] ++ ([g9] ++ (M)))))) (some ⟨g60, 0, none⟩) 2 ([(3 : Int), (4 : Int)] : List Int) := hN61.own ⟨([.int .i64 (3 : Int)] : List Value), _, rfl, rfl, ⟨([.int .i64 (4 : Int)] : List Value), _, rfl, rfl, rfl⟩⟩ (Nat.le_of_ble_eq_true rfl)
          refine opk (v := .agg (cS_api_Segment (⟨false, ([(3 : Int), (4 : Int)] : List Int)⟩ : S_api_Segment) (some ⟨g60, 0, none⟩) 2).toArray) ha rfl rfl rfl rfl rfl (fun w => by kernel_rfl) fun a ha => ?_
          have fz := f58.toRSl (M' := [g60] ++ ([g26] ++ ([g16] ++ ([g9] ++ (M))))) (Ok.app (fun _ h => .inl (ml h)) (Ok.app (fun _ h => .inl (mr (mr (ml h)))) (Ok.app (fun _ h => .inl (mr (mr (mr (ml h))))) (Ok.app (fun _ h => .inl (mr (mr (mr (mr (ml h)))))) (fun _ h => .inl (mr (mr (mr (mr (mr (h))))))))))) (fun x hx hm => (List.mem_append.1 hm).elim (fun h => (fun x hx hy => p_i62_i57 x hy hx) x hx h) (fun h => (List.mem_append.1 h).elim (fun h => p_i57_i28 x hx h) (fun h => (List.mem_append.1 h).elim (fun h => p_i57_i18 x hx h) (fun h => (List.mem_append.1 h).elim (fun h => p_i57_i11 x hx h) (fun h => p_i57_M x hx h)))))
          have o1 : Ok [] ([g60] ++ ([g55] ++ ([g26] ++ ([g16] ++ ([g9] ++ (M)))))) w59.heap.size := Ok.nil _ _
          have o2 : Ok ([g60] ++ ([g26] ++ ([g16] ++ ([g9] ++ (M))))) ([g60] ++ ([g55] ++ ([g26] ++ ([g16] ++ ([g9] ++ (M)))))) w59.heap.size := (Ok.app (fun _ h => .inl (ml h)) (Ok.app (fun _ h => .inl (mr (mr (ml h)))) (Ok.app (fun _ h => .inl (mr (mr (mr (ml h))))) (Ok.app (fun _ h => .inl (mr (mr (mr (mr (ml h)))))) (fun _ h => .inl (mr (mr (mr (mr (mr (h)))))))))))
          have f63 := f63.chg (Chg.refl [] _) o1 o2 (fun _ _ h => nomatch h) (fun _ h => ml h)
          have f4 := f4.chg (Chg.refl [] _) o1 o2
          have f5 := f5.chg (Chg.refl [] _) o1 o2
          have f6 := f6.chg (Chg.refl [] _) o1 o2
          have f7 := f7.chg (Chg.refl [] _) o1 o2
          have hBg9 := hBg9.chg (Chg.refl [] _) (fun h => nomatch h)
          have hBg16 := hBg16.chg (Chg.refl [] _) (fun h => nomatch h)
          have hBg26 := hBg26.chg (Chg.refl [] _) (fun h => nomatch h)
          have hM : MS ([g60] ++ ([g26] ++ ([g16] ++ ([g9] ++ (M))))) w59 := (MS.app (fun x h => hM.chg (Chg.refl [] _) x (ml h)) (MS.app (fun x h => hM.chg (Chg.refl [] _) x (mr (mr (ml h)))) (MS.app (fun x h => hM.chg (Chg.refl [] _) x (mr (mr (mr (ml h))))) (MS.app (fun x h => hM.chg (Chg.refl [] _) x (mr (mr (mr (mr (ml h)))))) (fun x h => hM.chg (Chg.refl [] _) x (mr (mr (mr (mr (mr (h)))))))))))
          have hC := hC.trans (Chg.refl [] _) (Ok.nil _ _)
          have f58 := fz
          have fz := f63.toRSl (M' := [g26] ++ ([g16] ++ ([g9] ++ (M)))) (Ok.app (fun _ h => .inl (mr (ml h))) (Ok.app (fun _ h => .inl (mr (mr (ml h)))) (Ok.app (fun _ h => .inl (mr (mr (mr (ml h))))) (fun _ h => .inl (mr (mr (mr (mr (h))))))))) (fun x hx hm => (List.mem_append.1 hm).elim (fun h => p_i62_i28 x hx h) (fun h => (List.mem_append.1 h).elim (fun h => p_i62_i18 x hx h) (fun h => (List.mem_append.1 h).elim (fun h => p_i62_i11 x hx h) (fun h => p_i62_M x hx h))))
          have o1 : Ok [] ([g60] ++ ([g26] ++ ([g16] ++ ([g9] ++ (M))))) w59.heap.size := Ok.nil _ _
          have o2 : Ok ([g26] ++ ([g16] ++ ([g9] ++ (M)))) ([g60] ++ ([g26] ++ ([g16] ++ ([g9] ++ (M))))) w59.heap.size := (Ok.app (fun _ h => .inl (mr (ml h))) (Ok.app (fun _ h => .inl (mr (mr (ml h)))) (Ok.app (fun _ h => .inl (mr (mr (mr (ml h))))) (fun _ h => .inl (mr (mr (mr (mr (h)))))))))
          have f58 := f58.chg (Chg.refl [] _) o1 o2
          have f4 := f4.chg (Chg.refl [] _) o1 o2
          have f5 := f5.chg (Chg.refl [] _) o1 o2
          have f6 := f6.chg (Chg.refl [] _) o1 o2
          have f7 := f7.chg (Chg.refl [] _) o1 o2
          have hBg9 := hBg9.chg (Chg.refl [] _) (fun h => nomatch h)
          have hBg16 := hBg16.chg (Chg.refl [] _) (fun h => nomatch h)
          have hBg26 := hBg26.chg (Chg.refl [] _) (fun h => nomatch h)
          have hM : MS ([g26] ++ ([g16] ++ ([g9] ++ (M)))) w59 := (MS.app (fun x h => hM.chg (Chg.refl [] _) x (mr (ml h))) (MS.app (fun x h => hM.chg (Chg.refl [] _) x (mr (mr (ml h)))) (MS.app (fun x h => hM.chg (Chg.refl [] _) x (mr (mr (mr (ml h))))) (fun x h => hM.chg (Chg.refl [] _) x (mr (mr (mr (mr (h)))))))))
          have hC := hC.trans (Chg.refl [] _) (Ok.nil _ _)
          have f63 := fz
          refine bslA (vals := ([.agg (cS_api_Segment (⟨true, ([(1 : Int), (2 : Int)] : List Int)⟩ : S_api_Segment) (some ⟨g55, 0, none⟩) 2).toArray, .agg (cS_api_Segment (⟨false, ([(3 : Int), (4 : Int)] : List Int)⟩ : S_api_Segment) (some ⟨g60, 0, none⟩) 2).toArray] : List Value)) (T := 58) (z := .agg (cS_api_Segment (⟨false, ([] : List Int)⟩ : S_api_Segment) none 0).toArray) ha rfl (by kernel_rfl) rfl (by kernel_rfl) (s := 2) (by kernel_rfl) rfl rfl (fun w => by kernel_rfl) (by kernel_rfl) rfl rfl rfl fun a w64 g65 hN66 ha => ?_
          have hN66 := (show New _ _ _ (.cells (((cS_api_Segment (⟨true, ([(1 : Int), (2 : Int)] : List Int)⟩ : S_api_Segment) (some ⟨g55, 0, none⟩) 2) ++ ((cS_api_Segment (⟨false, ([(3 : Int), (4 : Int)] : List Int)⟩ : S_api_Segment) (some ⟨g60, 0, none⟩) 2) ++ ([] : List Value)))).toArray 58 (0, 0)) from hN66)
          have o1 : Ok [] ([g26] ++ ([g16] ++ ([g9] ++ (M)))) w59.heap.size := Ok.nil _ _
          have o2 : Ok ([g65] ++ ([g26] ++ ([g16] ++ ([g9] ++ (M))))) ([g26] ++ ([g16] ++ ([g9] ++ (M)))) w59.heap.size := (Ok.app (hN66.ok _) (Ok.app (fun _ h => .inl (ml h)) (Ok.app (fun _ h => .inl (mr (ml h))) (Ok.app (fun _ h => .inl (mr (mr (ml h)))) (fun _ h => .inl (mr (mr (mr (h)))))))))
          have f58 := f58.chg hN66.chg o1 o2
          have f63 := f63.chg hN66.chg o1 o2
          have f4 := f4.chg hN66.chg o1 o2
          have f5 := f5.chg hN66.chg o1 o2
          have f6 := f6.chg hN66.chg o1 o2
          have f7 := f7.chg hN66.chg o1 o2
          have hBg9 := hBg9.chg hN66.chg (fun h => nomatch h)
          have hBg16 := hBg16.chg hN66.chg (fun h => nomatch h)
          have hBg26 := hBg26.chg hN66.chg (fun h => nomatch h)
          have nw : Ok ([g65]) ([g26] ++ ([g16] ++ ([g9] ++ (M)))) w59.heap.size := (hN66.ok _)
          have p_i67_i28 : ∀ x ∈ [g65], x ∉ ([g26]) := fun x hx hy => absurd (hM x (ml hy)) (Nat.not_lt.2 ((hN66.ge1) x hx))
          have p_i67_i18 : ∀ x ∈ [g65], x ∉ ([g16]) := fun x hx hy => absurd (hM x (mr (ml hy))) (Nat.not_lt.2 ((hN66.ge1) x hx))
          have p_i67_i11 : ∀ x ∈ [g65], x ∉ ([g9]) := fun x hx hy => absurd (hM x (mr (mr (ml hy)))) (Nat.not_lt.2 ((hN66.ge1) x hx))
          have p_i67_M : ∀ x ∈ [g65], x ∉ M := fun x hx hy => absurd (hM x (mr (mr (mr (hy))))) (Nat.not_lt.2 ((hN66.ge1) x hx))
          have e_i67 : ∀ x ∈ [g65], w.heap.size ≤ x := fun x hx => Nat.le_trans hC.size ((hN66.ge1) x hx)
          have hM : MS ([g65] ++ ([g26] ++ ([g16] ++ ([g9] ++ (M))))) w64 := (MS.app hN66.ms (MS.app (fun x h => hM.chg hN66.chg x (ml h)) (MS.app (fun x h => hM.chg hN66.chg x (mr (ml h))) (MS.app (fun x h => hM.chg hN66.chg x (mr (mr (ml h)))) (fun x h => hM.chg hN66.chg x (mr (mr (mr (h)))))))))
          have hC := hC.trans hN66.chg (Ok.nil _ _)
          have f68 : Own rS_api_Segment 58 w64 ([g65] ++ ([g26] ++ ([g16] ++ ([g9] ++ (M))))) (some ⟨g65, 0, none⟩) 2 ([(⟨true, ([(1 : Int), (2 : Int)] : List Int)⟩ : S_api_Segment), (⟨false, ([(3 : Int), (4 : Int)] : List Int)⟩ : S_api_Segment)] : List S_api_Segment) := hN66.own ⟨(cS_api_Segment (⟨true, ([(1 : Int), (2 : Int)] : List Int)⟩ : S_api_Segment) (some ⟨g55, 0, none⟩) 2), _, rfl, (rS_api_Segment.mk (⟨true, ([(1 : Int), (2 : Int)] : List Int)⟩ : S_api_Segment) f58), ⟨(cS_api_Segment (⟨false, ([(3 : Int), (4 : Int)] : List Int)⟩ : S_api_Segment) (some ⟨g60, 0, none⟩) 2), _, rfl, (rS_api_Segment.mk (⟨false, ([(3 : Int), (4 : Int)] : List Int)⟩ : S_api_Segment) f63), rfl⟩⟩ (Nat.le_of_ble_eq_true rfl)
          have fz := f68.toRSl (M' := [g26] ++ ([g16] ++ ([g9] ++ (M)))) (Ok.app (fun _ h => .inl (mr (ml h))) (Ok.app (fun _ h => .inl (mr (mr (ml h)))) (Ok.app (fun _ h => .inl (mr (mr (mr (ml h))))) (fun _ h => .inl (mr (mr (mr (mr (h))))))))) (fun x hx hm => (List.mem_append.1 hm).elim (fun h => p_i67_i28 x hx h) (fun h => (List.mem_append.1 h).elim (fun h => p_i67_i18 x hx h) (fun h => (List.mem_append.1 h).elim (fun h => p_i67_i11 x hx h) (fun h => p_i67_M x hx h))))
          have o1 : Ok [] ([g65] ++ ([g26] ++ ([g16] ++ ([g9] ++ (M))))) w64.heap.size := Ok.nil _ _
          have o2 : Ok ([g26] ++ ([g16] ++ ([g9] ++ (M)))) ([g65] ++ ([g26] ++ ([g16] ++ ([g9] ++ (M))))) w64.heap.size := (Ok.app (fun _ h => .inl (mr (ml h))) (Ok.app (fun _ h => .inl (mr (mr (ml h)))) (Ok.app (fun _ h => .inl (mr (mr (mr (ml h))))) (fun _ h => .inl (mr (mr (mr (mr (h)))))))))
          have f4 := f4.chg (Chg.refl [] _) o1 o2
          have f5 := f5.chg (Chg.refl [] _) o1 o2
          have f6 := f6.chg (Chg.refl [] _) o1 o2
          have f7 := f7.chg (Chg.refl [] _) o1 o2
          have hBg9 := hBg9.chg (Chg.refl [] _) (fun h => nomatch h)
          have hBg16 := hBg16.chg (Chg.refl [] _) (fun h => nomatch h)
          have hBg26 := hBg26.chg (Chg.refl [] _) (fun h => nomatch h)
          have hM : MS ([g26] ++ ([g16] ++ ([g9] ++ (M)))) w64 := (MS.app (fun x h => hM.chg (Chg.refl [] _) x (mr (ml h))) (MS.app (fun x h => hM.chg (Chg.refl [] _) x (mr (mr (ml h)))) (MS.app (fun x h => hM.chg (Chg.refl [] _) x (mr (mr (mr (ml h))))) (fun x h => hM.chg (Chg.refl [] _) x (mr (mr (mr (mr (h)))))))))
          have hC := hC.trans (Chg.refl [] _) (Ok.nil _ _)
          have f68 := fz
          obtain ⟨t69, H69, H⟩ := bind_some H
          refine cl ha (by rfl) (by kernel_rfl) (by rfl) (by rfl) (by rfl) (decide_Length.walk w64 _ hM ([(⟨true, ([(1 : Int), (2 : Int)] : List Int)⟩ : S_api_Segment), (⟨false, ([(3 : Int), (4 : Int)] : List Int)⟩ : S_api_Segment)] : List S_api_Segment) (some ⟨g65, 0, none⟩) 2 f68 k _ H69) ?_
          rintro _ w69 ⟨rfl, hc69, hMn⟩ a ha
          have o1 : Ok [] ([g26] ++ ([g16] ++ ([g9] ++ (M)))) w64.heap.size := Ok.nil _ _
          have o2 : Ok ([g26] ++ ([g16] ++ ([g9] ++ (M)))) ([g26] ++ ([g16] ++ ([g9] ++ (M)))) w64.heap.size := (Ok.app (fun _ h => .inl (ml h)) (Ok.app (fun _ h => .inl (mr (ml h))) (Ok.app (fun _ h => .inl (mr (mr (ml h)))) (fun _ h => .inl (mr (mr (mr (h))))))))
          have f68 := f68.chg hc69 o1 o2
          have f4 := f4.chg hc69 o1 o2
          have f5 := f5.chg hc69 o1 o2
          have f6 := f6.chg hc69 o1 o2
          have f7 := f7.chg hc69 o1 o2
          have hBg9 := hBg9.chg hc69 (fun h => nomatch h)
          have hBg16 := hBg16.chg hc69 (fun h => nomatch h)
          have hBg26 := hBg26.chg hc69 (fun h => nomatch h)
          have hM : MS ([g26] ++ ([g16] ++ ([g9] ++ (M)))) w69 := (MS.app (fun x h => hM.chg hc69 x (ml h)) (MS.app (fun x h => hM.chg hc69 x (mr (ml h))) (MS.app (fun x h => hM.chg hc69 x (mr (mr (ml h)))) (fun x h => hM.chg hc69 x (mr (mr (mr (h))))))))
          have hC := hC.trans hc69 (Ok.nil _ _)
          refine sgh ha 3 [2, 3, 0] [(0, .bool (t69 == (3 : Int)))] (by kernel_rfl) fun a ha => ?_
          obtain rfl := Option.some.inj H
          exact J35 _ _ (ha.sel (by kernel_rfl)) f4 f5 f6 f7 hBg9 hBg16 hBg26 hC hM
        · have ha := ha.lit hb53
          have H := ite_f hb53 H
          refine sgh ha 9 [1, 1, 1, 1, 1, 1, 1, 4, 0] [(0, .bool false)] (by kernel_rfl) fun a ha => ?_
          obtain rfl := Option.some.inj H
          exact J35 _ _ (ha.sel (by kernel_rfl)) f4 f5 f6 f7 hBg9 hBg16 hBg26 hC hM
      · have ha := ha.lit hb51
        have H := ite_f hb51 H
        refine sgh ha 15 [1, 1, 1, 1, 4, 0, 1, 1, 1, 1, 1, 1, 1, 4, 0] [(0, .bool false)] (by kernel_rfl) fun a ha => ?_
        obtain rfl := Option.some.inj H
        exact J35 _ _ (ha.sel (by kernel_rfl)) f4 f5 f6 f7 hBg9 hBg16 hBg26 hC hM
    · have ha := ha.lit hb49
      have H := ite_f hb49 H
      refine sgh ha 19 [1, 1, 4, 0, 1, 1, 1, 1, 4, 0, 1, 1, 1, 1, 1, 1, 1, 4, 0] [(0, .bool false)] (by kernel_rfl) fun a ha => ?_
      obtain rfl := Option.some.inj H
      exact J35 _ _ (ha.sel (by kernel_rfl)) f4 f5 f6 f7 hBg9 hBg16 hBg26 hC hM
  · have ha := ha.lit hb42
    have H := ite_f hb42 H
    refine sgh ha 26 [1, 1, 1, 1, 1, 4, 0, 1, 1, 4, 0, 1, 1, 1, 1, 4, 0, 1, 1, 1, 1, 1, 1, 1, 4, 0] [(0, .bool false)] (by kernel_rfl) fun a ha => ?_
    obtain rfl := Option.some.inj H
    exact J35 _ _ (ha.sel (by kernel_rfl)) f4 f5 f6 f7 hBg9 hBg16 hBg26 hC hM
def vinerylaw09_Few.l1 (a0 : S_api_Attrs) : Nat → Int → Option ((Bool) ⊕ (Unit))
  | 0, _ => none
  | kk + 1, x18 => (if (decide (x18 < (a0.Tunnels.length : Int))) = true then (if 0 ≤ x18 ∧ x18 < (a0.Tunnels.length : Int) then (if (decide ((((rd a0.Tunnels x18).Id).length : Int) > (1024 : Int))) = true then some (.inl ((false : Bool))) else vinerylaw09_Few.l1 a0 kk (IntKind.i64.wrap (x18 + (1 : Int)))) else none) else some (.inr (() : Unit)))
def vinerylaw09_Few.l0 (a0 : S_api_Attrs) : Nat → Int → Option ((Bool) ⊕ (Unit))
  | 0, _ => none
  | kk + 1, x14 => (if (decide (x14 < (a0.Path.length : Int))) = true then (if 0 ≤ x14 ∧ x14 < (a0.Path.length : Int) then (if (decide ((((rd a0.Path x14).AS).length : Int) > (300 : Int))) = true then some (.inl ((false : Bool))) else vinerylaw09_Few.l0 a0 kk (IntKind.i64.wrap (x14 + (1 : Int)))) else none) else some (.inr (() : Unit)))
def vinerylaw09_Few.f (k : Nat) (a0 : S_api_Attrs) : Option (Bool) := (vinerylaw09_Few.l0 a0 k (0 : Int)).bind fun s13 => match s13 with | .inl r => some r | .inr s13' => (vinerylaw09_Few.l1 a0 k (0 : Int)).bind fun s17 => match s17 with | .inl r => some r | .inr s17' => ((if (decide ((a0.Path.length : Int) < (20 : Int))) = true then (if (decide ((a0.Clusters.length : Int) < (100 : Int))) = true then (if (decide ((a0.Exts.length : Int) < (200 : Int))) = true then some (decide ((a0.Tunnels.length : Int) < (10 : Int)) : Bool) else some (false : Bool)) else some (false : Bool)) else some (false : Bool))).bind fun s20 => some ((s20 : Bool))
set_option maxRecDepth 100000 in
theorem vinerylaw09_Few.walk (w : World) (M : List Nat) (hM : MS M w) (a0 : S_api_Attrs) (ao1 : Option Addr) (cap1 : Nat) (f1 : RSl rS_api_Segment 58 w M ao1 cap1 a0.Path) (ao2 : Option Addr) (cap2 : Nat) (f2 : RSl rS_api_Addr 26 w M ao2 cap2 a0.Clusters) (ao3 : Option Addr) (cap3 : Nat) (f3 : RSl (rArr .u8 8) 81 w M ao3 cap3 a0.Exts) (ao4 : Option Addr) (cap4 : Nat) (f4 : RSl rS_api_Tunnel 70 w M ao4 cap4 a0.Tunnels) (k : Nat) (r : Bool) (H : vinerylaw09_Few.f k a0 = some r) :
    To Try.prog 19 [.agg (cS_api_Attrs a0 ao1 cap1 ao2 cap2 ao3 cap3 ao4 cap4).toArray] w fun v w' => v = .bool r ∧ Chg [] w w' ∧ MS (M) w' := by
  unfold vinerylaw09_Few.f at H
  refine ent Try.func19 rfl [(0, .agg (cS_api_Attrs a0 ao1 cap1 ao2 cap2 ao3 cap3 ao4 cap4).toArray)] rfl (by rfl) fun a ha => ?_
  have hC : Chg [] w w := Chg.refl _ _
  refine wp_seq_k fun K5 hK5 => ?_
  refine wp_region_lit ?_
  refine bx (cs := (cS_api_Attrs a0 ao1 cap1 ao2 cap2 ao3 cap3 ao4 cap4)) ha rfl rfl rfl rfl rfl fun a w6 g7 hN8 ha => ?_
  have hn10 := hN8.notin hM
  have o1 : Ok [] (M) w.heap.size := Ok.nil _ _
  have o2 : Ok (M) (M) w.heap.size := (fun _ h => .inl (h))
  have f1 := f1.chg hN8.chg o1 o2
  have f2 := f2.chg hN8.chg o1 o2
  have f3 := f3.chg hN8.chg o1 o2
  have f4 := f4.chg hN8.chg o1 o2
  have hM : MS (M) w6 := (fun x h => hM.chg hN8.chg x (h))
  have hC := hC.trans hN8.chg (Ok.nil _ _)
  have hE9 : ∀ j v, (cS_api_Attrs a0 ao1 cap1 ao2 cap2 ao3 cap3 ao4 cap4)[j]? = some v → w6.cell? ⟨g7, 0 + j, none⟩ = some v := Box.cells (New.box hN8)
  refine seg ha 1 [(1, .pointer (some ⟨g7, 0, none⟩))] (by kernel_rfl) fun a ha => ?_
  refine hK5 _ _ ?_; clear hK5 K5
  refine wp_seq_k fun K11 hK11 => ?_
  refine wp_seq_k fun K12 hK12 => ?_
  refine wp_region_lit ?_
  refine seg ha 1 [(1, .pointer (some ⟨g7, 0, none⟩)), (3, .int .i64 (0 : Int))] (by kernel_rfl) fun a ha => ?_
  refine hK12 _ _ ?_; clear hK12 K12
  refine wp_block ?_
  obtain ⟨s13, H13, H⟩ := bind_some H
  have J13 : ∀ s13' (a : Act) (wx13 : World), s13 = .inr s13' → Has a Try.f19.ntmps [(1, .pointer (some ⟨g7, 0, none⟩))] → (RSl rS_api_Segment 58 wx13 (M) ao1 cap1 a0.Path) → (RSl rS_api_Addr 26 wx13 (M) ao2 cap2 a0.Clusters) → (RSl (rArr .u8 8) 81 wx13 (M) ao3 cap3 a0.Exts) → (RSl rS_api_Tunnel 70 wx13 (M) ao4 cap4 a0.Tunnels) → (∀ j v, (cS_api_Attrs a0 ao1 cap1 ao2 cap2 ao3 cap3 ao4 cap4)[j]? = some v → wx13.cell? ⟨g7, 0 + j, none⟩ = some v) → (g7 ∉ (M)) → (Chg [] w wx13) → (MS (M) wx13) → K11 a wx13 := by
    intro s13' a wx13 hs ha f1 f2 f3 f4 hE9 hn10 hC hM
    subst hs
    refine hK11 _ _ ?_; clear hK11 K11
    refine wp_seq_k fun K15 hK15 => ?_
    refine wp_seq_k fun K16 hK16 => ?_
    refine wp_region_lit ?_
    refine seg ha 1 [(1, .pointer (some ⟨g7, 0, none⟩)), (4, .int .i64 (0 : Int))] (by kernel_rfl) fun a ha => ?_
    refine hK16 _ _ ?_; clear hK16 K16
    refine wp_block ?_
    obtain ⟨s17, H17, H⟩ := bind_some H
    have J17 : ∀ s17' (a : Act) (wx17 : World), s17 = .inr s17' → Has a Try.f19.ntmps [(1, .pointer (some ⟨g7, 0, none⟩))] → (RSl rS_api_Segment 58 wx17 (M) ao1 cap1 a0.Path) → (RSl rS_api_Addr 26 wx17 (M) ao2 cap2 a0.Clusters) → (RSl (rArr .u8 8) 81 wx17 (M) ao3 cap3 a0.Exts) → (RSl rS_api_Tunnel 70 wx17 (M) ao4 cap4 a0.Tunnels) → (∀ j v, (cS_api_Attrs a0 ao1 cap1 ao2 cap2 ao3 cap3 ao4 cap4)[j]? = some v → wx17.cell? ⟨g7, 0 + j, none⟩ = some v) → (g7 ∉ (M)) → (Chg [] w wx17) → (MS (M) wx17) → K15 a wx17 := by
      intro s17' a wx17 hs ha f1 f2 f3 f4 hE9 hn10 hC hM
      subst hs
      refine hK15 _ _ ?_; clear hK15 K15
      refine wp_seq_k fun K19 hK19 => ?_
      refine wp_region_lit ?_
      obtain ⟨s20, H20, H⟩ := bind_some H
      have J20 : ∀ (a : Act) (w20 : World), Has a Try.f19.ntmps [(2, .bool s20)] → (Chg [] w w20) → (MS (M) w20) → K19 a w20 := by
        intro a w20 ha hC hM
        refine hK19 _ _ ?_; clear hK19 K19
        refine wp_ret ?_
        try simp only [Exit.then, Exit.inBlock]
        obtain rfl := Option.some.inj H
        refine rt1 ha rfl rfl ?_
        exact ⟨rfl, hC, hM⟩
      have H := H20
      refine seg ha 1 [(1, .pointer (some ⟨g7, 0, none⟩)), (35, .pointer (some ⟨g7, 0 + 1, none⟩))] (by kernel_rfl) fun a ha => ?_
      refine ld ha rfl (by kernel_rfl) rfl rfl rfl (hE9 1 (.slice ao1 a0.Path.length cap1) (by kernel_rfl)) fun a ha => ?_
      refine seg ha 3 [(39, .bool (decide ((a0.Path.length : Int) < (20 : Int)))), (1, .pointer (some ⟨g7, 0, none⟩))] (by kernel_rfl) fun a ha => ?_
      rcases Bool.eq_false_or_eq_true (decide ((a0.Path.length : Int) < (20 : Int))) with hb21 | hb21
      · have ha := ha.lit hb21
        have H := ite_t hb21 H
        refine sgh ha 1 [2] [(1, .pointer (some ⟨g7, 0, none⟩)), (39, .bool true), (40, .pointer (some ⟨g7, 0 + 21, none⟩))] (by kernel_rfl) fun a ha => ?_
        refine ld ha rfl (by kernel_rfl) rfl rfl rfl (hE9 21 (.slice ao2 a0.Clusters.length cap2) (by kernel_rfl)) fun a ha => ?_
        refine sgh ha 4 [2, 2, 3, 0] [(45, .bool (decide ((a0.Clusters.length : Int) < (100 : Int)))), (1, .pointer (some ⟨g7, 0, none⟩))] (by kernel_rfl) fun a ha => ?_
        rcases Bool.eq_false_or_eq_true (decide ((a0.Clusters.length : Int) < (100 : Int))) with hb22 | hb22
        · have ha := ha.lit hb22
          have H := ite_t hb22 H
          refine sgh ha 1 [2] [(1, .pointer (some ⟨g7, 0, none⟩)), (45, .bool true), (46, .pointer (some ⟨g7, 0 + 22, none⟩))] (by kernel_rfl) fun a ha => ?_
          refine ld ha rfl (by kernel_rfl) rfl rfl rfl (hE9 22 (.slice ao3 a0.Exts.length cap3) (by kernel_rfl)) fun a ha => ?_
          refine sgh ha 4 [2, 2, 3, 0] [(51, .bool (decide ((a0.Exts.length : Int) < (200 : Int)))), (1, .pointer (some ⟨g7, 0, none⟩))] (by kernel_rfl) fun a ha => ?_
          rcases Bool.eq_false_or_eq_true (decide ((a0.Exts.length : Int) < (200 : Int))) with hb23 | hb23
          · have ha := ha.lit hb23
            have H := ite_t hb23 H
            refine sgh ha 1 [2] [(51, .bool true), (52, .pointer (some ⟨g7, 0 + 23, none⟩))] (by kernel_rfl) fun a ha => ?_
            refine ld ha rfl (by kernel_rfl) rfl rfl rfl (hE9 23 (.slice ao4 a0.Tunnels.length cap4) (by kernel_rfl)) fun a ha => ?_
            refine sgh ha 4 [2, 2, 3, 0] [(2, .bool (decide ((a0.Tunnels.length : Int) < (10 : Int))))] (by kernel_rfl) fun a ha => ?_
            obtain rfl := Option.some.inj H
            exact J20 _ _ (ha.sel (by kernel_rfl)) hC hM
          · have ha := ha.lit hb23
            have H := ite_f hb23 H
            refine sgh ha 6 [1, 1, 1, 1, 4, 0] [(2, .bool false)] (by kernel_rfl) fun a ha => ?_
            obtain rfl := Option.some.inj H
            exact J20 _ _ (ha.sel (by kernel_rfl)) hC hM
        · have ha := ha.lit hb22
          have H := ite_f hb22 H
          refine sgh ha 12 [1, 1, 1, 1, 4, 0, 1, 1, 1, 1, 4, 0] [(2, .bool false)] (by kernel_rfl) fun a ha => ?_
          obtain rfl := Option.some.inj H
          exact J20 _ _ (ha.sel (by kernel_rfl)) hC hM
      · have ha := ha.lit hb21
        have H := ite_f hb21 H
        refine sgh ha 18 [1, 1, 1, 1, 4, 0, 1, 1, 1, 1, 4, 0, 1, 1, 1, 1, 4, 0] [(2, .bool false)] (by kernel_rfl) fun a ha => ?_
        obtain rfl := Option.some.inj H
        exact J20 _ _ (ha.sel (by kernel_rfl)) hC hM
    have Hc17 := H
    have H := H17
    refine wp_loop_ghost (fun kk a w17 => ∃ (x18 : Int), vinerylaw09_Few.l1 a0 kk x18 = some s17 ∧ Has a Try.f19.ntmps [(1, .pointer (some ⟨g7, 0, none⟩)), (4, .int .i64 x18)] ∧ (RSl rS_api_Segment 58 w17 (M) ao1 cap1 a0.Path) ∧ (RSl rS_api_Addr 26 w17 (M) ao2 cap2 a0.Clusters) ∧ (RSl (rArr .u8 8) 81 w17 (M) ao3 cap3 a0.Exts) ∧ (RSl rS_api_Tunnel 70 w17 (M) ao4 cap4 a0.Tunnels) ∧ (∀ j v, (cS_api_Attrs a0 ao1 cap1 ao2 cap2 ao3 cap3 ao4 cap4)[j]? = some v → w17.cell? ⟨g7, 0 + j, none⟩ = some v) ∧ (g7 ∉ (M)) ∧ (Chg [] w w17) ∧ (MS (M) w17)) k ?_ ?_
    · skip
      exact ⟨(0 : Int), H, (ha.sel (by kernel_rfl)), f1, f2, f3, f4, hE9, hn10, hC, hM⟩
    · rintro kk a w17 ⟨x18, H, ha, f1, f2, f3, f4, hE9, hn10, hC, hM⟩
      obtain _ | kk := kk
      · exact nomatch (show none = some _ from H)
      rw [vinerylaw09_Few.l1] at H
      refine wp_seq_k fun K24 hK24 => ?_
      refine wp_seq_k fun K25 hK25 => ?_
      refine wp_region_lit ?_
      refine seg ha 2 [(1, .pointer (some ⟨g7, 0, none⟩)), (4, .int .i64 x18), (20, .int .i64 x18), (21, .pointer (some ⟨g7, 0 + 23, none⟩))] (by kernel_rfl) fun a ha => ?_
      refine ld ha rfl (by kernel_rfl) rfl rfl rfl (hE9 23 (.slice ao4 a0.Tunnels.length cap4) (by kernel_rfl)) fun a ha => ?_
      refine seg ha 2 [(1, .pointer (some ⟨g7, 0, none⟩)), (4, .int .i64 x18), (24, .bool (decide (x18 < (a0.Tunnels.length : Int))))] (by kernel_rfl) fun a ha => ?_
      refine hK25 _ _ ?_; clear hK25 K25
      refine cnd ha rfl (fun hc26 => ?_) (fun hc26 => ?_)
      · have H := ite_t hc26 H
        refine wp_skip ?_
        refine hK24 _ _ ?_; clear hK24 K24
        refine wp_seq_k fun K27 hK27 => ?_
        refine wp_block ?_
        refine wp_seq_k fun K28 hK28 => ?_
        refine wp_region_lit ?_
        refine seg ha 1 [(1, .pointer (some ⟨g7, 0, none⟩)), (4, .int .i64 x18), (27, .pointer (some ⟨g7, 0 + 23, none⟩))] (by kernel_rfl) fun a ha => ?_
        refine ld ha rfl (by kernel_rfl) rfl rfl rfl (hE9 23 (.slice ao4 a0.Tunnels.length cap4) (by kernel_rfl)) fun a ha => ?_
        refine seg ha 1 [(1, .pointer (some ⟨g7, 0, none⟩)), (4, .int .i64 x18), (28, .slice ao4 a0.Tunnels.length cap4), (29, .int .i64 x18)] (by kernel_rfl) fun a ha => ?_
        obtain ⟨⟨hx29, hx29'⟩, H⟩ := ite_some H
        refine ix (r := rS_api_Tunnel) ha (by kernel_rfl) (by kernel_rfl) rfl rfl rfl rfl rfl f4 hx29 hx29' fun a ge30 oe31 cs32 hn35 hR33 hE34 ha => ?_
        rw [rd_get] at hR33
        obtain ⟨ao36, cap36, rfl, f36⟩ := rS_api_Tunnel.open hR33
        refine seg ha 1 [(1, .pointer (some ⟨g7, 0, none⟩)), (4, .int .i64 x18), (31, .pointer (some ⟨ge30, oe31 + 20, none⟩))] (by kernel_rfl) fun a ha => ?_
        refine ld ha rfl (by kernel_rfl) rfl rfl rfl (hE34 20 (.slice ao36 ((rd a0.Tunnels x18).Id).length cap36) (by kernel_rfl)) fun a ha => ?_
        refine seg ha 2 [(1, .pointer (some ⟨g7, 0, none⟩)), (4, .int .i64 x18), (34, .bool (decide ((((rd a0.Tunnels x18).Id).length : Int) > (1024 : Int))))] (by kernel_rfl) fun a ha => ?_
        refine hK28 _ _ ?_; clear hK28 K28
        refine cnd ha rfl (fun hc37 => ?_) (fun hc37 => ?_)
        · have H := ite_t hc37 H
          refine wp_seq_k fun K38 hK38 => ?_
          refine wp_region_lit ?_
          refine seg ha 1 [(2, .bool false)] (by kernel_rfl) fun a ha => ?_
          refine hK38 _ _ ?_; clear hK38 K38
          refine wp_ret ?_
          try simp only [Exit.then, Exit.inBlock]
          obtain rfl := Option.some.inj H
          have H := (show some _ = some _ from Hc17)
          obtain rfl := Option.some.inj H
          refine rt1 ha rfl rfl ?_
          exact ⟨rfl, hC, hM⟩
        · have H := ite_f hc37 H
          refine wp_skip ?_
          refine hK27 _ _ ?_; clear hK27 K27
          refine wp_region_lit ?_
          refine seg ha 3 [(1, .pointer (some ⟨g7, 0, none⟩)), (4, .int .i64 (IntKind.i64.wrap (x18 + (1 : Int))))] (by kernel_rfl) fun a ha => ?_
          exact ⟨kk, Nat.lt_succ_self _, ⟨IntKind.i64.wrap (x18 + (1 : Int)), H, (ha.sel (by kernel_rfl)), f1, f2, f3, f4, hE9, hn10, hC, hM⟩⟩
      · have H := ite_f hc26 H
        refine wp_exit ?_
        simp only [Exit.then, Exit.inBlock, ↓reduceIte, Nat.reduceEqDiff]
        obtain rfl := Option.some.inj H
        exact J17 _ _ _ rfl (ha.sel (by kernel_rfl)) f1 f2 f3 f4 hE9 hn10 hC hM
  have Hc13 := H
  have H := H13
  refine wp_loop_ghost (fun kk a w13 => ∃ (x14 : Int), vinerylaw09_Few.l0 a0 kk x14 = some s13 ∧ Has a Try.f19.ntmps [(1, .pointer (some ⟨g7, 0, none⟩)), (3, .int .i64 x14)] ∧ (RSl rS_api_Segment 58 w13 (M) ao1 cap1 a0.Path) ∧ (RSl rS_api_Addr 26 w13 (M) ao2 cap2 a0.Clusters) ∧ (RSl (rArr .u8 8) 81 w13 (M) ao3 cap3 a0.Exts) ∧ (RSl rS_api_Tunnel 70 w13 (M) ao4 cap4 a0.Tunnels) ∧ (∀ j v, (cS_api_Attrs a0 ao1 cap1 ao2 cap2 ao3 cap3 ao4 cap4)[j]? = some v → w13.cell? ⟨g7, 0 + j, none⟩ = some v) ∧ (g7 ∉ (M)) ∧ (Chg [] w w13) ∧ (MS (M) w13)) k ?_ ?_
  · skip
    exact ⟨(0 : Int), H, (ha.sel (by kernel_rfl)), f1, f2, f3, f4, hE9, hn10, hC, hM⟩
  · rintro kk a w13 ⟨x14, H, ha, f1, f2, f3, f4, hE9, hn10, hC, hM⟩
    obtain _ | kk := kk
    · exact nomatch (show none = some _ from H)
    rw [vinerylaw09_Few.l0] at H
    refine wp_seq_k fun K39 hK39 => ?_
    refine wp_seq_k fun K40 hK40 => ?_
    refine wp_region_lit ?_
    refine seg ha 2 [(1, .pointer (some ⟨g7, 0, none⟩)), (3, .int .i64 x14), (5, .int .i64 x14), (6, .pointer (some ⟨g7, 0 + 1, none⟩))] (by kernel_rfl) fun a ha => ?_
    refine ld ha rfl (by kernel_rfl) rfl rfl rfl (hE9 1 (.slice ao1 a0.Path.length cap1) (by kernel_rfl)) fun a ha => ?_
    refine seg ha 2 [(1, .pointer (some ⟨g7, 0, none⟩)), (3, .int .i64 x14), (9, .bool (decide (x14 < (a0.Path.length : Int))))] (by kernel_rfl) fun a ha => ?_
    refine hK40 _ _ ?_; clear hK40 K40
    refine cnd ha rfl (fun hc41 => ?_) (fun hc41 => ?_)
    · have H := ite_t hc41 H
      refine wp_skip ?_
      refine hK39 _ _ ?_; clear hK39 K39
      refine wp_seq_k fun K42 hK42 => ?_
      refine wp_block ?_
      refine wp_seq_k fun K43 hK43 => ?_
      refine wp_region_lit ?_
      refine seg ha 1 [(1, .pointer (some ⟨g7, 0, none⟩)), (3, .int .i64 x14), (12, .pointer (some ⟨g7, 0 + 1, none⟩))] (by kernel_rfl) fun a ha => ?_
      refine ld ha rfl (by kernel_rfl) rfl rfl rfl (hE9 1 (.slice ao1 a0.Path.length cap1) (by kernel_rfl)) fun a ha => ?_
      refine seg ha 1 [(1, .pointer (some ⟨g7, 0, none⟩)), (3, .int .i64 x14), (13, .slice ao1 a0.Path.length cap1), (14, .int .i64 x14)] (by kernel_rfl) fun a ha => ?_
      obtain ⟨⟨hx44, hx44'⟩, H⟩ := ite_some H
      refine ix (r := rS_api_Segment) ha (by kernel_rfl) (by kernel_rfl) rfl rfl rfl rfl rfl f1 hx44 hx44' fun a ge45 oe46 cs47 hn50 hR48 hE49 ha => ?_
      rw [rd_get] at hR48
      obtain ⟨ao51, cap51, rfl, f51⟩ := rS_api_Segment.open hR48
      refine seg ha 1 [(1, .pointer (some ⟨g7, 0, none⟩)), (3, .int .i64 x14), (16, .pointer (some ⟨ge45, oe46 + 1, none⟩))] (by kernel_rfl) fun a ha => ?_
      refine ld ha rfl (by kernel_rfl) rfl rfl rfl (hE49 1 (.slice ao51 ((rd a0.Path x14).AS).length cap51) (by kernel_rfl)) fun a ha => ?_
      refine seg ha 2 [(1, .pointer (some ⟨g7, 0, none⟩)), (3, .int .i64 x14), (19, .bool (decide ((((rd a0.Path x14).AS).length : Int) > (300 : Int))))] (by kernel_rfl) fun a ha => ?_
      refine hK43 _ _ ?_; clear hK43 K43
      refine cnd ha rfl (fun hc52 => ?_) (fun hc52 => ?_)
      · have H := ite_t hc52 H
        refine wp_seq_k fun K53 hK53 => ?_
        refine wp_region_lit ?_
        refine seg ha 1 [(2, .bool false)] (by kernel_rfl) fun a ha => ?_
        refine hK53 _ _ ?_; clear hK53 K53
        refine wp_ret ?_
        try simp only [Exit.then, Exit.inBlock]
        obtain rfl := Option.some.inj H
        have H := (show some _ = some _ from Hc13)
        obtain rfl := Option.some.inj H
        refine rt1 ha rfl rfl ?_
        exact ⟨rfl, hC, hM⟩
      · have H := ite_f hc52 H
        refine wp_skip ?_
        refine hK42 _ _ ?_; clear hK42 K42
        refine wp_region_lit ?_
        refine seg ha 3 [(1, .pointer (some ⟨g7, 0, none⟩)), (3, .int .i64 (IntKind.i64.wrap (x14 + (1 : Int))))] (by kernel_rfl) fun a ha => ?_
        exact ⟨kk, Nat.lt_succ_self _, ⟨IntKind.i64.wrap (x14 + (1 : Int)), H, (ha.sel (by kernel_rfl)), f1, f2, f3, f4, hE9, hn10, hC, hM⟩⟩
    · have H := ite_f hc41 H
      refine wp_exit ?_
      simp only [Exit.then, Exit.inBlock, ↓reduceIte, Nat.reduceEqDiff]
      obtain rfl := Option.some.inj H
      exact J13 _ _ _ rfl (ha.sel (by kernel_rfl)) f1 f2 f3 f4 hE9 hn10 hC hM
def vinerylaw16_few.l0 (k : Nat) (a0 : List S_api_Choice) : Nat → Int → Option ((Bool) ⊕ (Unit))
  | 0, _ => none
  | kk + 1, x6 => (if (decide (x6 < (a0.length : Int))) = true then (if 0 ≤ x6 ∧ x6 < (a0.length : Int) then (vinerylaw09_Few.f k (((rd a0 x6).Route).Attrs)).bind fun t24 => (if (!t24) = true then some (.inl ((false : Bool))) else vinerylaw16_few.l0 k a0 kk (IntKind.i64.wrap (x6 + (1 : Int)))) else none) else some (.inr (() : Unit)))
def vinerylaw16_few.f (k : Nat) (a0 : List S_api_Choice) : Option (Bool) := (vinerylaw16_few.l0 k a0 k (0 : Int)).bind fun s5 => match s5 with | .inl r => some r | .inr s5' => some ((decide ((a0.length : Int) ≤ (30 : Int)) : Bool))
set_option maxRecDepth 100000 in
theorem vinerylaw16_few.walk (w : World) (M : List Nat) (hM : MS M w) (a0 : List S_api_Choice) (ao1 : Option Addr) (cap1 : Nat) (f1 : RSl rS_api_Choice 42 w M ao1 cap1 a0) (k : Nat) (r : Bool) (H : vinerylaw16_few.f k a0 = some r) :
    To Try.prog 8 [.slice ao1 a0.length cap1] w fun v w' => v = .bool r ∧ Chg [] w w' ∧ MS (M) w' := by
  unfold vinerylaw16_few.f at H
  refine ent Try.func8 rfl [(0, .slice ao1 a0.length cap1)] rfl (by rfl) fun a ha => ?_
  have hC : Chg [] w w := Chg.refl _ _
  refine wp_seq_k fun K2 hK2 => ?_
  refine wp_region_lit ?_
  refine seg ha 1 [(0, .slice ao1 a0.length cap1)] (by kernel_rfl) fun a ha => ?_
  refine hK2 _ _ ?_; clear hK2 K2
  refine wp_seq_k fun K3 hK3 => ?_
  refine wp_seq_k fun K4 hK4 => ?_
  refine wp_region_lit ?_
  refine seg ha 1 [(0, .slice ao1 a0.length cap1), (3, .int .i64 (0 : Int))] (by kernel_rfl) fun a ha => ?_
  refine hK4 _ _ ?_; clear hK4 K4
  refine wp_block ?_
  obtain ⟨s5, H5, H⟩ := bind_some H
  have J5 : ∀ s5' (a : Act) (wx5 : World), s5 = .inr s5' → Has a Try.f8.ntmps [(0, .slice ao1 a0.length cap1)] → (RSl rS_api_Choice 42 wx5 (M) ao1 cap1 a0) → (Chg [] w wx5) → (MS (M) wx5) → K3 a wx5 := by
    intro s5' a wx5 hs ha f1 hC hM
    subst hs
    refine hK3 _ _ ?_; clear hK3 K3
    refine wp_seq_k fun K7 hK7 => ?_
    refine wp_region_lit ?_
    refine seg ha 4 [(2, .bool (decide ((a0.length : Int) ≤ (30 : Int))))] (by kernel_rfl) fun a ha => ?_
    refine hK7 _ _ ?_; clear hK7 K7
    refine wp_ret ?_
    try simp only [Exit.then, Exit.inBlock]
    obtain rfl := Option.some.inj H
    refine rt1 ha rfl rfl ?_
    exact ⟨rfl, hC, hM⟩
  have Hc5 := H
  have H := H5
  refine wp_loop_ghost (fun kk a w5 => ∃ (x6 : Int), vinerylaw16_few.l0 k a0 kk x6 = some s5 ∧ Has a Try.f8.ntmps [(0, .slice ao1 a0.length cap1), (3, .int .i64 x6)] ∧ (RSl rS_api_Choice 42 w5 (M) ao1 cap1 a0) ∧ (Chg [] w w5) ∧ (MS (M) w5)) k ?_ ?_
  · skip
    exact ⟨(0 : Int), H, (ha.sel (by kernel_rfl)), f1, hC, hM⟩
  · rintro kk a w5 ⟨x6, H, ha, f1, hC, hM⟩
    obtain _ | kk := kk
    · exact nomatch (show none = some _ from H)
    rw [vinerylaw16_few.l0] at H
    refine wp_seq_k fun K8 hK8 => ?_
    refine wp_seq_k fun K9 hK9 => ?_
    refine wp_region_lit ?_
    refine seg ha 4 [(0, .slice ao1 a0.length cap1), (3, .int .i64 x6), (8, .bool (decide (x6 < (a0.length : Int))))] (by kernel_rfl) fun a ha => ?_
    refine hK9 _ _ ?_; clear hK9 K9
    refine cnd ha rfl (fun hc10 => ?_) (fun hc10 => ?_)
    · have H := ite_t hc10 H
      refine wp_skip ?_
      refine hK8 _ _ ?_; clear hK8 K8
      refine wp_seq_k fun K11 hK11 => ?_
      refine wp_block ?_
      refine wp_seq_k fun K12 hK12 => ?_
      refine wp_region_lit ?_
      refine seg ha 2 [(0, .slice ao1 a0.length cap1), (3, .int .i64 x6), (11, .slice ao1 a0.length cap1), (12, .int .i64 x6)] (by kernel_rfl) fun a ha => ?_
      obtain ⟨⟨hx13, hx13'⟩, H⟩ := ite_some H
      refine ix (r := rS_api_Choice) ha (by kernel_rfl) (by kernel_rfl) rfl rfl rfl rfl rfl f1 hx13 hx13' fun a ge14 oe15 cs16 hn19 hR17 hE18 ha => ?_
      rw [rd_get] at hR17
      obtain ⟨ao20, cap20, ao21, cap21, ao22, cap22, ao23, cap23, rfl, f20, f21, f22, f23⟩ := rS_api_Choice.open hR17
      refine seg ha 2 [(0, .slice ao1 a0.length cap1), (3, .int .i64 x6), (15, .pointer (some ⟨ge14, oe15 + 108, none⟩))] (by kernel_rfl) fun a ha => ?_
      refine ldA (cs := (cS_api_Attrs (((rd a0 x6).Route).Attrs) ao20 cap20 ao21 cap21 ao22 cap22 ao23 cap23)) ha rfl (by kernel_rfl) rfl rfl rfl (cells_sub hE18 (all := (cS_api_Choice (rd a0 x6) ao20 cap20 ao21 cap21 ao22 cap22 ao23 cap23)) [.int .i64 (((rd a0 x6).Route).Size), .int .i64 (((rd a0 x6).Route).Safi), .int .i64 ((((rd a0 x6).Route).M).Kind), .int .u8 (ar ((((rd a0 x6).Route).M).RD) 0), .int .u8 (ar ((((rd a0 x6).Route).M).RD) 1), .int .u8 (ar ((((rd a0 x6).Route).M).RD) 2), .int .u8 (ar ((((rd a0 x6).Route).M).RD) 3), .int .u8 (ar ((((rd a0 x6).Route).M).RD) 4), .int .u8 (ar ((((rd a0 x6).Route).M).RD) 5), .int .u8 (ar ((((rd a0 x6).Route).M).RD) 6), .int .u8 (ar ((((rd a0 x6).Route).M).RD) 7), .int .i64 ((((rd a0 x6).Route).M).AS), .int .i64 (((((rd a0 x6).Route).M).Source).Size), .int .u8 (ar (((((rd a0 x6).Route).M).Source).B) 0), .int .u8 (ar (((((rd a0 x6).Route).M).Source).B) 1), .int .u8 (ar (((((rd a0 x6).Route).M).Source).B) 2), .int .u8 (ar (((((rd a0 x6).Route).M).Source).B) 3), .int .u8 (ar (((((rd a0 x6).Route).M).Source).B) 4), .int .u8 (ar (((((rd a0 x6).Route).M).Source).B) 5), .int .u8 (ar (((((rd a0 x6).Route).M).Source).B) 6), .int .u8 (ar (((((rd a0 x6).Route).M).Source).B) 7), .int .u8 (ar (((((rd a0 x6).Route).M).Source).B) 8), .int .u8 (ar (((((rd a0 x6).Route).M).Source).B) 9), .int .u8 (ar (((((rd a0 x6).Route).M).Source).B) 10), .int .u8 (ar (((((rd a0 x6).Route).M).Source).B) 11), .int .u8 (ar (((((rd a0 x6).Route).M).Source).B) 12), .int .u8 (ar (((((rd a0 x6).Route).M).Source).B) 13), .int .u8 (ar (((((rd a0 x6).Route).M).Source).B) 14), .int .u8 (ar (((((rd a0 x6).Route).M).Source).B) 15), .int .i64 (((((rd a0 x6).Route).M).Group).Size), .int .u8 (ar (((((rd a0 x6).Route).M).Group).B) 0), .int .u8 (ar (((((rd a0 x6).Route).M).Group).B) 1), .int .u8 (ar (((((rd a0 x6).Route).M).Group).B) 2), .int .u8 (ar (((((rd a0 x6).Route).M).Group).B) 3), .int .u8 (ar (((((rd a0 x6).Route).M).Group).B) 4), .int .u8 (ar (((((rd a0 x6).Route).M).Group).B) 5), .int .u8 (ar (((((rd a0 x6).Route).M).Group).B) 6), .int .u8 (ar (((((rd a0 x6).Route).M).Group).B) 7), .int .u8 (ar (((((rd a0 x6).Route).M).Group).B) 8), .int .u8 (ar (((((rd a0 x6).Route).M).Group).B) 9), .int .u8 (ar (((((rd a0 x6).Route).M).Group).B) 10), .int .u8 (ar (((((rd a0 x6).Route).M).Group).B) 11), .int .u8 (ar (((((rd a0 x6).Route).M).Group).B) 12), .int .u8 (ar (((((rd a0 x6).Route).M).Group).B) 13), .int .u8 (ar (((((rd a0 x6).Route).M).Group).B) 14), .int .u8 (ar (((((rd a0 x6).Route).M).Group).B) 15), .int .i64 (((((rd a0 x6).Route).M).From).Size), .int .u8 (ar (((((rd a0 x6).Route).M).From).B) 0), .int .u8 (ar (((((rd a0 x6).Route).M).From).B) 1), .int .u8 (ar (((((rd a0 x6).Route).M).From).B) 2), .int .u8 (ar (((((rd a0 x6).Route).M).From).B) 3), .int .u8 (ar (((((rd a0 x6).Route).M).From).B) 4), .int .u8 (ar (((((rd a0 x6).Route).M).From).B) 5), .int .u8 (ar (((((rd a0 x6).Route).M).From).B) 6), .int .u8 (ar (((((rd a0 x6).Route).M).From).B) 7), .int .u8 (ar (((((rd a0 x6).Route).M).From).B) 8), .int .u8 (ar (((((rd a0 x6).Route).M).From).B) 9), .int .u8 (ar (((((rd a0 x6).Route).M).From).B) 10), .int .u8 (ar (((((rd a0 x6).Route).M).From).B) 11), .int .u8 (ar (((((rd a0 x6).Route).M).From).B) 12), .int .u8 (ar (((((rd a0 x6).Route).M).From).B) 13), .int .u8 (ar (((((rd a0 x6).Route).M).From).B) 14), .int .u8 (ar (((((rd a0 x6).Route).M).From).B) 15), .string (bstr ((((rd a0 x6).Route).M).Key)), .int .u8 (ar ((((rd a0 x6).Route).U).RD) 0), .int .u8 (ar ((((rd a0 x6).Route).U).RD) 1), .int .u8 (ar ((((rd a0 x6).Route).U).RD) 2), .int .u8 (ar ((((rd a0 x6).Route).U).RD) 3), .int .u8 (ar ((((rd a0 x6).Route).U).RD) 4), .int .u8 (ar ((((rd a0 x6).Route).U).RD) 5), .int .u8 (ar ((((rd a0 x6).Route).U).RD) 6), .int .u8 (ar ((((rd a0 x6).Route).U).RD) 7), .int .i64 ((((((rd a0 x6).Route).U).Prefix).Addr).Size), .int .u8 (ar ((((((rd a0 x6).Route).U).Prefix).Addr).B) 0), .int .u8 (ar ((((((rd a0 x6).Route).U).Prefix).Addr).B) 1), .int .u8 (ar ((((((rd a0 x6).Route).U).Prefix).Addr).B) 2), .int .u8 (ar ((((((rd a0 x6).Route).U).Prefix).Addr).B) 3), .int .u8 (ar ((((((rd a0 x6).Route).U).Prefix).Addr).B) 4), .int .u8 (ar ((((((rd a0 x6).Route).U).Prefix).Addr).B) 5), .int .u8 (ar ((((((rd a0 x6).Route).U).Prefix).Addr).B) 6), .int .u8 (ar ((((((rd a0 x6).Route).U).Prefix).Addr).B) 7), .int .u8 (ar ((((((rd a0 x6).Route).U).Prefix).Addr).B) 8), .int .u8 (ar ((((((rd a0 x6).Route).U).Prefix).Addr).B) 9), .int .u8 (ar ((((((rd a0 x6).Route).U).Prefix).Addr).B) 10), .int .u8 (ar ((((((rd a0 x6).Route).U).Prefix).Addr).B) 11), .int .u8 (ar ((((((rd a0 x6).Route).U).Prefix).Addr).B) 12), .int .u8 (ar ((((((rd a0 x6).Route).U).Prefix).Addr).B) 13), .int .u8 (ar ((((((rd a0 x6).Route).U).Prefix).Addr).B) 14), .int .u8 (ar ((((((rd a0 x6).Route).U).Prefix).Addr).B) 15), .int .i64 (((((rd a0 x6).Route).U).Prefix).Bits), .int .i64 ((((rd a0 x6).Route).U).Label), .int .i64 ((((rd a0 x6).Route).Next).Size), .int .u8 (ar ((((rd a0 x6).Route).Next).B) 0), .int .u8 (ar ((((rd a0 x6).Route).Next).B) 1), .int .u8 (ar ((((rd a0 x6).Route).Next).B) 2), .int .u8 (ar ((((rd a0 x6).Route).Next).B) 3), .int .u8 (ar ((((rd a0 x6).Route).Next).B) 4), .int .u8 (ar ((((rd a0 x6).Route).Next).B) 5), .int .u8 (ar ((((rd a0 x6).Route).Next).B) 6), .int .u8 (ar ((((rd a0 x6).Route).Next).B) 7), .int .u8 (ar ((((rd a0 x6).Route).Next).B) 8), .int .u8 (ar ((((rd a0 x6).Route).Next).B) 9), .int .u8 (ar ((((rd a0 x6).Route).Next).B) 10), .int .u8 (ar ((((rd a0 x6).Route).Next).B) 11), .int .u8 (ar ((((rd a0 x6).Route).Next).B) 12), .int .u8 (ar ((((rd a0 x6).Route).Next).B) 13), .int .u8 (ar ((((rd a0 x6).Route).Next).B) 14), .int .u8 (ar ((((rd a0 x6).Route).Next).B) 15)] [.int .i64 ((rd a0 x6).Peer), .int .i64 (((rd a0 x6).Id).Size), .int .u8 (ar (((rd a0 x6).Id).B) 0), .int .u8 (ar (((rd a0 x6).Id).B) 1), .int .u8 (ar (((rd a0 x6).Id).B) 2), .int .u8 (ar (((rd a0 x6).Id).B) 3), .int .u8 (ar (((rd a0 x6).Id).B) 4), .int .u8 (ar (((rd a0 x6).Id).B) 5), .int .u8 (ar (((rd a0 x6).Id).B) 6), .int .u8 (ar (((rd a0 x6).Id).B) 7), .int .u8 (ar (((rd a0 x6).Id).B) 8), .int .u8 (ar (((rd a0 x6).Id).B) 9), .int .u8 (ar (((rd a0 x6).Id).B) 10), .int .u8 (ar (((rd a0 x6).Id).B) 11), .int .u8 (ar (((rd a0 x6).Id).B) 12), .int .u8 (ar (((rd a0 x6).Id).B) 13), .int .u8 (ar (((rd a0 x6).Id).B) 14), .int .u8 (ar (((rd a0 x6).Id).B) 15)] (by kernel_rfl)) fun a ha => ?_
      obtain ⟨t24, H24, H⟩ := bind_some H
      refine cl ha (by rfl) (by kernel_rfl) (by rfl) (by rfl) (by rfl) (vinerylaw09_Few.walk w5 _ hM (((rd a0 x6).Route).Attrs) ao20 cap20 f20 ao21 cap21 f21 ao22 cap22 f22 ao23 cap23 f23 k _ H24) ?_
      rintro _ w24 ⟨rfl, hc24, hMn⟩ a ha
      have o1 : Ok [] (M) w5.heap.size := Ok.nil _ _
      have o2 : Ok (M) (M) w5.heap.size := (fun _ h => .inl (h))
      have f1 := f1.chg hc24 o1 o2
      have f20 := f20.chg hc24 o1 o2
      have f21 := f21.chg hc24 o1 o2
      have f22 := f22.chg hc24 o1 o2
      have f23 := f23.chg hc24 o1 o2
      have hM : MS (M) w24 := (fun x h => hM.chg hc24 x (h))
      have hC := hC.trans hc24 (Ok.nil _ _)
      refine seg ha 1 [(0, .slice ao1 a0.length cap1), (3, .int .i64 x6), (4, .bool t24)] (by kernel_rfl) fun a ha => ?_
      refine hK12 _ _ ?_; clear hK12 K12
      refine wp_seq_k fun K25 hK25 => ?_
      refine wp_region_lit ?_
      refine seg ha 2 [(0, .slice ao1 a0.length cap1), (3, .int .i64 x6), (19, .bool (!t24))] (by kernel_rfl) fun a ha => ?_
      refine hK25 _ _ ?_; clear hK25 K25
      refine cnd ha rfl (fun hc26 => ?_) (fun hc26 => ?_)
      · have H := ite_t hc26 H
        refine wp_seq_k fun K27 hK27 => ?_
        refine wp_region_lit ?_
        refine seg ha 1 [(2, .bool false)] (by kernel_rfl) fun a ha => ?_
        refine hK27 _ _ ?_; clear hK27 K27
        refine wp_ret ?_
        try simp only [Exit.then, Exit.inBlock]
        obtain rfl := Option.some.inj H
        have H := (show some _ = some _ from Hc5)
        obtain rfl := Option.some.inj H
        refine rt1 ha rfl rfl ?_
        exact ⟨rfl, hC, hM⟩
      · have H := ite_f hc26 H
        refine wp_skip ?_
        refine hK11 _ _ ?_; clear hK11 K11
        refine wp_region_lit ?_
        refine seg ha 3 [(0, .slice ao1 a0.length cap1), (3, .int .i64 (IntKind.i64.wrap (x6 + (1 : Int))))] (by kernel_rfl) fun a ha => ?_
        exact ⟨kk, Nat.lt_succ_self _, ⟨IntKind.i64.wrap (x6 + (1 : Int)), H, (ha.sel (by kernel_rfl)), f1, hC, hM⟩⟩
    · have H := ite_f hc10 H
      refine wp_exit ?_
      simp only [Exit.then, Exit.inBlock, ↓reduceIte, Nat.reduceEqDiff]
      obtain rfl := Option.some.inj H
      exact J5 _ _ _ rfl (ha.sel (by kernel_rfl)) f1 hC hM
def vinerylaw16_DecidePrefs.f (k : Nat) (a0 : S_api_Choice) (a1 : S_api_Choice) (a2 : Int) : Option (Bool) := (vinerylaw16_small.f k ).bind fun t19 => (vinerylaw16_few.f k ([a0, a1] : List S_api_Choice)).bind fun t26 => (if (if (if (!t26) = true then true else (decide (a2 < (0 : Int)))) = true then true else (decide (a2 > (4294967294 : Int)))) = true then some ((t19 : Bool)) else (decide_Compare.f k (⟨(⟨a0.Route.Size, a0.Route.Safi, a0.Route.M, a0.Route.U, a0.Route.Next, (⟨a0.Route.Attrs.Origin, a0.Route.Attrs.Path, a0.Route.Attrs.Med, a2, a0.Route.Attrs.Originator, a0.Route.Attrs.Clusters, a0.Route.Attrs.Exts, a0.Route.Attrs.Tunnels⟩ : S_api_Attrs)⟩ : S_api_Route), a0.Peer, a0.Id⟩ : S_api_Choice) (⟨(⟨a1.Route.Size, a1.Route.Safi, a1.Route.M, a1.Route.U, a1.Route.Next, (⟨a1.Route.Attrs.Origin, a1.Route.Attrs.Path, a1.Route.Attrs.Med, IntKind.i64.wrap (a2 + (1 : Int)), a1.Route.Attrs.Originator, a1.Route.Attrs.Clusters, a1.Route.Attrs.Exts, a1.Route.Attrs.Tunnels⟩ : S_api_Attrs)⟩ : S_api_Route), a1.Peer, a1.Id⟩ : S_api_Choice)).bind fun t38 => ((if t19 = true then (if (t38 == (1 : Int)) = true then (decide_Best.f k ([(⟨(⟨a0.Route.Size, a0.Route.Safi, a0.Route.M, a0.Route.U, a0.Route.Next, (⟨a0.Route.Attrs.Origin, a0.Route.Attrs.Path, a0.Route.Attrs.Med, a2, a0.Route.Attrs.Originator, a0.Route.Attrs.Clusters, a0.Route.Attrs.Exts, a0.Route.Attrs.Tunnels⟩ : S_api_Attrs)⟩ : S_api_Route), (0 : Int), a0.Id⟩ : S_api_Choice), (⟨(⟨a1.Route.Size, a1.Route.Safi, a1.Route.M, a1.Route.U, a1.Route.Next, (⟨a1.Route.Attrs.Origin, a1.Route.Attrs.Path, a1.Route.Attrs.Med, IntKind.i64.wrap (a2 + (1 : Int)), a1.Route.Attrs.Originator, a1.Route.Attrs.Clusters, a1.Route.Attrs.Exts, a1.Route.Attrs.Tunnels⟩ : S_api_Attrs)⟩ : S_api_Route), a1.Peer, a1.Id⟩ : S_api_Choice)] : List S_api_Choice)).bind fun t73 => (if (t73 == (1 : Int)) = true then (decide_Compare.f k (⟨(⟨a0.Route.Size, a0.Route.Safi, a0.Route.M, a0.Route.U, a0.Route.Next, (⟨a0.Route.Attrs.Origin, a0.Route.Attrs.Path, a0.Route.Attrs.Med, a2, a0.Route.Attrs.Originator, a0.Route.Attrs.Clusters, a0.Route.Attrs.Exts, a0.Route.Attrs.Tunnels⟩ : S_api_Attrs)⟩ : S_api_Route), (0 : Int), a0.Id⟩ : S_api_Choice) (⟨(⟨a1.Route.Size, a1.Route.Safi, a1.Route.M, a1.Route.U, a1.Route.Next, (⟨a0.Route.Attrs.Origin, a0.Route.Attrs.Path, a0.Route.Attrs.Med, a2, a1.Route.Attrs.Originator, a1.Route.Attrs.Clusters, a1.Route.Attrs.Exts, a1.Route.Attrs.Tunnels⟩ : S_api_Attrs)⟩ : S_api_Route), (1 : Int), a1.Id⟩ : S_api_Choice)).bind fun t75 => some (t75 == (-1 : Int) : Bool) else some (false : Bool)) else some (false : Bool)) else some (false : Bool))).bind fun s65 => some ((s65 : Bool)))
set_option maxRecDepth 100000 in
theorem vinerylaw16_DecidePrefs.walk (w : World) (M : List Nat) (hM : MS M w) (a0 : S_api_Choice) (ao1 : Option Addr) (cap1 : Nat) (f1 : RSl rS_api_Segment 58 w M ao1 cap1 a0.Route.Attrs.Path) (ao2 : Option Addr) (cap2 : Nat) (f2 : RSl rS_api_Addr 26 w M ao2 cap2 a0.Route.Attrs.Clusters) (ao3 : Option Addr) (cap3 : Nat) (f3 : RSl (rArr .u8 8) 81 w M ao3 cap3 a0.Route.Attrs.Exts) (ao4 : Option Addr) (cap4 : Nat) (f4 : RSl rS_api_Tunnel 70 w M ao4 cap4 a0.Route.Attrs.Tunnels) (a1 : S_api_Choice) (ao5 : Option Addr) (cap5 : Nat) (f5 : RSl rS_api_Segment 58 w M ao5 cap5 a1.Route.Attrs.Path) (ao6 : Option Addr) (cap6 : Nat) (f6 : RSl rS_api_Addr 26 w M ao6 cap6 a1.Route.Attrs.Clusters) (ao7 : Option Addr) (cap7 : Nat) (f7 : RSl (rArr .u8 8) 81 w M ao7 cap7 a1.Route.Attrs.Exts) (ao8 : Option Addr) (cap8 : Nat) (f8 : RSl rS_api_Tunnel 70 w M ao8 cap8 a1.Route.Attrs.Tunnels) (a2 : Int) (k : Nat) (r : Bool) (H : vinerylaw16_DecidePrefs.f k a0 a1 a2 = some r) :
    To Try.prog 4 [.agg (cS_api_Choice a0 ao1 cap1 ao2 cap2 ao3 cap3 ao4 cap4).toArray, .agg (cS_api_Choice a1 ao5 cap5 ao6 cap6 ao7 cap7 ao8 cap8).toArray, .int .i64 a2] w fun v w' => v = .bool r ∧ Chg [] w w' ∧ MS (M) w' := by
  unfold vinerylaw16_DecidePrefs.f at H
  refine ent Try.func4 rfl [(0, .agg (cS_api_Choice a0 ao1 cap1 ao2 cap2 ao3 cap3 ao4 cap4).toArray), (1, .agg (cS_api_Choice a1 ao5 cap5 ao6 cap6 ao7 cap7 ao8 cap8).toArray), (2, .int .i64 a2)] rfl (by rfl) fun a ha => ?_
  have hC : Chg [] w w := Chg.refl _ _
  refine wp_seq_k fun K9 hK9 => ?_
  refine wp_region_lit ?_
  refine bx (cs := (cS_api_Choice a0 ao1 cap1 ao2 cap2 ao3 cap3 ao4 cap4)) ha rfl rfl rfl rfl rfl fun a w10 g11 hN12 ha => ?_
  have o1 : Ok [] (M) w.heap.size := Ok.nil _ _
  have o2 : Ok ([g11] ++ (M)) (M) w.heap.size := (Ok.app (hN12.ok _) (fun _ h => .inl (h)))
  have f1 := f1.chg hN12.chg o1 o2
  have f2 := f2.chg hN12.chg o1 o2
  have f3 := f3.chg hN12.chg o1 o2
  have f4 := f4.chg hN12.chg o1 o2
  have f5 := f5.chg hN12.chg o1 o2
  have f6 := f6.chg hN12.chg o1 o2
  have f7 := f7.chg hN12.chg o1 o2
  have f8 := f8.chg hN12.chg o1 o2
  have nw : Ok ([g11]) (M) w.heap.size := (hN12.ok _)
  have p_i13_M : ∀ x ∈ [g11], x ∉ M := fun x hx hy => absurd (hM x (hy)) (Nat.not_lt.2 ((hN12.ge1) x hx))
  have e_i13 : ∀ x ∈ [g11], w.heap.size ≤ x := fun x hx => Nat.le_trans hC.size ((hN12.ge1) x hx)
  have hM : MS ([g11] ++ (M)) w10 := (MS.app hN12.ms (fun x h => hM.chg hN12.chg x (h)))
  have hC := hC.trans hN12.chg (Ok.nil _ _)
  have hBg11 : Box w10 g11 (cS_api_Choice a0 ao1 cap1 ao2 cap2 ao3 cap3 ao4 cap4) := hN12.box
  refine bx (cs := (cS_api_Choice a1 ao5 cap5 ao6 cap6 ao7 cap7 ao8 cap8)) ha rfl rfl rfl rfl rfl fun a w14 g15 hN16 ha => ?_
  have o1 : Ok [] ([g11] ++ (M)) w10.heap.size := Ok.nil _ _
  have o2 : Ok ([g15] ++ ([g11] ++ (M))) ([g11] ++ (M)) w10.heap.size := (Ok.app (hN16.ok _) (Ok.app (fun _ h => .inl (ml h)) (fun _ h => .inl (mr (h)))))
  have f5 := f5.chg hN16.chg o1 o2
  have f6 := f6.chg hN16.chg o1 o2
  have f7 := f7.chg hN16.chg o1 o2
  have f8 := f8.chg hN16.chg o1 o2
  have f1 := f1.chg hN16.chg o1 o2
  have f2 := f2.chg hN16.chg o1 o2
  have f3 := f3.chg hN16.chg o1 o2
  have f4 := f4.chg hN16.chg o1 o2
  have hBg11 := hBg11.chg hN16.chg (fun h => nomatch h)
  have nw : Ok ([g15]) ([g11] ++ (M)) w10.heap.size := (hN16.ok _)
  have p_i17_i13 : ∀ x ∈ [g15], x ∉ ([g11]) := fun x hx hy => absurd (hM x (ml hy)) (Nat.not_lt.2 ((hN16.ge1) x hx))
  have p_i17_M : ∀ x ∈ [g15], x ∉ M := fun x hx hy => absurd (hM x (mr (hy))) (Nat.not_lt.2 ((hN16.ge1) x hx))
  have e_i17 : ∀ x ∈ [g15], w.heap.size ≤ x := fun x hx => Nat.le_trans hC.size ((hN16.ge1) x hx)
  have hM : MS ([g15] ++ ([g11] ++ (M))) w14 := (MS.app hN16.ms (MS.app (fun x h => hM.chg hN16.chg x (ml h)) (fun x h => hM.chg hN16.chg x (mr (h)))))
  have hC := hC.trans hN16.chg (Ok.nil _ _)
  have hBg15 : Box w14 g15 (cS_api_Choice a1 ao5 cap5 ao6 cap6 ao7 cap7 ao8 cap8) := hN16.box
  refine seg ha 1 [(2, .int .i64 a2), (3, .pointer (some ⟨g11, 0, none⟩)), (4, .pointer (some ⟨g15, 0, none⟩))] (by kernel_rfl) fun a ha => ?_
  refine hK9 _ _ ?_; clear hK9 K9
  refine wp_seq_k fun K18 hK18 => ?_
  refine wp_region_lit ?_
  obtain ⟨t19, H19, H⟩ := bind_some H
  refine cl ha (by rfl) (by kernel_rfl) (by rfl) (by rfl) (by rfl) (vinerylaw16_small.walk w14 _ hM  k _ H19) ?_
  rintro _ w19 ⟨rfl, hc19, hMn⟩ a ha
  have o1 : Ok [] ([g15] ++ ([g11] ++ (M))) w14.heap.size := Ok.nil _ _
  have o2 : Ok ([g15] ++ ([g11] ++ (M))) ([g15] ++ ([g11] ++ (M))) w14.heap.size := (Ok.app (fun _ h => .inl (ml h)) (Ok.app (fun _ h => .inl (mr (ml h))) (fun _ h => .inl (mr (mr (h))))))
  have f1 := f1.chg hc19 o1 o2
  have f2 := f2.chg hc19 o1 o2
  have f3 := f3.chg hc19 o1 o2
  have f4 := f4.chg hc19 o1 o2
  have f5 := f5.chg hc19 o1 o2
  have f6 := f6.chg hc19 o1 o2
  have f7 := f7.chg hc19 o1 o2
  have f8 := f8.chg hc19 o1 o2
  have hBg11 := hBg11.chg hc19 (fun h => nomatch h)
  have hBg15 := hBg15.chg hc19 (fun h => nomatch h)
  have hM : MS ([g15] ++ ([g11] ++ (M))) w19 := (MS.app (fun x h => hM.chg hc19 x (ml h)) (MS.app (fun x h => hM.chg hc19 x (mr (ml h))) (fun x h => hM.chg hc19 x (mr (mr (h))))))
  have hC := hC.trans hc19 (Ok.nil _ _)
  refine seg ha 1 [(2, .int .i64 a2), (3, .pointer (some ⟨g11, 0, none⟩)), (4, .pointer (some ⟨g15, 0, none⟩)), (7, .bool t19)] (by kernel_rfl) fun a ha => ?_
  refine hK18 _ _ ?_; clear hK18 K18
  refine wp_seq_k fun K20 hK20 => ?_
  refine wp_region_lit ?_
  refine ldA (cs := (cS_api_Choice a0 ao1 cap1 ao2 cap2 ao3 cap3 ao4 cap4)) ha rfl (by kernel_rfl) rfl rfl rfl (cells_sub (Box.cells hBg11) (all := (cS_api_Choice a0 ao1 cap1 ao2 cap2 ao3 cap3 ao4 cap4)) [] [] (by kernel_rfl)) fun a ha => ?_
  refine ldA (cs := (cS_api_Choice a1 ao5 cap5 ao6 cap6 ao7 cap7 ao8 cap8)) ha rfl (by kernel_rfl) rfl rfl rfl (cells_sub (Box.cells hBg15) (all := (cS_api_Choice a1 ao5 cap5 ao6 cap6 ao7 cap7 ao8 cap8)) [] [] (by kernel_rfl)) fun a ha => ?_
  refine bslA (vals := ([.agg (cS_api_Choice a0 ao1 cap1 ao2 cap2 ao3 cap3 ao4 cap4).toArray, .agg (cS_api_Choice a1 ao5 cap5 ao6 cap6 ao7 cap7 ao8 cap8).toArray] : List Value)) (T := 42) (z := .agg (cS_api_Choice (⟨(⟨(0 : Int), (0 : Int), (⟨(0 : Int), (List.replicate 8 (0 : Int)), (0 : Int), (⟨(0 : Int), (List.replicate 16 (0 : Int))⟩ : S_api_Addr), (⟨(0 : Int), (List.replicate 16 (0 : Int))⟩ : S_api_Addr), (⟨(0 : Int), (List.replicate 16 (0 : Int))⟩ : S_api_Addr), ([] : List UInt8)⟩ : S_api_Mroute), (⟨(List.replicate 8 (0 : Int)), (⟨(⟨(0 : Int), (List.replicate 16 (0 : Int))⟩ : S_api_Addr), (0 : Int)⟩ : S_api_Prefix), (0 : Int)⟩ : S_api_Uroute), (⟨(0 : Int), (List.replicate 16 (0 : Int))⟩ : S_api_Addr), (⟨(0 : Int), ([] : List S_api_Segment), (0 : Int), (0 : Int), (⟨(0 : Int), (List.replicate 16 (0 : Int))⟩ : S_api_Addr), ([] : List S_api_Addr), ([] : List (List Int)), ([] : List S_api_Tunnel)⟩ : S_api_Attrs)⟩ : S_api_Route), (0 : Int), (⟨(0 : Int), (List.replicate 16 (0 : Int))⟩ : S_api_Addr)⟩ : S_api_Choice) none 0 none 0 none 0 none 0).toArray) ha rfl (by kernel_rfl) rfl (by kernel_rfl) (s := 150) (by kernel_rfl) rfl rfl (fun w => by kernel_rfl) (by kernel_rfl) rfl rfl rfl fun a w21 g22 hN23 ha => ?_
  have hN23 := (show New _ _ _ (.cells (((cS_api_Choice a0 ao1 cap1 ao2 cap2 ao3 cap3 ao4 cap4) ++ ((cS_api_Choice a1 ao5 cap5 ao6 cap6 ao7 cap7 ao8 cap8) ++ ([] : List Value)))).toArray 42 (0, 0)) from hN23)
  have o1 : Ok [] ([g15] ++ ([g11] ++ (M))) w19.heap.size := Ok.nil _ _
  have o2 : Ok ([g22] ++ ([g15] ++ ([g11] ++ (M)))) ([g15] ++ ([g11] ++ (M))) w19.heap.size := (Ok.app (hN23.ok _) (Ok.app (fun _ h => .inl (ml h)) (Ok.app (fun _ h => .inl (mr (ml h))) (fun _ h => .inl (mr (mr (h)))))))
  have f1 := f1.chg hN23.chg o1 o2
  have f2 := f2.chg hN23.chg o1 o2
  have f3 := f3.chg hN23.chg o1 o2
  have f4 := f4.chg hN23.chg o1 o2
  have f5 := f5.chg hN23.chg o1 o2
  have f6 := f6.chg hN23.chg o1 o2
  have f7 := f7.chg hN23.chg o1 o2
  have f8 := f8.chg hN23.chg o1 o2
  have hBg11 := hBg11.chg hN23.chg (fun h => nomatch h)
  have hBg15 := hBg15.chg hN23.chg (fun h => nomatch h)
  have nw : Ok ([g22]) ([g15] ++ ([g11] ++ (M))) w19.heap.size := (hN23.ok _)
  have p_i24_i17 : ∀ x ∈ [g22], x ∉ ([g15]) := fun x hx hy => absurd (hM x (ml hy)) (Nat.not_lt.2 ((hN23.ge1) x hx))
  have p_i24_i13 : ∀ x ∈ [g22], x ∉ ([g11]) := fun x hx hy => absurd (hM x (mr (ml hy))) (Nat.not_lt.2 ((hN23.ge1) x hx))
  have p_i24_M : ∀ x ∈ [g22], x ∉ M := fun x hx hy => absurd (hM x (mr (mr (hy)))) (Nat.not_lt.2 ((hN23.ge1) x hx))
  have e_i24 : ∀ x ∈ [g22], w.heap.size ≤ x := fun x hx => Nat.le_trans hC.size ((hN23.ge1) x hx)
  have hM : MS ([g22] ++ ([g15] ++ ([g11] ++ (M)))) w21 := (MS.app hN23.ms (MS.app (fun x h => hM.chg hN23.chg x (ml h)) (MS.app (fun x h => hM.chg hN23.chg x (mr (ml h))) (fun x h => hM.chg hN23.chg x (mr (mr (h)))))))
  have hC := hC.trans hN23.chg (Ok.nil _ _)
  have f25 : Own rS_api_Choice 42 w21 ([g22] ++ ([g15] ++ ([g11] ++ (M)))) (some ⟨g22, 0, none⟩) 2 ([a0, a1] : List S_api_Choice) := hN23.own ⟨(cS_api_Choice a0 ao1 cap1 ao2 cap2 ao3 cap3 ao4 cap4), _, rfl, (rS_api_Choice.mk a0 f1 f2 f3 f4), ⟨(cS_api_Choice a1 ao5 cap5 ao6 cap6 ao7 cap7 ao8 cap8), _, rfl, (rS_api_Choice.mk a1 f5 f6 f7 f8), rfl⟩⟩ (Nat.le_of_ble_eq_true rfl)
  have fz := f25.toRSl (M' := [g15] ++ ([g11] ++ (M))) (Ok.app (fun _ h => .inl (mr (ml h))) (Ok.app (fun _ h => .inl (mr (mr (ml h)))) (fun _ h => .inl (mr (mr (mr (h))))))) (fun x hx hm => (List.mem_append.1 hm).elim (fun h => p_i24_i17 x hx h) (fun h => (List.mem_append.1 h).elim (fun h => p_i24_i13 x hx h) (fun h => p_i24_M x hx h)))
  have o1 : Ok [] ([g22] ++ ([g15] ++ ([g11] ++ (M)))) w21.heap.size := Ok.nil _ _
  have o2 : Ok ([g15] ++ ([g11] ++ (M))) ([g22] ++ ([g15] ++ ([g11] ++ (M)))) w21.heap.size := (Ok.app (fun _ h => .inl (mr (ml h))) (Ok.app (fun _ h => .inl (mr (mr (ml h)))) (fun _ h => .inl (mr (mr (mr (h)))))))
  have f1 := f1.chg (Chg.refl [] _) o1 o2
  have f2 := f2.chg (Chg.refl [] _) o1 o2
  have f3 := f3.chg (Chg.refl [] _) o1 o2
  have f4 := f4.chg (Chg.refl [] _) o1 o2
  have f5 := f5.chg (Chg.refl [] _) o1 o2
  have f6 := f6.chg (Chg.refl [] _) o1 o2
  have f7 := f7.chg (Chg.refl [] _) o1 o2
  have f8 := f8.chg (Chg.refl [] _) o1 o2
  have hBg11 := hBg11.chg (Chg.refl [] _) (fun h => nomatch h)
  have hBg15 := hBg15.chg (Chg.refl [] _) (fun h => nomatch h)
  have hM : MS ([g15] ++ ([g11] ++ (M))) w21 := (MS.app (fun x h => hM.chg (Chg.refl [] _) x (mr (ml h))) (MS.app (fun x h => hM.chg (Chg.refl [] _) x (mr (mr (ml h)))) (fun x h => hM.chg (Chg.refl [] _) x (mr (mr (mr (h)))))))
  have hC := hC.trans (Chg.refl [] _) (Ok.nil _ _)
  have f25 := fz
  obtain ⟨t26, H26, H⟩ := bind_some H
  refine cl ha (by rfl) (by kernel_rfl) (by rfl) (by rfl) (by rfl) (vinerylaw16_few.walk w21 _ hM ([a0, a1] : List S_api_Choice) (some ⟨g22, 0, none⟩) 2 f25 k _ H26) ?_
  rintro _ w26 ⟨rfl, hc26, hMn⟩ a ha
  have o1 : Ok [] ([g15] ++ ([g11] ++ (M))) w21.heap.size := Ok.nil _ _
  have o2 : Ok ([g15] ++ ([g11] ++ (M))) ([g15] ++ ([g11] ++ (M))) w21.heap.size := (Ok.app (fun _ h => .inl (ml h)) (Ok.app (fun _ h => .inl (mr (ml h))) (fun _ h => .inl (mr (mr (h))))))
  have f25 := f25.chg hc26 o1 o2
  have f1 := f1.chg hc26 o1 o2
  have f2 := f2.chg hc26 o1 o2
  have f3 := f3.chg hc26 o1 o2
  have f4 := f4.chg hc26 o1 o2
  have f5 := f5.chg hc26 o1 o2
  have f6 := f6.chg hc26 o1 o2
  have f7 := f7.chg hc26 o1 o2
  have f8 := f8.chg hc26 o1 o2
  have hBg11 := hBg11.chg hc26 (fun h => nomatch h)
  have hBg15 := hBg15.chg hc26 (fun h => nomatch h)
  have hM : MS ([g15] ++ ([g11] ++ (M))) w26 := (MS.app (fun x h => hM.chg hc26 x (ml h)) (MS.app (fun x h => hM.chg hc26 x (mr (ml h))) (fun x h => hM.chg hc26 x (mr (mr (h))))))
  have hC := hC.trans hc26 (Ok.nil _ _)
  refine seg ha 1 [(2, .int .i64 a2), (3, .pointer (some ⟨g11, 0, none⟩)), (4, .pointer (some ⟨g15, 0, none⟩)), (7, .bool t19), (8, .bool t26)] (by kernel_rfl) fun a ha => ?_
  refine hK20 _ _ ?_; clear hK20 K20
  refine wp_seq_k fun K27 hK27 => ?_
  refine wp_seq_k fun K28 hK28 => ?_
  refine wp_region_lit ?_
  refine seg ha 10 [(2, .int .i64 a2), (3, .pointer (some ⟨g11, 0, none⟩)), (4, .pointer (some ⟨g15, 0, none⟩)), (7, .bool t19), (25, .bool (if (if (!t26) = true then true else (decide (a2 < (0 : Int)))) = true then true else (decide (a2 > (4294967294 : Int)))))] (by kernel_rfl) fun a ha => ?_
  refine hK28 _ _ ?_; clear hK28 K28
  refine cnd ha rfl (fun hc29 => ?_) (fun hc29 => ?_)
  · have H := ite_t hc29 H
    refine wp_seq_k fun K30 hK30 => ?_
    refine wp_region_lit ?_
    refine seg ha 2 [(6, .bool t19)] (by kernel_rfl) fun a ha => ?_
    refine hK30 _ _ ?_; clear hK30 K30
    refine wp_ret ?_
    try simp only [Exit.then, Exit.inBlock]
    have o1 : Ok [] ([g15] ++ ([g11] ++ (M))) w26.heap.size := Ok.nil _ _
    have o2 : Ok (M) ([g15] ++ ([g11] ++ (M))) w26.heap.size := (fun _ h => .inl (mr (mr (h))))
    have f1 := f1.chg (Chg.refl [] _) o1 o2
    have f2 := f2.chg (Chg.refl [] _) o1 o2
    have f3 := f3.chg (Chg.refl [] _) o1 o2
    have f4 := f4.chg (Chg.refl [] _) o1 o2
    have f5 := f5.chg (Chg.refl [] _) o1 o2
    have f6 := f6.chg (Chg.refl [] _) o1 o2
    have f7 := f7.chg (Chg.refl [] _) o1 o2
    have f8 := f8.chg (Chg.refl [] _) o1 o2
    have hBg11 := hBg11.chg (Chg.refl [] _) (fun h => nomatch h)
    have hBg15 := hBg15.chg (Chg.refl [] _) (fun h => nomatch h)
    have hM : MS (M) w26 := (fun x h => hM.chg (Chg.refl [] _) x (mr (mr (h))))
    have hC := hC.trans (Chg.refl [] _) (Ok.nil _ _)
    obtain rfl := Option.some.inj H
    refine rt1 ha rfl rfl ?_
    exact ⟨rfl, hC, hM⟩
  · have H := ite_f hc29 H
    refine wp_skip ?_
    refine hK27 _ _ ?_; clear hK27 K27
    refine wp_seq_k fun K31 hK31 => ?_
    refine wp_region_lit ?_
    refine seg ha 4 [(2, .int .i64 a2), (3, .pointer (some ⟨g11, 0, none⟩)), (4, .pointer (some ⟨g15, 0, none⟩)), (7, .bool t19), (27, .int .i64 a2), (30, .pointer (some ⟨g11, 111, none⟩))] (by kernel_rfl) fun a ha => ?_
    refine st ha rfl rfl rfl (by kernel_rfl) rfl rfl hBg11 (Nat.le_of_ble_eq_true (by kernel_rfl)) fun a w32 ha hb2 hc33 _ => ?_
    have o1 : Ok [g11] ([g15] ++ ([g11] ++ (M))) w26.heap.size := (fun _ h => .inl (mr (ml h)))
    have o2 : Ok ([g15] ++ ([g11] ++ (M))) ([g15] ++ ([g11] ++ (M))) w26.heap.size := (Ok.app (fun _ h => .inl (ml h)) (Ok.app (fun _ h => .inl (mr (ml h))) (fun _ h => .inl (mr (mr (h))))))
    have f1 := f1.chg hc33 o1 o2
    have f2 := f2.chg hc33 o1 o2
    have f3 := f3.chg hc33 o1 o2
    have f4 := f4.chg hc33 o1 o2
    have f5 := f5.chg hc33 o1 o2
    have f6 := f6.chg hc33 o1 o2
    have f7 := f7.chg hc33 o1 o2
    have f8 := f8.chg hc33 o1 o2
    have hBg15 := hBg15.chg hc33 (p_i17_i13 g15 (by simp))
    have hM : MS ([g15] ++ ([g11] ++ (M))) w32 := (MS.app (fun x h => hM.chg hc33 x (ml h)) (MS.app (fun x h => hM.chg hc33 x (mr (ml h))) (fun x h => hM.chg hc33 x (mr (mr (h))))))
    have hC := hC.trans hc33 (fun x h => .inr (e_i13 x h))
    have hBg11 : Box w32 g11 (cS_api_Choice (⟨(⟨a0.Route.Size, a0.Route.Safi, a0.Route.M, a0.Route.U, a0.Route.Next, (⟨a0.Route.Attrs.Origin, a0.Route.Attrs.Path, a0.Route.Attrs.Med, a2, a0.Route.Attrs.Originator, a0.Route.Attrs.Clusters, a0.Route.Attrs.Exts, a0.Route.Attrs.Tunnels⟩ : S_api_Attrs)⟩ : S_api_Route), a0.Peer, a0.Id⟩ : S_api_Choice) ao1 cap1 ao2 cap2 ao3 cap3 ao4 cap4) := hb2
    refine hK31 _ _ ?_; clear hK31 K31
    refine wp_seq_k fun K34 hK34 => ?_
    refine wp_region_lit ?_
    refine seg ha 5 [(2, .int .i64 a2), (3, .pointer (some ⟨g11, 0, none⟩)), (4, .pointer (some ⟨g15, 0, none⟩)), (7, .bool t19), (32, .int .i64 (IntKind.i64.wrap (a2 + (1 : Int)))), (35, .pointer (some ⟨g15, 111, none⟩))] (by kernel_rfl) fun a ha => ?_
    refine st ha rfl rfl rfl (by kernel_rfl) rfl rfl hBg15 (Nat.le_of_ble_eq_true (by kernel_rfl)) fun a w35 ha hb2 hc36 _ => ?_
    have o1 : Ok [g15] ([g15] ++ ([g11] ++ (M))) w32.heap.size := (fun _ h => .inl (ml h))
    have o2 : Ok ([g15] ++ ([g11] ++ (M))) ([g15] ++ ([g11] ++ (M))) w32.heap.size := (Ok.app (fun _ h => .inl (ml h)) (Ok.app (fun _ h => .inl (mr (ml h))) (fun _ h => .inl (mr (mr (h))))))
    have f1 := f1.chg hc36 o1 o2
    have f2 := f2.chg hc36 o1 o2
    have f3 := f3.chg hc36 o1 o2
    have f4 := f4.chg hc36 o1 o2
    have f5 := f5.chg hc36 o1 o2
    have f6 := f6.chg hc36 o1 o2
    have f7 := f7.chg hc36 o1 o2
    have f8 := f8.chg hc36 o1 o2
    have hBg11 := hBg11.chg hc36 ((fun x hx hy => p_i17_i13 x hy hx) g11 (by simp))
    have hM : MS ([g15] ++ ([g11] ++ (M))) w35 := (MS.app (fun x h => hM.chg hc36 x (ml h)) (MS.app (fun x h => hM.chg hc36 x (mr (ml h))) (fun x h => hM.chg hc36 x (mr (mr (h))))))
    have hC := hC.trans hc36 (fun x h => .inr (e_i17 x h))
    have hBg15 : Box w35 g15 (cS_api_Choice (⟨(⟨a1.Route.Size, a1.Route.Safi, a1.Route.M, a1.Route.U, a1.Route.Next, (⟨a1.Route.Attrs.Origin, a1.Route.Attrs.Path, a1.Route.Attrs.Med, IntKind.i64.wrap (a2 + (1 : Int)), a1.Route.Attrs.Originator, a1.Route.Attrs.Clusters, a1.Route.Attrs.Exts, a1.Route.Attrs.Tunnels⟩ : S_api_Attrs)⟩ : S_api_Route), a1.Peer, a1.Id⟩ : S_api_Choice) ao5 cap5 ao6 cap6 ao7 cap7 ao8 cap8) := hb2
    refine hK34 _ _ ?_; clear hK34 K34
    refine wp_seq_k fun K37 hK37 => ?_
    refine wp_region_lit ?_
    refine ldA (cs := (cS_api_Choice (⟨(⟨a0.Route.Size, a0.Route.Safi, a0.Route.M, a0.Route.U, a0.Route.Next, (⟨a0.Route.Attrs.Origin, a0.Route.Attrs.Path, a0.Route.Attrs.Med, a2, a0.Route.Attrs.Originator, a0.Route.Attrs.Clusters, a0.Route.Attrs.Exts, a0.Route.Attrs.Tunnels⟩ : S_api_Attrs)⟩ : S_api_Route), a0.Peer, a0.Id⟩ : S_api_Choice) ao1 cap1 ao2 cap2 ao3 cap3 ao4 cap4)) ha rfl (by kernel_rfl) rfl rfl rfl (cells_sub (Box.cells hBg11) (all := (cS_api_Choice (⟨(⟨a0.Route.Size, a0.Route.Safi, a0.Route.M, a0.Route.U, a0.Route.Next, (⟨a0.Route.Attrs.Origin, a0.Route.Attrs.Path, a0.Route.Attrs.Med, a2, a0.Route.Attrs.Originator, a0.Route.Attrs.Clusters, a0.Route.Attrs.Exts, a0.Route.Attrs.Tunnels⟩ : S_api_Attrs)⟩ : S_api_Route), a0.Peer, a0.Id⟩ : S_api_Choice) ao1 cap1 ao2 cap2 ao3 cap3 ao4 cap4)) [] [] (by kernel_rfl)) fun a ha => ?_
    refine ldA (cs := (cS_api_Choice (⟨(⟨a1.Route.Size, a1.Route.Safi, a1.Route.M, a1.Route.U, a1.Route.Next, (⟨a1.Route.Attrs.Origin, a1.Route.Attrs.Path, a1.Route.Attrs.Med, IntKind.i64.wrap (a2 + (1 : Int)), a1.Route.Attrs.Originator, a1.Route.Attrs.Clusters, a1.Route.Attrs.Exts, a1.Route.Attrs.Tunnels⟩ : S_api_Attrs)⟩ : S_api_Route), a1.Peer, a1.Id⟩ : S_api_Choice) ao5 cap5 ao6 cap6 ao7 cap7 ao8 cap8)) ha rfl (by kernel_rfl) rfl rfl rfl (cells_sub (Box.cells hBg15) (all := (cS_api_Choice (⟨(⟨a1.Route.Size, a1.Route.Safi, a1.Route.M, a1.Route.U, a1.Route.Next, (⟨a1.Route.Attrs.Origin, a1.Route.Attrs.Path, a1.Route.Attrs.Med, IntKind.i64.wrap (a2 + (1 : Int)), a1.Route.Attrs.Originator, a1.Route.Attrs.Clusters, a1.Route.Attrs.Exts, a1.Route.Attrs.Tunnels⟩ : S_api_Attrs)⟩ : S_api_Route), a1.Peer, a1.Id⟩ : S_api_Choice) ao5 cap5 ao6 cap6 ao7 cap7 ao8 cap8)) [] [] (by kernel_rfl)) fun a ha => ?_
    obtain ⟨t38, H38, H⟩ := bind_some H
    refine cl ha (by rfl) (by kernel_rfl) (by rfl) (by rfl) (by rfl) (decide_Compare.walk w35 _ hM (⟨(⟨a0.Route.Size, a0.Route.Safi, a0.Route.M, a0.Route.U, a0.Route.Next, (⟨a0.Route.Attrs.Origin, a0.Route.Attrs.Path, a0.Route.Attrs.Med, a2, a0.Route.Attrs.Originator, a0.Route.Attrs.Clusters, a0.Route.Attrs.Exts, a0.Route.Attrs.Tunnels⟩ : S_api_Attrs)⟩ : S_api_Route), a0.Peer, a0.Id⟩ : S_api_Choice) ao1 cap1 f1 ao2 cap2 f2 ao3 cap3 f3 ao4 cap4 f4 (⟨(⟨a1.Route.Size, a1.Route.Safi, a1.Route.M, a1.Route.U, a1.Route.Next, (⟨a1.Route.Attrs.Origin, a1.Route.Attrs.Path, a1.Route.Attrs.Med, IntKind.i64.wrap (a2 + (1 : Int)), a1.Route.Attrs.Originator, a1.Route.Attrs.Clusters, a1.Route.Attrs.Exts, a1.Route.Attrs.Tunnels⟩ : S_api_Attrs)⟩ : S_api_Route), a1.Peer, a1.Id⟩ : S_api_Choice) ao5 cap5 f5 ao6 cap6 f6 ao7 cap7 f7 ao8 cap8 f8 k _ H38) ?_
    rintro _ w38 ⟨rfl, hc38, hMn⟩ a ha
    have o1 : Ok [] ([g15] ++ ([g11] ++ (M))) w35.heap.size := Ok.nil _ _
    have o2 : Ok ([g15] ++ ([g11] ++ (M))) ([g15] ++ ([g11] ++ (M))) w35.heap.size := (Ok.app (fun _ h => .inl (ml h)) (Ok.app (fun _ h => .inl (mr (ml h))) (fun _ h => .inl (mr (mr (h))))))
    have f1 := f1.chg hc38 o1 o2
    have f2 := f2.chg hc38 o1 o2
    have f3 := f3.chg hc38 o1 o2
    have f4 := f4.chg hc38 o1 o2
    have f5 := f5.chg hc38 o1 o2
    have f6 := f6.chg hc38 o1 o2
    have f7 := f7.chg hc38 o1 o2
    have f8 := f8.chg hc38 o1 o2
    have hBg11 := hBg11.chg hc38 (fun h => nomatch h)
    have hBg15 := hBg15.chg hc38 (fun h => nomatch h)
    have hM : MS ([g15] ++ ([g11] ++ (M))) w38 := (MS.app (fun x h => hM.chg hc38 x (ml h)) (MS.app (fun x h => hM.chg hc38 x (mr (ml h))) (fun x h => hM.chg hc38 x (mr (mr (h))))))
    have hC := hC.trans hc38 (Ok.nil _ _)
    refine seg ha 1 [(2, .int .i64 a2), (3, .pointer (some ⟨g11, 0, none⟩)), (4, .pointer (some ⟨g15, 0, none⟩)), (7, .bool t19), (9, .int .i64 t38)] (by kernel_rfl) fun a ha => ?_
    refine hK37 _ _ ?_; clear hK37 K37
    refine wp_seq_k fun K39 hK39 => ?_
    refine wp_region_lit ?_
    refine ldA (cs := (cS_api_Choice (⟨(⟨a1.Route.Size, a1.Route.Safi, a1.Route.M, a1.Route.U, a1.Route.Next, (⟨a1.Route.Attrs.Origin, a1.Route.Attrs.Path, a1.Route.Attrs.Med, IntKind.i64.wrap (a2 + (1 : Int)), a1.Route.Attrs.Originator, a1.Route.Attrs.Clusters, a1.Route.Attrs.Exts, a1.Route.Attrs.Tunnels⟩ : S_api_Attrs)⟩ : S_api_Route), a1.Peer, a1.Id⟩ : S_api_Choice) ao5 cap5 ao6 cap6 ao7 cap7 ao8 cap8)) ha rfl (by kernel_rfl) rfl rfl rfl (cells_sub (Box.cells hBg15) (all := (cS_api_Choice (⟨(⟨a1.Route.Size, a1.Route.Safi, a1.Route.M, a1.Route.U, a1.Route.Next, (⟨a1.Route.Attrs.Origin, a1.Route.Attrs.Path, a1.Route.Attrs.Med, IntKind.i64.wrap (a2 + (1 : Int)), a1.Route.Attrs.Originator, a1.Route.Attrs.Clusters, a1.Route.Attrs.Exts, a1.Route.Attrs.Tunnels⟩ : S_api_Attrs)⟩ : S_api_Route), a1.Peer, a1.Id⟩ : S_api_Choice) ao5 cap5 ao6 cap6 ao7 cap7 ao8 cap8)) [] [] (by kernel_rfl)) fun a ha => ?_
    refine al (cs := (cS_api_Choice (⟨(⟨(0 : Int), (0 : Int), (⟨(0 : Int), (List.replicate 8 (0 : Int)), (0 : Int), (⟨(0 : Int), (List.replicate 16 (0 : Int))⟩ : S_api_Addr), (⟨(0 : Int), (List.replicate 16 (0 : Int))⟩ : S_api_Addr), (⟨(0 : Int), (List.replicate 16 (0 : Int))⟩ : S_api_Addr), ([] : List UInt8)⟩ : S_api_Mroute), (⟨(List.replicate 8 (0 : Int)), (⟨(⟨(0 : Int), (List.replicate 16 (0 : Int))⟩ : S_api_Addr), (0 : Int)⟩ : S_api_Prefix), (0 : Int)⟩ : S_api_Uroute), (⟨(0 : Int), (List.replicate 16 (0 : Int))⟩ : S_api_Addr), (⟨(0 : Int), ([] : List S_api_Segment), (0 : Int), (0 : Int), (⟨(0 : Int), (List.replicate 16 (0 : Int))⟩ : S_api_Addr), ([] : List S_api_Addr), ([] : List (List Int)), ([] : List S_api_Tunnel)⟩ : S_api_Attrs)⟩ : S_api_Route), (0 : Int), (⟨(0 : Int), (List.replicate 16 (0 : Int))⟩ : S_api_Addr)⟩ : S_api_Choice) none 0 none 0 none 0 none 0)) (z := .agg (cS_api_Choice (⟨(⟨(0 : Int), (0 : Int), (⟨(0 : Int), (List.replicate 8 (0 : Int)), (0 : Int), (⟨(0 : Int), (List.replicate 16 (0 : Int))⟩ : S_api_Addr), (⟨(0 : Int), (List.replicate 16 (0 : Int))⟩ : S_api_Addr), (⟨(0 : Int), (List.replicate 16 (0 : Int))⟩ : S_api_Addr), ([] : List UInt8)⟩ : S_api_Mroute), (⟨(List.replicate 8 (0 : Int)), (⟨(⟨(0 : Int), (List.replicate 16 (0 : Int))⟩ : S_api_Addr), (0 : Int)⟩ : S_api_Prefix), (0 : Int)⟩ : S_api_Uroute), (⟨(0 : Int), (List.replicate 16 (0 : Int))⟩ : S_api_Addr), (⟨(0 : Int), ([] : List S_api_Segment), (0 : Int), (0 : Int), (⟨(0 : Int), (List.replicate 16 (0 : Int))⟩ : S_api_Addr), ([] : List S_api_Addr), ([] : List (List Int)), ([] : List S_api_Tunnel)⟩ : S_api_Attrs)⟩ : S_api_Route), (0 : Int), (⟨(0 : Int), (List.replicate 16 (0 : Int))⟩ : S_api_Addr)⟩ : S_api_Choice) none 0 none 0 none 0 none 0).toArray) ha (fun w => by kernel_rfl) rfl rfl rfl rfl fun a w40 g41 hN42 ha => ?_
    have o1 : Ok [] ([g15] ++ ([g11] ++ (M))) w38.heap.size := Ok.nil _ _
    have o2 : Ok ([g41] ++ ([g15] ++ ([g11] ++ (M)))) ([g15] ++ ([g11] ++ (M))) w38.heap.size := (Ok.app (hN42.ok _) (Ok.app (fun _ h => .inl (ml h)) (Ok.app (fun _ h => .inl (mr (ml h))) (fun _ h => .inl (mr (mr (h)))))))
    have f5 := f5.chg hN42.chg o1 o2
    have f6 := f6.chg hN42.chg o1 o2
    have f7 := f7.chg hN42.chg o1 o2
    have f8 := f8.chg hN42.chg o1 o2
    have f1 := f1.chg hN42.chg o1 o2
    have f2 := f2.chg hN42.chg o1 o2
    have f3 := f3.chg hN42.chg o1 o2
    have f4 := f4.chg hN42.chg o1 o2
    have hBg11 := hBg11.chg hN42.chg (fun h => nomatch h)
    have hBg15 := hBg15.chg hN42.chg (fun h => nomatch h)
    have nw : Ok ([g41]) ([g15] ++ ([g11] ++ (M))) w38.heap.size := (hN42.ok _)
    have p_i43_i17 : ∀ x ∈ [g41], x ∉ ([g15]) := fun x hx hy => absurd (hM x (ml hy)) (Nat.not_lt.2 ((hN42.ge1) x hx))
    have p_i43_i13 : ∀ x ∈ [g41], x ∉ ([g11]) := fun x hx hy => absurd (hM x (mr (ml hy))) (Nat.not_lt.2 ((hN42.ge1) x hx))
    have p_i43_M : ∀ x ∈ [g41], x ∉ M := fun x hx hy => absurd (hM x (mr (mr (hy)))) (Nat.not_lt.2 ((hN42.ge1) x hx))
    have e_i43 : ∀ x ∈ [g41], w.heap.size ≤ x := fun x hx => Nat.le_trans hC.size ((hN42.ge1) x hx)
    have hM : MS ([g41] ++ ([g15] ++ ([g11] ++ (M)))) w40 := (MS.app hN42.ms (MS.app (fun x h => hM.chg hN42.chg x (ml h)) (MS.app (fun x h => hM.chg hN42.chg x (mr (ml h))) (fun x h => hM.chg hN42.chg x (mr (mr (h)))))))
    have hC := hC.trans hN42.chg (Ok.nil _ _)
    have hBg41 : Box w40 g41 (cS_api_Choice (⟨(⟨(0 : Int), (0 : Int), (⟨(0 : Int), (List.replicate 8 (0 : Int)), (0 : Int), (⟨(0 : Int), (List.replicate 16 (0 : Int))⟩ : S_api_Addr), (⟨(0 : Int), (List.replicate 16 (0 : Int))⟩ : S_api_Addr), (⟨(0 : Int), (List.replicate 16 (0 : Int))⟩ : S_api_Addr), ([] : List UInt8)⟩ : S_api_Mroute), (⟨(List.replicate 8 (0 : Int)), (⟨(⟨(0 : Int), (List.replicate 16 (0 : Int))⟩ : S_api_Addr), (0 : Int)⟩ : S_api_Prefix), (0 : Int)⟩ : S_api_Uroute), (⟨(0 : Int), (List.replicate 16 (0 : Int))⟩ : S_api_Addr), (⟨(0 : Int), ([] : List S_api_Segment), (0 : Int), (0 : Int), (⟨(0 : Int), (List.replicate 16 (0 : Int))⟩ : S_api_Addr), ([] : List S_api_Addr), ([] : List (List Int)), ([] : List S_api_Tunnel)⟩ : S_api_Attrs)⟩ : S_api_Route), (0 : Int), (⟨(0 : Int), (List.replicate 16 (0 : Int))⟩ : S_api_Addr)⟩ : S_api_Choice) none 0 none 0 none 0 none 0) := hN42.box
    refine stA (l := (cS_api_Choice (⟨(⟨a1.Route.Size, a1.Route.Safi, a1.Route.M, a1.Route.U, a1.Route.Next, (⟨a1.Route.Attrs.Origin, a1.Route.Attrs.Path, a1.Route.Attrs.Med, IntKind.i64.wrap (a2 + (1 : Int)), a1.Route.Attrs.Originator, a1.Route.Attrs.Clusters, a1.Route.Attrs.Exts, a1.Route.Attrs.Tunnels⟩ : S_api_Attrs)⟩ : S_api_Route), a1.Peer, a1.Id⟩ : S_api_Choice) ao5 cap5 ao6 cap6 ao7 cap7 ao8 cap8)) ha rfl rfl rfl (by kernel_rfl) rfl rfl hBg41 rfl fun a w44 ha hb2 hc45 _ => ?_
    have o1 : Ok [g41] ([g41] ++ ([g15] ++ ([g11] ++ (M)))) w40.heap.size := (fun _ h => .inl (ml h))
    have o2 : Ok ([g41] ++ ([g15] ++ ([g11] ++ (M)))) ([g41] ++ ([g15] ++ ([g11] ++ (M)))) w40.heap.size := (Ok.app (fun _ h => .inl (ml h)) (Ok.app (fun _ h => .inl (mr (ml h))) (Ok.app (fun _ h => .inl (mr (mr (ml h)))) (fun _ h => .inl (mr (mr (mr (h))))))))
    have f5 := f5.chg hc45 o1 o2
    have f6 := f6.chg hc45 o1 o2
    have f7 := f7.chg hc45 o1 o2
    have f8 := f8.chg hc45 o1 o2
    have f1 := f1.chg hc45 o1 o2
    have f2 := f2.chg hc45 o1 o2
    have f3 := f3.chg hc45 o1 o2
    have f4 := f4.chg hc45 o1 o2
    have hBg11 := hBg11.chg hc45 ((fun x hx hy => p_i43_i13 x hy hx) g11 (by simp))
    have hBg15 := hBg15.chg hc45 ((fun x hx hy => p_i43_i17 x hy hx) g15 (by simp))
    have hM : MS ([g41] ++ ([g15] ++ ([g11] ++ (M)))) w44 := (MS.app (fun x h => hM.chg hc45 x (ml h)) (MS.app (fun x h => hM.chg hc45 x (mr (ml h))) (MS.app (fun x h => hM.chg hc45 x (mr (mr (ml h)))) (fun x h => hM.chg hc45 x (mr (mr (mr (h))))))))
    have hC := hC.trans hc45 (fun x h => .inr (e_i43 x h))
    have hBg41 : Box w44 g41 (cS_api_Choice (⟨(⟨a1.Route.Size, a1.Route.Safi, a1.Route.M, a1.Route.U, a1.Route.Next, (⟨a1.Route.Attrs.Origin, a1.Route.Attrs.Path, a1.Route.Attrs.Med, IntKind.i64.wrap (a2 + (1 : Int)), a1.Route.Attrs.Originator, a1.Route.Attrs.Clusters, a1.Route.Attrs.Exts, a1.Route.Attrs.Tunnels⟩ : S_api_Attrs)⟩ : S_api_Route), a1.Peer, a1.Id⟩ : S_api_Choice) ao5 cap5 ao6 cap6 ao7 cap7 ao8 cap8) := hb2
    refine hK39 _ _ ?_; clear hK39 K39
    refine wp_seq_k fun K46 hK46 => ?_
    refine wp_region_lit ?_
    refine seg ha 3 [(2, .int .i64 a2), (3, .pointer (some ⟨g11, 0, none⟩)), (4, .pointer (some ⟨g15, 0, none⟩)), (7, .bool t19), (9, .int .i64 t38), (10, .pointer (some ⟨g41, 0, none⟩)), (42, .pointer (some ⟨g11, 109, none⟩))] (by kernel_rfl) fun a ha => ?_
    refine ld (v := .slice ao1 a0.Route.Attrs.Path.length cap1) ha rfl (by kernel_rfl) rfl rfl rfl (hBg11.cell' (o := 109) rfl (by kernel_rfl)) fun a ha => ?_
    refine seg ha 3 [(2, .int .i64 a2), (3, .pointer (some ⟨g11, 0, none⟩)), (4, .pointer (some ⟨g15, 0, none⟩)), (7, .bool t19), (9, .int .i64 t38), (10, .pointer (some ⟨g41, 0, none⟩)), (43, .slice ao1 a0.Route.Attrs.Path.length cap1), (46, .pointer (some ⟨g41, 109, none⟩))] (by kernel_rfl) fun a ha => ?_
    refine st ha rfl rfl rfl (by kernel_rfl) rfl rfl hBg41 (Nat.le_of_ble_eq_true (by kernel_rfl)) fun a w47 ha hb2 hc48 _ => ?_
    have o1 : Ok [g41] ([g41] ++ ([g15] ++ ([g11] ++ (M)))) w44.heap.size := (fun _ h => .inl (ml h))
    have o2 : Ok ([g41] ++ ([g15] ++ ([g11] ++ (M)))) ([g41] ++ ([g15] ++ ([g11] ++ (M)))) w44.heap.size := (Ok.app (fun _ h => .inl (ml h)) (Ok.app (fun _ h => .inl (mr (ml h))) (Ok.app (fun _ h => .inl (mr (mr (ml h)))) (fun _ h => .inl (mr (mr (mr (h))))))))
    have f1 := f1.chg hc48 o1 o2
    have f2 := f2.chg hc48 o1 o2
    have f3 := f3.chg hc48 o1 o2
    have f4 := f4.chg hc48 o1 o2
    have f5 := f5.chg hc48 o1 o2
    have f6 := f6.chg hc48 o1 o2
    have f7 := f7.chg hc48 o1 o2
    have f8 := f8.chg hc48 o1 o2
    have hBg11 := hBg11.chg hc48 ((fun x hx hy => p_i43_i13 x hy hx) g11 (by simp))
    have hBg15 := hBg15.chg hc48 ((fun x hx hy => p_i43_i17 x hy hx) g15 (by simp))
    have hM : MS ([g41] ++ ([g15] ++ ([g11] ++ (M)))) w47 := (MS.app (fun x h => hM.chg hc48 x (ml h)) (MS.app (fun x h => hM.chg hc48 x (mr (ml h))) (MS.app (fun x h => hM.chg hc48 x (mr (mr (ml h)))) (fun x h => hM.chg hc48 x (mr (mr (mr (h))))))))
    have hC := hC.trans hc48 (fun x h => .inr (e_i43 x h))
    have hBg41 : Box w47 g41 (cS_api_Choice (⟨(⟨a1.Route.Size, a1.Route.Safi, a1.Route.M, a1.Route.U, a1.Route.Next, (⟨a1.Route.Attrs.Origin, a0.Route.Attrs.Path, a1.Route.Attrs.Med, IntKind.i64.wrap (a2 + (1 : Int)), a1.Route.Attrs.Originator, a1.Route.Attrs.Clusters, a1.Route.Attrs.Exts, a1.Route.Attrs.Tunnels⟩ : S_api_Attrs)⟩ : S_api_Route), a1.Peer, a1.Id⟩ : S_api_Choice) ao1 cap1 ao6 cap6 ao7 cap7 ao8 cap8) := hb2
    refine hK46 _ _ ?_; clear hK46 K46
    refine wp_seq_k fun K49 hK49 => ?_
    refine wp_region_lit ?_
    refine seg ha 3 [(2, .int .i64 a2), (3, .pointer (some ⟨g11, 0, none⟩)), (4, .pointer (some ⟨g15, 0, none⟩)), (7, .bool t19), (9, .int .i64 t38), (10, .pointer (some ⟨g41, 0, none⟩)), (49, .pointer (some ⟨g11, 108, none⟩))] (by kernel_rfl) fun a ha => ?_
    refine ld (v := .int .i64 a0.Route.Attrs.Origin) ha rfl (by kernel_rfl) rfl rfl rfl (hBg11.cell' (o := 108) rfl (by kernel_rfl)) fun a ha => ?_
    refine seg ha 3 [(2, .int .i64 a2), (3, .pointer (some ⟨g11, 0, none⟩)), (4, .pointer (some ⟨g15, 0, none⟩)), (7, .bool t19), (9, .int .i64 t38), (10, .pointer (some ⟨g41, 0, none⟩)), (50, .int .i64 a0.Route.Attrs.Origin), (53, .pointer (some ⟨g41, 108, none⟩))] (by kernel_rfl) fun a ha => ?_
    refine st ha rfl rfl rfl (by kernel_rfl) rfl rfl hBg41 (Nat.le_of_ble_eq_true (by kernel_rfl)) fun a w50 ha hb2 hc51 _ => ?_
    have o1 : Ok [g41] ([g41] ++ ([g15] ++ ([g11] ++ (M)))) w47.heap.size := (fun _ h => .inl (ml h))
    have o2 : Ok ([g41] ++ ([g15] ++ ([g11] ++ (M)))) ([g41] ++ ([g15] ++ ([g11] ++ (M)))) w47.heap.size := (Ok.app (fun _ h => .inl (ml h)) (Ok.app (fun _ h => .inl (mr (ml h))) (Ok.app (fun _ h => .inl (mr (mr (ml h)))) (fun _ h => .inl (mr (mr (mr (h))))))))
    have f1 := f1.chg hc51 o1 o2
    have f2 := f2.chg hc51 o1 o2
    have f3 := f3.chg hc51 o1 o2
    have f4 := f4.chg hc51 o1 o2
    have f5 := f5.chg hc51 o1 o2
    have f6 := f6.chg hc51 o1 o2
    have f7 := f7.chg hc51 o1 o2
    have f8 := f8.chg hc51 o1 o2
    have hBg11 := hBg11.chg hc51 ((fun x hx hy => p_i43_i13 x hy hx) g11 (by simp))
    have hBg15 := hBg15.chg hc51 ((fun x hx hy => p_i43_i17 x hy hx) g15 (by simp))
    have hM : MS ([g41] ++ ([g15] ++ ([g11] ++ (M)))) w50 := (MS.app (fun x h => hM.chg hc51 x (ml h)) (MS.app (fun x h => hM.chg hc51 x (mr (ml h))) (MS.app (fun x h => hM.chg hc51 x (mr (mr (ml h)))) (fun x h => hM.chg hc51 x (mr (mr (mr (h))))))))
    have hC := hC.trans hc51 (fun x h => .inr (e_i43 x h))
    have hBg41 : Box w50 g41 (cS_api_Choice (⟨(⟨a1.Route.Size, a1.Route.Safi, a1.Route.M, a1.Route.U, a1.Route.Next, (⟨a0.Route.Attrs.Origin, a0.Route.Attrs.Path, a1.Route.Attrs.Med, IntKind.i64.wrap (a2 + (1 : Int)), a1.Route.Attrs.Originator, a1.Route.Attrs.Clusters, a1.Route.Attrs.Exts, a1.Route.Attrs.Tunnels⟩ : S_api_Attrs)⟩ : S_api_Route), a1.Peer, a1.Id⟩ : S_api_Choice) ao1 cap1 ao6 cap6 ao7 cap7 ao8 cap8) := hb2
    refine hK49 _ _ ?_; clear hK49 K49
    refine wp_seq_k fun K52 hK52 => ?_
    refine wp_region_lit ?_
    refine seg ha 3 [(2, .int .i64 a2), (3, .pointer (some ⟨g11, 0, none⟩)), (4, .pointer (some ⟨g15, 0, none⟩)), (7, .bool t19), (9, .int .i64 t38), (10, .pointer (some ⟨g41, 0, none⟩)), (56, .pointer (some ⟨g11, 110, none⟩))] (by kernel_rfl) fun a ha => ?_
    refine ld (v := .int .i64 a0.Route.Attrs.Med) ha rfl (by kernel_rfl) rfl rfl rfl (hBg11.cell' (o := 110) rfl (by kernel_rfl)) fun a ha => ?_
    refine seg ha 3 [(2, .int .i64 a2), (3, .pointer (some ⟨g11, 0, none⟩)), (4, .pointer (some ⟨g15, 0, none⟩)), (7, .bool t19), (9, .int .i64 t38), (10, .pointer (some ⟨g41, 0, none⟩)), (57, .int .i64 a0.Route.Attrs.Med), (60, .pointer (some ⟨g41, 110, none⟩))] (by kernel_rfl) fun a ha => ?_
    refine st ha rfl rfl rfl (by kernel_rfl) rfl rfl hBg41 (Nat.le_of_ble_eq_true (by kernel_rfl)) fun a w53 ha hb2 hc54 _ => ?_
    have o1 : Ok [g41] ([g41] ++ ([g15] ++ ([g11] ++ (M)))) w50.heap.size := (fun _ h => .inl (ml h))
    have o2 : Ok ([g41] ++ ([g15] ++ ([g11] ++ (M)))) ([g41] ++ ([g15] ++ ([g11] ++ (M)))) w50.heap.size := (Ok.app (fun _ h => .inl (ml h)) (Ok.app (fun _ h => .inl (mr (ml h))) (Ok.app (fun _ h => .inl (mr (mr (ml h)))) (fun _ h => .inl (mr (mr (mr (h))))))))
    have f1 := f1.chg hc54 o1 o2
    have f2 := f2.chg hc54 o1 o2
    have f3 := f3.chg hc54 o1 o2
    have f4 := f4.chg hc54 o1 o2
    have f5 := f5.chg hc54 o1 o2
    have f6 := f6.chg hc54 o1 o2
    have f7 := f7.chg hc54 o1 o2
    have f8 := f8.chg hc54 o1 o2
    have hBg11 := hBg11.chg hc54 ((fun x hx hy => p_i43_i13 x hy hx) g11 (by simp))
    have hBg15 := hBg15.chg hc54 ((fun x hx hy => p_i43_i17 x hy hx) g15 (by simp))
    have hM : MS ([g41] ++ ([g15] ++ ([g11] ++ (M)))) w53 := (MS.app (fun x h => hM.chg hc54 x (ml h)) (MS.app (fun x h => hM.chg hc54 x (mr (ml h))) (MS.app (fun x h => hM.chg hc54 x (mr (mr (ml h)))) (fun x h => hM.chg hc54 x (mr (mr (mr (h))))))))
    have hC := hC.trans hc54 (fun x h => .inr (e_i43 x h))
    have hBg41 : Box w53 g41 (cS_api_Choice (⟨(⟨a1.Route.Size, a1.Route.Safi, a1.Route.M, a1.Route.U, a1.Route.Next, (⟨a0.Route.Attrs.Origin, a0.Route.Attrs.Path, a0.Route.Attrs.Med, IntKind.i64.wrap (a2 + (1 : Int)), a1.Route.Attrs.Originator, a1.Route.Attrs.Clusters, a1.Route.Attrs.Exts, a1.Route.Attrs.Tunnels⟩ : S_api_Attrs)⟩ : S_api_Route), a1.Peer, a1.Id⟩ : S_api_Choice) ao1 cap1 ao6 cap6 ao7 cap7 ao8 cap8) := hb2
    refine hK52 _ _ ?_; clear hK52 K52
    refine wp_seq_k fun K55 hK55 => ?_
    refine wp_region_lit ?_
    refine seg ha 4 [(3, .pointer (some ⟨g11, 0, none⟩)), (4, .pointer (some ⟨g15, 0, none⟩)), (7, .bool t19), (9, .int .i64 t38), (10, .pointer (some ⟨g41, 0, none⟩)), (61, .int .i64 a2), (64, .pointer (some ⟨g41, 111, none⟩))] (by kernel_rfl) fun a ha => ?_
    refine st ha rfl rfl rfl (by kernel_rfl) rfl rfl hBg41 (Nat.le_of_ble_eq_true (by kernel_rfl)) fun a w56 ha hb2 hc57 _ => ?_
    have o1 : Ok [g41] ([g41] ++ ([g15] ++ ([g11] ++ (M)))) w53.heap.size := (fun _ h => .inl (ml h))
    have o2 : Ok ([g41] ++ ([g15] ++ ([g11] ++ (M)))) ([g41] ++ ([g15] ++ ([g11] ++ (M)))) w53.heap.size := (Ok.app (fun _ h => .inl (ml h)) (Ok.app (fun _ h => .inl (mr (ml h))) (Ok.app (fun _ h => .inl (mr (mr (ml h)))) (fun _ h => .inl (mr (mr (mr (h))))))))
    have f1 := f1.chg hc57 o1 o2
    have f2 := f2.chg hc57 o1 o2
    have f3 := f3.chg hc57 o1 o2
    have f4 := f4.chg hc57 o1 o2
    have f5 := f5.chg hc57 o1 o2
    have f6 := f6.chg hc57 o1 o2
    have f7 := f7.chg hc57 o1 o2
    have f8 := f8.chg hc57 o1 o2
    have hBg11 := hBg11.chg hc57 ((fun x hx hy => p_i43_i13 x hy hx) g11 (by simp))
    have hBg15 := hBg15.chg hc57 ((fun x hx hy => p_i43_i17 x hy hx) g15 (by simp))
    have hM : MS ([g41] ++ ([g15] ++ ([g11] ++ (M)))) w56 := (MS.app (fun x h => hM.chg hc57 x (ml h)) (MS.app (fun x h => hM.chg hc57 x (mr (ml h))) (MS.app (fun x h => hM.chg hc57 x (mr (mr (ml h)))) (fun x h => hM.chg hc57 x (mr (mr (mr (h))))))))
    have hC := hC.trans hc57 (fun x h => .inr (e_i43 x h))
    have hBg41 : Box w56 g41 (cS_api_Choice (⟨(⟨a1.Route.Size, a1.Route.Safi, a1.Route.M, a1.Route.U, a1.Route.Next, (⟨a0.Route.Attrs.Origin, a0.Route.Attrs.Path, a0.Route.Attrs.Med, a2, a1.Route.Attrs.Originator, a1.Route.Attrs.Clusters, a1.Route.Attrs.Exts, a1.Route.Attrs.Tunnels⟩ : S_api_Attrs)⟩ : S_api_Route), a1.Peer, a1.Id⟩ : S_api_Choice) ao1 cap1 ao6 cap6 ao7 cap7 ao8 cap8) := hb2
    refine hK55 _ _ ?_; clear hK55 K55
    refine wp_seq_k fun K58 hK58 => ?_
    refine wp_region_lit ?_
    refine seg ha 1 [(3, .pointer (some ⟨g11, 0, none⟩)), (4, .pointer (some ⟨g15, 0, none⟩)), (7, .bool t19), (9, .int .i64 t38), (10, .pointer (some ⟨g41, 0, none⟩)), (65, .pointer (some ⟨g11, 132, none⟩))] (by kernel_rfl) fun a ha => ?_
    refine st ha rfl rfl rfl (by kernel_rfl) rfl rfl hBg11 (Nat.le_of_ble_eq_true (by kernel_rfl)) fun a w59 ha hb2 hc60 _ => ?_
    have o1 : Ok [g11] ([g41] ++ ([g15] ++ ([g11] ++ (M)))) w56.heap.size := (fun _ h => .inl (mr (mr (ml h))))
    have o2 : Ok ([g41] ++ ([g15] ++ ([g11] ++ (M)))) ([g41] ++ ([g15] ++ ([g11] ++ (M)))) w56.heap.size := (Ok.app (fun _ h => .inl (ml h)) (Ok.app (fun _ h => .inl (mr (ml h))) (Ok.app (fun _ h => .inl (mr (mr (ml h)))) (fun _ h => .inl (mr (mr (mr (h))))))))
    have f1 := f1.chg hc60 o1 o2
    have f2 := f2.chg hc60 o1 o2
    have f3 := f3.chg hc60 o1 o2
    have f4 := f4.chg hc60 o1 o2
    have f5 := f5.chg hc60 o1 o2
    have f6 := f6.chg hc60 o1 o2
    have f7 := f7.chg hc60 o1 o2
    have f8 := f8.chg hc60 o1 o2
    have hBg15 := hBg15.chg hc60 (p_i17_i13 g15 (by simp))
    have hBg41 := hBg41.chg hc60 (p_i43_i13 g41 (by simp))
    have hM : MS ([g41] ++ ([g15] ++ ([g11] ++ (M)))) w59 := (MS.app (fun x h => hM.chg hc60 x (ml h)) (MS.app (fun x h => hM.chg hc60 x (mr (ml h))) (MS.app (fun x h => hM.chg hc60 x (mr (mr (ml h)))) (fun x h => hM.chg hc60 x (mr (mr (mr (h))))))))
    have hC := hC.trans hc60 (fun x h => .inr (e_i13 x h))
    have hBg11 : Box w59 g11 (cS_api_Choice (⟨(⟨a0.Route.Size, a0.Route.Safi, a0.Route.M, a0.Route.U, a0.Route.Next, (⟨a0.Route.Attrs.Origin, a0.Route.Attrs.Path, a0.Route.Attrs.Med, a2, a0.Route.Attrs.Originator, a0.Route.Attrs.Clusters, a0.Route.Attrs.Exts, a0.Route.Attrs.Tunnels⟩ : S_api_Attrs)⟩ : S_api_Route), (0 : Int), a0.Id⟩ : S_api_Choice) ao1 cap1 ao2 cap2 ao3 cap3 ao4 cap4) := hb2
    refine hK58 _ _ ?_; clear hK58 K58
    refine wp_seq_k fun K61 hK61 => ?_
    refine wp_region_lit ?_
    refine seg ha 1 [(3, .pointer (some ⟨g11, 0, none⟩)), (4, .pointer (some ⟨g15, 0, none⟩)), (7, .bool t19), (9, .int .i64 t38), (10, .pointer (some ⟨g41, 0, none⟩)), (66, .pointer (some ⟨g41, 132, none⟩))] (by kernel_rfl) fun a ha => ?_
    refine st ha rfl rfl rfl (by kernel_rfl) rfl rfl hBg41 (Nat.le_of_ble_eq_true (by kernel_rfl)) fun a w62 ha hb2 hc63 _ => ?_
    have o1 : Ok [g41] ([g41] ++ ([g15] ++ ([g11] ++ (M)))) w59.heap.size := (fun _ h => .inl (ml h))
    have o2 : Ok ([g41] ++ ([g15] ++ ([g11] ++ (M)))) ([g41] ++ ([g15] ++ ([g11] ++ (M)))) w59.heap.size := (Ok.app (fun _ h => .inl (ml h)) (Ok.app (fun _ h => .inl (mr (ml h))) (Ok.app (fun _ h => .inl (mr (mr (ml h)))) (fun _ h => .inl (mr (mr (mr (h))))))))
    have f1 := f1.chg hc63 o1 o2
    have f2 := f2.chg hc63 o1 o2
    have f3 := f3.chg hc63 o1 o2
    have f4 := f4.chg hc63 o1 o2
    have f5 := f5.chg hc63 o1 o2
    have f6 := f6.chg hc63 o1 o2
    have f7 := f7.chg hc63 o1 o2
    have f8 := f8.chg hc63 o1 o2
    have hBg11 := hBg11.chg hc63 ((fun x hx hy => p_i43_i13 x hy hx) g11 (by simp))
    have hBg15 := hBg15.chg hc63 ((fun x hx hy => p_i43_i17 x hy hx) g15 (by simp))
    have hM : MS ([g41] ++ ([g15] ++ ([g11] ++ (M)))) w62 := (MS.app (fun x h => hM.chg hc63 x (ml h)) (MS.app (fun x h => hM.chg hc63 x (mr (ml h))) (MS.app (fun x h => hM.chg hc63 x (mr (mr (ml h)))) (fun x h => hM.chg hc63 x (mr (mr (mr (h))))))))
    have hC := hC.trans hc63 (fun x h => .inr (e_i43 x h))
    have hBg41 : Box w62 g41 (cS_api_Choice (⟨(⟨a1.Route.Size, a1.Route.Safi, a1.Route.M, a1.Route.U, a1.Route.Next, (⟨a0.Route.Attrs.Origin, a0.Route.Attrs.Path, a0.Route.Attrs.Med, a2, a1.Route.Attrs.Originator, a1.Route.Attrs.Clusters, a1.Route.Attrs.Exts, a1.Route.Attrs.Tunnels⟩ : S_api_Attrs)⟩ : S_api_Route), (1 : Int), a1.Id⟩ : S_api_Choice) ao1 cap1 ao6 cap6 ao7 cap7 ao8 cap8) := hb2
    refine hK61 _ _ ?_; clear hK61 K61
    refine wp_seq_k fun K64 hK64 => ?_
    refine wp_region_lit ?_
    obtain ⟨s65, H65, H⟩ := bind_some H
    have J65 : ∀ (a : Act) (w65 : World), Has a Try.f4.ntmps [(6, .bool s65)] → (RSl rS_api_Segment 58 w65 ([g41] ++ ([g15] ++ ([g11] ++ (M)))) ao1 cap1 a0.Route.Attrs.Path) → (RSl rS_api_Addr 26 w65 ([g41] ++ ([g15] ++ ([g11] ++ (M)))) ao2 cap2 a0.Route.Attrs.Clusters) → (RSl (rArr .u8 8) 81 w65 ([g41] ++ ([g15] ++ ([g11] ++ (M)))) ao3 cap3 a0.Route.Attrs.Exts) → (RSl rS_api_Tunnel 70 w65 ([g41] ++ ([g15] ++ ([g11] ++ (M)))) ao4 cap4 a0.Route.Attrs.Tunnels) → (RSl rS_api_Segment 58 w65 ([g41] ++ ([g15] ++ ([g11] ++ (M)))) ao5 cap5 a1.Route.Attrs.Path) → (RSl rS_api_Addr 26 w65 ([g41] ++ ([g15] ++ ([g11] ++ (M)))) ao6 cap6 a1.Route.Attrs.Clusters) → (RSl (rArr .u8 8) 81 w65 ([g41] ++ ([g15] ++ ([g11] ++ (M)))) ao7 cap7 a1.Route.Attrs.Exts) → (RSl rS_api_Tunnel 70 w65 ([g41] ++ ([g15] ++ ([g11] ++ (M)))) ao8 cap8 a1.Route.Attrs.Tunnels) → (Box w65 g11 (cS_api_Choice (⟨(⟨a0.Route.Size, a0.Route.Safi, a0.Route.M, a0.Route.U, a0.Route.Next, (⟨a0.Route.Attrs.Origin, a0.Route.Attrs.Path, a0.Route.Attrs.Med, a2, a0.Route.Attrs.Originator, a0.Route.Attrs.Clusters, a0.Route.Attrs.Exts, a0.Route.Attrs.Tunnels⟩ : S_api_Attrs)⟩ : S_api_Route), (0 : Int), a0.Id⟩ : S_api_Choice) ao1 cap1 ao2 cap2 ao3 cap3 ao4 cap4)) → (Box w65 g15 (cS_api_Choice (⟨(⟨a1.Route.Size, a1.Route.Safi, a1.Route.M, a1.Route.U, a1.Route.Next, (⟨a1.Route.Attrs.Origin, a1.Route.Attrs.Path, a1.Route.Attrs.Med, IntKind.i64.wrap (a2 + (1 : Int)), a1.Route.Attrs.Originator, a1.Route.Attrs.Clusters, a1.Route.Attrs.Exts, a1.Route.Attrs.Tunnels⟩ : S_api_Attrs)⟩ : S_api_Route), a1.Peer, a1.Id⟩ : S_api_Choice) ao5 cap5 ao6 cap6 ao7 cap7 ao8 cap8)) → (Box w65 g41 (cS_api_Choice (⟨(⟨a1.Route.Size, a1.Route.Safi, a1.Route.M, a1.Route.U, a1.Route.Next, (⟨a0.Route.Attrs.Origin, a0.Route.Attrs.Path, a0.Route.Attrs.Med, a2, a1.Route.Attrs.Originator, a1.Route.Attrs.Clusters, a1.Route.Attrs.Exts, a1.Route.Attrs.Tunnels⟩ : S_api_Attrs)⟩ : S_api_Route), (1 : Int), a1.Id⟩ : S_api_Choice) ao1 cap1 ao6 cap6 ao7 cap7 ao8 cap8)) → (Chg [] w w65) → (MS ([g41] ++ ([g15] ++ ([g11] ++ (M)))) w65) → K64 a w65 := by
      intro a w65 ha f1 f2 f3 f4 f5 f6 f7 f8 hBg11 hBg15 hBg41 hC hM
      refine hK64 _ _ ?_; clear hK64 K64
      refine wp_ret ?_
      try simp only [Exit.then, Exit.inBlock]
      have o1 : Ok [] ([g41] ++ ([g15] ++ ([g11] ++ (M)))) w65.heap.size := Ok.nil _ _
      have o2 : Ok (M) ([g41] ++ ([g15] ++ ([g11] ++ (M)))) w65.heap.size := (fun _ h => .inl (mr (mr (mr (h)))))
      have f1 := f1.chg (Chg.refl [] _) o1 o2
      have f2 := f2.chg (Chg.refl [] _) o1 o2
      have f3 := f3.chg (Chg.refl [] _) o1 o2
      have f4 := f4.chg (Chg.refl [] _) o1 o2
      have f5 := f5.chg (Chg.refl [] _) o1 o2
      have f6 := f6.chg (Chg.refl [] _) o1 o2
      have f7 := f7.chg (Chg.refl [] _) o1 o2
      have f8 := f8.chg (Chg.refl [] _) o1 o2
      have hBg11 := hBg11.chg (Chg.refl [] _) (fun h => nomatch h)
      have hBg15 := hBg15.chg (Chg.refl [] _) (fun h => nomatch h)
      have hBg41 := hBg41.chg (Chg.refl [] _) (fun h => nomatch h)
      have hM : MS (M) w65 := (fun x h => hM.chg (Chg.refl [] _) x (mr (mr (mr (h)))))
      have hC := hC.trans (Chg.refl [] _) (Ok.nil _ _)
      obtain rfl := Option.some.inj H
      refine rt1 ha rfl rfl ?_
      exact ⟨rfl, hC, hM⟩
    have H := H65
    refine seg ha 2 [(68, .bool t19), (3, .pointer (some ⟨g11, 0, none⟩)), (4, .pointer (some ⟨g15, 0, none⟩)), (9, .int .i64 t38), (10, .pointer (some ⟨g41, 0, none⟩))] (by kernel_rfl) fun a ha => ?_
    rcases Bool.eq_false_or_eq_true (t19) with hb66 | hb66
    · have ha := ha.lit hb66
      have H := ite_t hb66 H
      refine sgh ha 4 [2, 2, 3, 0] [(72, .bool (t38 == (1 : Int))), (3, .pointer (some ⟨g11, 0, none⟩)), (4, .pointer (some ⟨g15, 0, none⟩)), (10, .pointer (some ⟨g41, 0, none⟩))] (by kernel_rfl) fun a ha => ?_
      rcases Bool.eq_false_or_eq_true (t38 == (1 : Int)) with hb67 | hb67
      · have ha := ha.lit hb67
        have H := ite_t hb67 H
        refine ldA (cs := (cS_api_Choice (⟨(⟨a0.Route.Size, a0.Route.Safi, a0.Route.M, a0.Route.U, a0.Route.Next, (⟨a0.Route.Attrs.Origin, a0.Route.Attrs.Path, a0.Route.Attrs.Med, a2, a0.Route.Attrs.Originator, a0.Route.Attrs.Clusters, a0.Route.Attrs.Exts, a0.Route.Attrs.Tunnels⟩ : S_api_Attrs)⟩ : S_api_Route), (0 : Int), a0.Id⟩ : S_api_Choice) ao1 cap1 ao2 cap2 ao3 cap3 ao4 cap4)) ha rfl (by kernel_rfl) rfl rfl rfl (cells_sub (Box.cells hBg11) (all := (cS_api_Choice (⟨(⟨a0.Route.Size, a0.Route.Safi, a0.Route.M, a0.Route.U, a0.Route.Next, (⟨a0.Route.Attrs.Origin, a0.Route.Attrs.Path, a0.Route.Attrs.Med, a2, a0.Route.Attrs.Originator, a0.Route.Attrs.Clusters, a0.Route.Attrs.Exts, a0.Route.Attrs.Tunnels⟩ : S_api_Attrs)⟩ : S_api_Route), (0 : Int), a0.Id⟩ : S_api_Choice) ao1 cap1 ao2 cap2 ao3 cap3 ao4 cap4)) [] [] (by kernel_rfl)) fun a ha => ?_
        refine ldA (cs := (cS_api_Choice (⟨(⟨a1.Route.Size, a1.Route.Safi, a1.Route.M, a1.Route.U, a1.Route.Next, (⟨a1.Route.Attrs.Origin, a1.Route.Attrs.Path, a1.Route.Attrs.Med, IntKind.i64.wrap (a2 + (1 : Int)), a1.Route.Attrs.Originator, a1.Route.Attrs.Clusters, a1.Route.Attrs.Exts, a1.Route.Attrs.Tunnels⟩ : S_api_Attrs)⟩ : S_api_Route), a1.Peer, a1.Id⟩ : S_api_Choice) ao5 cap5 ao6 cap6 ao7 cap7 ao8 cap8)) ha rfl (by kernel_rfl) rfl rfl rfl (cells_sub (Box.cells hBg15) (all := (cS_api_Choice (⟨(⟨a1.Route.Size, a1.Route.Safi, a1.Route.M, a1.Route.U, a1.Route.Next, (⟨a1.Route.Attrs.Origin, a1.Route.Attrs.Path, a1.Route.Attrs.Med, IntKind.i64.wrap (a2 + (1 : Int)), a1.Route.Attrs.Originator, a1.Route.Attrs.Clusters, a1.Route.Attrs.Exts, a1.Route.Attrs.Tunnels⟩ : S_api_Attrs)⟩ : S_api_Route), a1.Peer, a1.Id⟩ : S_api_Choice) ao5 cap5 ao6 cap6 ao7 cap7 ao8 cap8)) [] [] (by kernel_rfl)) fun a ha => ?_
        refine bslA (vals := ([.agg (cS_api_Choice (⟨(⟨a0.Route.Size, a0.Route.Safi, a0.Route.M, a0.Route.U, a0.Route.Next, (⟨a0.Route.Attrs.Origin, a0.Route.Attrs.Path, a0.Route.Attrs.Med, a2, a0.Route.Attrs.Originator, a0.Route.Attrs.Clusters, a0.Route.Attrs.Exts, a0.Route.Attrs.Tunnels⟩ : S_api_Attrs)⟩ : S_api_Route), (0 : Int), a0.Id⟩ : S_api_Choice) ao1 cap1 ao2 cap2 ao3 cap3 ao4 cap4).toArray, .agg (cS_api_Choice (⟨(⟨a1.Route.Size, a1.Route.Safi, a1.Route.M, a1.Route.U, a1.Route.Next, (⟨a1.Route.Attrs.Origin, a1.Route.Attrs.Path, a1.Route.Attrs.Med, IntKind.i64.wrap (a2 + (1 : Int)), a1.Route.Attrs.Originator, a1.Route.Attrs.Clusters, a1.Route.Attrs.Exts, a1.Route.Attrs.Tunnels⟩ : S_api_Attrs)⟩ : S_api_Route), a1.Peer, a1.Id⟩ : S_api_Choice) ao5 cap5 ao6 cap6 ao7 cap7 ao8 cap8).toArray] : List Value)) (T := 42) (z := .agg (cS_api_Choice (⟨(⟨(0 : Int), (0 : Int), (⟨(0 : Int), (List.replicate 8 (0 : Int)), (0 : Int), (⟨(0 : Int), (List.replicate 16 (0 : Int))⟩ : S_api_Addr), (⟨(0 : Int), (List.replicate 16 (0 : Int))⟩ : S_api_Addr), (⟨(0 : Int), (List.replicate 16 (0 : Int))⟩ : S_api_Addr), ([] : List UInt8)⟩ : S_api_Mroute), (⟨(List.replicate 8 (0 : Int)), (⟨(⟨(0 : Int), (List.replicate 16 (0 : Int))⟩ : S_api_Addr), (0 : Int)⟩ : S_api_Prefix), (0 : Int)⟩ : S_api_Uroute), (⟨(0 : Int), (List.replicate 16 (0 : Int))⟩ : S_api_Addr), (⟨(0 : Int), ([] : List S_api_Segment), (0 : Int), (0 : Int), (⟨(0 : Int), (List.replicate 16 (0 : Int))⟩ : S_api_Addr), ([] : List S_api_Addr), ([] : List (List Int)), ([] : List S_api_Tunnel)⟩ : S_api_Attrs)⟩ : S_api_Route), (0 : Int), (⟨(0 : Int), (List.replicate 16 (0 : Int))⟩ : S_api_Addr)⟩ : S_api_Choice) none 0 none 0 none 0 none 0).toArray) ha rfl (by kernel_rfl) rfl (by kernel_rfl) (s := 150) (by kernel_rfl) rfl rfl (fun w => by kernel_rfl) (by kernel_rfl) rfl rfl rfl fun a w68 g69 hN70 ha => ?_
        have hN70 := (show New _ _ _ (.cells (((cS_api_Choice (⟨(⟨a0.Route.Size, a0.Route.Safi, a0.Route.M, a0.Route.U, a0.Route.Next, (⟨a0.Route.Attrs.Origin, a0.Route.Attrs.Path, a0.Route.Attrs.Med, a2, a0.Route.Attrs.Originator, a0.Route.Attrs.Clusters, a0.Route.Attrs.Exts, a0.Route.Attrs.Tunnels⟩ : S_api_Attrs)⟩ : S_api_Route), (0 : Int), a0.Id⟩ : S_api_Choice) ao1 cap1 ao2 cap2 ao3 cap3 ao4 cap4) ++ ((cS_api_Choice (⟨(⟨a1.Route.Size, a1.Route.Safi, a1.Route.M, a1.Route.U, a1.Route.Next, (⟨a1.Route.Attrs.Origin, a1.Route.Attrs.Path, a1.Route.Attrs.Med, IntKind.i64.wrap (a2 + (1 : Int)), a1.Route.Attrs.Originator, a1.Route.Attrs.Clusters, a1.Route.Attrs.Exts, a1.Route.Attrs.Tunnels⟩ : S_api_Attrs)⟩ : S_api_Route), a1.Peer, a1.Id⟩ : S_api_Choice) ao5 cap5 ao6 cap6 ao7 cap7 ao8 cap8) ++ ([] : List Value)))).toArray 42 (0, 0)) from hN70)
        have o1 : Ok [] ([g41] ++ ([g15] ++ ([g11] ++ (M)))) w62.heap.size := Ok.nil _ _
        have o2 : Ok ([g69] ++ ([g41] ++ ([g15] ++ ([g11] ++ (M))))) ([g41] ++ ([g15] ++ ([g11] ++ (M)))) w62.heap.size := (Ok.app (hN70.ok _) (Ok.app (fun _ h => .inl (ml h)) (Ok.app (fun _ h => .inl (mr (ml h))) (Ok.app (fun _ h => .inl (mr (mr (ml h)))) (fun _ h => .inl (mr (mr (mr (h)))))))))
        have f1 := f1.chg hN70.chg o1 o2
        have f2 := f2.chg hN70.chg o1 o2
        have f3 := f3.chg hN70.chg o1 o2
        have f4 := f4.chg hN70.chg o1 o2
        have f5 := f5.chg hN70.chg o1 o2
        have f6 := f6.chg hN70.chg o1 o2
        have f7 := f7.chg hN70.chg o1 o2
        have f8 := f8.chg hN70.chg o1 o2
        have hBg11 := hBg11.chg hN70.chg (fun h => nomatch h)
        have hBg15 := hBg15.chg hN70.chg (fun h => nomatch h)
        have hBg41 := hBg41.chg hN70.chg (fun h => nomatch h)
        have nw : Ok ([g69]) ([g41] ++ ([g15] ++ ([g11] ++ (M)))) w62.heap.size := (hN70.ok _)
        have p_i71_i43 : ∀ x ∈ [g69], x ∉ ([g41]) := fun x hx hy => absurd (hM x (ml hy)) (Nat.not_lt.2 ((hN70.ge1) x hx))
        have p_i71_i17 : ∀ x ∈ [g69], x ∉ ([g15]) := fun x hx hy => absurd (hM x (mr (ml hy))) (Nat.not_lt.2 ((hN70.ge1) x hx))
        have p_i71_i13 : ∀ x ∈ [g69], x ∉ ([g11]) := fun x hx hy => absurd (hM x (mr (mr (ml hy)))) (Nat.not_lt.2 ((hN70.ge1) x hx))
        have p_i71_M : ∀ x ∈ [g69], x ∉ M := fun x hx hy => absurd (hM x (mr (mr (mr (hy))))) (Nat.not_lt.2 ((hN70.ge1) x hx))
        have e_i71 : ∀ x ∈ [g69], w.heap.size ≤ x := fun x hx => Nat.le_trans hC.size ((hN70.ge1) x hx)
        have hM : MS ([g69] ++ ([g41] ++ ([g15] ++ ([g11] ++ (M))))) w68 := (MS.app hN70.ms (MS.app (fun x h => hM.chg hN70.chg x (ml h)) (MS.app (fun x h => hM.chg hN70.chg x (mr (ml h))) (MS.app (fun x h => hM.chg hN70.chg x (mr (mr (ml h)))) (fun x h => hM.chg hN70.chg x (mr (mr (mr (h)))))))))
        have hC := hC.trans hN70.chg (Ok.nil _ _)
        have f72 : Own rS_api_Choice 42 w68 ([g69] ++ ([g41] ++ ([g15] ++ ([g11] ++ (M))))) (some ⟨g69, 0, none⟩) 2 ([(⟨(⟨a0.Route.Size, a0.Route.Safi, a0.Route.M, a0.Route.U, a0.Route.Next, (⟨a0.Route.Attrs.Origin, a0.Route.Attrs.Path, a0.Route.Attrs.Med, a2, a0.Route.Attrs.Originator, a0.Route.Attrs.Clusters, a0.Route.Attrs.Exts, a0.Route.Attrs.Tunnels⟩ : S_api_Attrs)⟩ : S_api_Route), (0 : Int), a0.Id⟩ : S_api_Choice), (⟨(⟨a1.Route.Size, a1.Route.Safi, a1.Route.M, a1.Route.U, a1.Route.Next, (⟨a1.Route.Attrs.Origin, a1.Route.Attrs.Path, a1.Route.Attrs.Med, IntKind.i64.wrap (a2 + (1 : Int)), a1.Route.Attrs.Originator, a1.Route.Attrs.Clusters, a1.Route.Attrs.Exts, a1.Route.Attrs.Tunnels⟩ : S_api_Attrs)⟩ : S_api_Route), a1.Peer, a1.Id⟩ : S_api_Choice)] : List S_api_Choice) := hN70.own ⟨(cS_api_Choice (⟨(⟨a0.Route.Size, a0.Route.Safi, a0.Route.M, a0.Route.U, a0.Route.Next, (⟨a0.Route.Attrs.Origin, a0.Route.Attrs.Path, a0.Route.Attrs.Med, a2, a0.Route.Attrs.Originator, a0.Route.Attrs.Clusters, a0.Route.Attrs.Exts, a0.Route.Attrs.Tunnels⟩ : S_api_Attrs)⟩ : S_api_Route), (0 : Int), a0.Id⟩ : S_api_Choice) ao1 cap1 ao2 cap2 ao3 cap3 ao4 cap4), _, rfl, (rS_api_Choice.mk (⟨(⟨a0.Route.Size, a0.Route.Safi, a0.Route.M, a0.Route.U, a0.Route.Next, (⟨a0.Route.Attrs.Origin, a0.Route.Attrs.Path, a0.Route.Attrs.Med, a2, a0.Route.Attrs.Originator, a0.Route.Attrs.Clusters, a0.Route.Attrs.Exts, a0.Route.Attrs.Tunnels⟩ : S_api_Attrs)⟩ : S_api_Route), (0 : Int), a0.Id⟩ : S_api_Choice) f1 f2 f3 f4), ⟨(cS_api_Choice (⟨(⟨a1.Route.Size, a1.Route.Safi, a1.Route.M, a1.Route.U, a1.Route.Next, (⟨a1.Route.Attrs.Origin, a1.Route.Attrs.Path, a1.Route.Attrs.Med, IntKind.i64.wrap (a2 + (1 : Int)), a1.Route.Attrs.Originator, a1.Route.Attrs.Clusters, a1.Route.Attrs.Exts, a1.Route.Attrs.Tunnels⟩ : S_api_Attrs)⟩ : S_api_Route), a1.Peer, a1.Id⟩ : S_api_Choice) ao5 cap5 ao6 cap6 ao7 cap7 ao8 cap8), _, rfl, (rS_api_Choice.mk (⟨(⟨a1.Route.Size, a1.Route.Safi, a1.Route.M, a1.Route.U, a1.Route.Next, (⟨a1.Route.Attrs.Origin, a1.Route.Attrs.Path, a1.Route.Attrs.Med, IntKind.i64.wrap (a2 + (1 : Int)), a1.Route.Attrs.Originator, a1.Route.Attrs.Clusters, a1.Route.Attrs.Exts, a1.Route.Attrs.Tunnels⟩ : S_api_Attrs)⟩ : S_api_Route), a1.Peer, a1.Id⟩ : S_api_Choice) f5 f6 f7 f8), rfl⟩⟩ (Nat.le_of_ble_eq_true rfl)
        have fz := f72.toRSl (M' := [g41] ++ ([g15] ++ ([g11] ++ (M)))) (Ok.app (fun _ h => .inl (mr (ml h))) (Ok.app (fun _ h => .inl (mr (mr (ml h)))) (Ok.app (fun _ h => .inl (mr (mr (mr (ml h))))) (fun _ h => .inl (mr (mr (mr (mr (h))))))))) (fun x hx hm => (List.mem_append.1 hm).elim (fun h => p_i71_i43 x hx h) (fun h => (List.mem_append.1 h).elim (fun h => p_i71_i17 x hx h) (fun h => (List.mem_append.1 h).elim (fun h => p_i71_i13 x hx h) (fun h => p_i71_M x hx h))))
        have o1 : Ok [] ([g69] ++ ([g41] ++ ([g15] ++ ([g11] ++ (M))))) w68.heap.size := Ok.nil _ _
        have o2 : Ok ([g41] ++ ([g15] ++ ([g11] ++ (M)))) ([g69] ++ ([g41] ++ ([g15] ++ ([g11] ++ (M))))) w68.heap.size := (Ok.app (fun _ h => .inl (mr (ml h))) (Ok.app (fun _ h => .inl (mr (mr (ml h)))) (Ok.app (fun _ h => .inl (mr (mr (mr (ml h))))) (fun _ h => .inl (mr (mr (mr (mr (h)))))))))
        have f1 := f1.chg (Chg.refl [] _) o1 o2
        have f2 := f2.chg (Chg.refl [] _) o1 o2
        have f3 := f3.chg (Chg.refl [] _) o1 o2
        have f4 := f4.chg (Chg.refl [] _) o1 o2
        have f5 := f5.chg (Chg.refl [] _) o1 o2
        have f6 := f6.chg (Chg.refl [] _) o1 o2
        have f7 := f7.chg (Chg.refl [] _) o1 o2
        have f8 := f8.chg (Chg.refl [] _) o1 o2
        have hBg11 := hBg11.chg (Chg.refl [] _) (fun h => nomatch h)
        have hBg15 := hBg15.chg (Chg.refl [] _) (fun h => nomatch h)
        have hBg41 := hBg41.chg (Chg.refl [] _) (fun h => nomatch h)
        have hM : MS ([g41] ++ ([g15] ++ ([g11] ++ (M)))) w68 := (MS.app (fun x h => hM.chg (Chg.refl [] _) x (mr (ml h))) (MS.app (fun x h => hM.chg (Chg.refl [] _) x (mr (mr (ml h)))) (MS.app (fun x h => hM.chg (Chg.refl [] _) x (mr (mr (mr (ml h))))) (fun x h => hM.chg (Chg.refl [] _) x (mr (mr (mr (mr (h)))))))))
        have hC := hC.trans (Chg.refl [] _) (Ok.nil _ _)
        have f72 := fz
        obtain ⟨t73, H73, H⟩ := bind_some H
        refine cl ha (by rfl) (by kernel_rfl) (by rfl) (by rfl) (by rfl) (decide_Best.walk w68 _ hM ([(⟨(⟨a0.Route.Size, a0.Route.Safi, a0.Route.M, a0.Route.U, a0.Route.Next, (⟨a0.Route.Attrs.Origin, a0.Route.Attrs.Path, a0.Route.Attrs.Med, a2, a0.Route.Attrs.Originator, a0.Route.Attrs.Clusters, a0.Route.Attrs.Exts, a0.Route.Attrs.Tunnels⟩ : S_api_Attrs)⟩ : S_api_Route), (0 : Int), a0.Id⟩ : S_api_Choice), (⟨(⟨a1.Route.Size, a1.Route.Safi, a1.Route.M, a1.Route.U, a1.Route.Next, (⟨a1.Route.Attrs.Origin, a1.Route.Attrs.Path, a1.Route.Attrs.Med, IntKind.i64.wrap (a2 + (1 : Int)), a1.Route.Attrs.Originator, a1.Route.Attrs.Clusters, a1.Route.Attrs.Exts, a1.Route.Attrs.Tunnels⟩ : S_api_Attrs)⟩ : S_api_Route), a1.Peer, a1.Id⟩ : S_api_Choice)] : List S_api_Choice) (some ⟨g69, 0, none⟩) 2 f72 k _ H73) ?_
        rintro _ w73 ⟨rfl, hc73, hMn⟩ a ha
        have o1 : Ok [] ([g41] ++ ([g15] ++ ([g11] ++ (M)))) w68.heap.size := Ok.nil _ _
        have o2 : Ok ([g41] ++ ([g15] ++ ([g11] ++ (M)))) ([g41] ++ ([g15] ++ ([g11] ++ (M)))) w68.heap.size := (Ok.app (fun _ h => .inl (ml h)) (Ok.app (fun _ h => .inl (mr (ml h))) (Ok.app (fun _ h => .inl (mr (mr (ml h)))) (fun _ h => .inl (mr (mr (mr (h))))))))
        have f72 := f72.chg hc73 o1 o2
        have f1 := f1.chg hc73 o1 o2
        have f2 := f2.chg hc73 o1 o2
        have f3 := f3.chg hc73 o1 o2
        have f4 := f4.chg hc73 o1 o2
        have f5 := f5.chg hc73 o1 o2
        have f6 := f6.chg hc73 o1 o2
        have f7 := f7.chg hc73 o1 o2
        have f8 := f8.chg hc73 o1 o2
        have hBg11 := hBg11.chg hc73 (fun h => nomatch h)
        have hBg15 := hBg15.chg hc73 (fun h => nomatch h)
        have hBg41 := hBg41.chg hc73 (fun h => nomatch h)
        have hM : MS ([g41] ++ ([g15] ++ ([g11] ++ (M)))) w73 := (MS.app (fun x h => hM.chg hc73 x (ml h)) (MS.app (fun x h => hM.chg hc73 x (mr (ml h))) (MS.app (fun x h => hM.chg hc73 x (mr (mr (ml h)))) (fun x h => hM.chg hc73 x (mr (mr (mr (h))))))))
        have hC := hC.trans hc73 (Ok.nil _ _)
        refine sgh ha 3 [2, 3, 0] [(79, .bool (t73 == (1 : Int))), (3, .pointer (some ⟨g11, 0, none⟩)), (10, .pointer (some ⟨g41, 0, none⟩))] (by kernel_rfl) fun a ha => ?_
        rcases Bool.eq_false_or_eq_true (t73 == (1 : Int)) with hb74 | hb74
        · have ha := ha.lit hb74
          have H := ite_t hb74 H
          refine ldA (cs := (cS_api_Choice (⟨(⟨a0.Route.Size, a0.Route.Safi, a0.Route.M, a0.Route.U, a0.Route.Next, (⟨a0.Route.Attrs.Origin, a0.Route.Attrs.Path, a0.Route.Attrs.Med, a2, a0.Route.Attrs.Originator, a0.Route.Attrs.Clusters, a0.Route.Attrs.Exts, a0.Route.Attrs.Tunnels⟩ : S_api_Attrs)⟩ : S_api_Route), (0 : Int), a0.Id⟩ : S_api_Choice) ao1 cap1 ao2 cap2 ao3 cap3 ao4 cap4)) ha rfl (by kernel_rfl) rfl rfl rfl (cells_sub (Box.cells hBg11) (all := (cS_api_Choice (⟨(⟨a0.Route.Size, a0.Route.Safi, a0.Route.M, a0.Route.U, a0.Route.Next, (⟨a0.Route.Attrs.Origin, a0.Route.Attrs.Path, a0.Route.Attrs.Med, a2, a0.Route.Attrs.Originator, a0.Route.Attrs.Clusters, a0.Route.Attrs.Exts, a0.Route.Attrs.Tunnels⟩ : S_api_Attrs)⟩ : S_api_Route), (0 : Int), a0.Id⟩ : S_api_Choice) ao1 cap1 ao2 cap2 ao3 cap3 ao4 cap4)) [] [] (by kernel_rfl)) fun a ha => ?_
          refine ldA (cs := (cS_api_Choice (⟨(⟨a1.Route.Size, a1.Route.Safi, a1.Route.M, a1.Route.U, a1.Route.Next, (⟨a0.Route.Attrs.Origin, a0.Route.Attrs.Path, a0.Route.Attrs.Med, a2, a1.Route.Attrs.Originator, a1.Route.Attrs.Clusters, a1.Route.Attrs.Exts, a1.Route.Attrs.Tunnels⟩ : S_api_Attrs)⟩ : S_api_Route), (1 : Int), a1.Id⟩ : S_api_Choice) ao1 cap1 ao6 cap6 ao7 cap7 ao8 cap8)) ha rfl (by kernel_rfl) rfl rfl rfl (cells_sub (Box.cells hBg41) (all := (cS_api_Choice (⟨(⟨a1.Route.Size, a1.Route.Safi, a1.Route.M, a1.Route.U, a1.Route.Next, (⟨a0.Route.Attrs.Origin, a0.Route.Attrs.Path, a0.Route.Attrs.Med, a2, a1.Route.Attrs.Originator, a1.Route.Attrs.Clusters, a1.Route.Attrs.Exts, a1.Route.Attrs.Tunnels⟩ : S_api_Attrs)⟩ : S_api_Route), (1 : Int), a1.Id⟩ : S_api_Choice) ao1 cap1 ao6 cap6 ao7 cap7 ao8 cap8)) [] [] (by kernel_rfl)) fun a ha => ?_
          obtain ⟨t75, H75, H⟩ := bind_some H
          refine cl ha (by rfl) (by kernel_rfl) (by rfl) (by rfl) (by rfl) (decide_Compare.walk w73 _ hM (⟨(⟨a0.Route.Size, a0.Route.Safi, a0.Route.M, a0.Route.U, a0.Route.Next, (⟨a0.Route.Attrs.Origin, a0.Route.Attrs.Path, a0.Route.Attrs.Med, a2, a0.Route.Attrs.Originator, a0.Route.Attrs.Clusters, a0.Route.Attrs.Exts, a0.Route.Attrs.Tunnels⟩ : S_api_Attrs)⟩ : S_api_Route), (0 : Int), a0.Id⟩ : S_api_Choice) ao1 cap1 f1 ao2 cap2 f2 ao3 cap3 f3 ao4 cap4 f4 (⟨(⟨a1.Route.Size, a1.Route.Safi, a1.Route.M, a1.Route.U, a1.Route.Next, (⟨a0.Route.Attrs.Origin, a0.Route.Attrs.Path, a0.Route.Attrs.Med, a2, a1.Route.Attrs.Originator, a1.Route.Attrs.Clusters, a1.Route.Attrs.Exts, a1.Route.Attrs.Tunnels⟩ : S_api_Attrs)⟩ : S_api_Route), (1 : Int), a1.Id⟩ : S_api_Choice) ao1 cap1 f1 ao6 cap6 f6 ao7 cap7 f7 ao8 cap8 f8 k _ H75) ?_
          rintro _ w75 ⟨rfl, hc75, hMn⟩ a ha
          have o1 : Ok [] ([g41] ++ ([g15] ++ ([g11] ++ (M)))) w73.heap.size := Ok.nil _ _
          have o2 : Ok ([g41] ++ ([g15] ++ ([g11] ++ (M)))) ([g41] ++ ([g15] ++ ([g11] ++ (M)))) w73.heap.size := (Ok.app (fun _ h => .inl (ml h)) (Ok.app (fun _ h => .inl (mr (ml h))) (Ok.app (fun _ h => .inl (mr (mr (ml h)))) (fun _ h => .inl (mr (mr (mr (h))))))))
          have f1 := f1.chg hc75 o1 o2
          have f2 := f2.chg hc75 o1 o2
          have f3 := f3.chg hc75 o1 o2
          have f4 := f4.chg hc75 o1 o2
          have f6 := f6.chg hc75 o1 o2
          have f7 := f7.chg hc75 o1 o2
          have f8 := f8.chg hc75 o1 o2
          have f5 := f5.chg hc75 o1 o2
          have hBg11 := hBg11.chg hc75 (fun h => nomatch h)
          have hBg15 := hBg15.chg hc75 (fun h => nomatch h)
          have hBg41 := hBg41.chg hc75 (fun h => nomatch h)
          have hM : MS ([g41] ++ ([g15] ++ ([g11] ++ (M)))) w75 := (MS.app (fun x h => hM.chg hc75 x (ml h)) (MS.app (fun x h => hM.chg hc75 x (mr (ml h))) (MS.app (fun x h => hM.chg hc75 x (mr (mr (ml h)))) (fun x h => hM.chg hc75 x (mr (mr (mr (h))))))))
          have hC := hC.trans hc75 (Ok.nil _ _)
          refine sgh ha 3 [2, 3, 0] [(6, .bool (t75 == (-1 : Int)))] (by kernel_rfl) fun a ha => ?_
          obtain rfl := Option.some.inj H
          exact J65 _ _ (ha.sel (by kernel_rfl)) f1 f2 f3 f4 f5 f6 f7 f8 hBg11 hBg15 hBg41 hC hM
        · have ha := ha.lit hb74
          have H := ite_f hb74 H
          refine sgh ha 6 [1, 1, 1, 1, 4, 0] [(6, .bool false)] (by kernel_rfl) fun a ha => ?_
          obtain rfl := Option.some.inj H
          exact J65 _ _ (ha.sel (by kernel_rfl)) f1 f2 f3 f4 f5 f6 f7 f8 hBg11 hBg15 hBg41 hC hM
      · have ha := ha.lit hb67
        have H := ite_f hb67 H
        refine sgh ha 13 [1, 1, 1, 1, 1, 4, 0, 1, 1, 1, 1, 4, 0] [(6, .bool false)] (by kernel_rfl) fun a ha => ?_
        obtain rfl := Option.some.inj H
        exact J65 _ _ (ha.sel (by kernel_rfl)) f1 f2 f3 f4 f5 f6 f7 f8 hBg11 hBg15 hBg41 hC hM
    · have ha := ha.lit hb66
      have H := ite_f hb66 H
      refine sgh ha 17 [1, 1, 4, 0, 1, 1, 1, 1, 1, 4, 0, 1, 1, 1, 1, 4, 0] [(6, .bool false)] (by kernel_rfl) fun a ha => ?_
      obtain rfl := Option.some.inj H
      exact J65 _ _ (ha.sel (by kernel_rfl)) f1 f2 f3 f4 f5 f6 f7 f8 hBg11 hBg15 hBg41 hC hM
end Go.E
