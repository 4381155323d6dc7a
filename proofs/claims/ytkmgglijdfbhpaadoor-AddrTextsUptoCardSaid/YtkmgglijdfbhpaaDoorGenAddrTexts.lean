/- What the functions that the law reaches compute, and the walks that show it. -/
import Derived.Test.YtkmgglijdfbhpaaDoorEngU
import Derived.Test.YtkmgglijdfbhpaaDoorShelf
import Derived.Test.YtkmgglijdfbhpaaDoorProg
import Derived.Test.YtkmgglijdfbhpaaDoorGenAddrTextsP1
set_option linter.unusedVariables false
set_option linter.unusedSimpArgs false
namespace Go.E
open Go.RowKit Go.Proofs
def vineryref02_six.l2 (k : Nat) (s10 : (List Int)) (s19 : Int × Int) : Nat → (List UInt8) → Int → Option (List UInt8)
  | 0, _, _ => none
  | kk + 1, x27, x28 => (if (decide (x28 < (8 : Int))) = true then (if (if (decide (s19.2 > (1 : Int))) = true then (x28 == s19.1) else false) = true then (if (x27 ++ ([58, 58] : List UInt8)).length ≤ 9223372036854775807 then vineryref02_six.l2 k s10 s19 kk (x27 ++ ([58, 58] : List UInt8)) (IntKind.i64.wrap ((IntKind.i64.wrap ((IntKind.i64.wrap (x28 + s19.2)) - (1 : Int))) + (1 : Int))) else none) else (((if (!((bstr x27).toList == (bstr ([] : List UInt8)).toList)) = true then (if 0 ≤ (IntKind.i64.wrap (((bstr x27).size : Int) - (1 : Int))) ∧ (IntKind.i64.wrap (((bstr x27).size : Int) - (1 : Int))) < (x27.length : Int) then some (((x27.getD (Int.toNat (IntKind.i64.wrap (((bstr x27).size : Int) - (1 : Int)))) 0).toNat : Int) != (58 : Int) : Bool) else none) else some (false : Bool))).bind fun s52 => (if s52 = true then (if (x27 ++ ([58] : List UInt8)).length ≤ 9223372036854775807 then some (x27 ++ ([58] : List UInt8) : List UInt8) else none) else some (x27 : List UInt8))).bind fun s41 => (if 0 ≤ x28 ∧ x28 < (s10.length : Int) then (vineryref02_Number.f k (rd s10 x28) (16 : Int)).bind fun t49 => (if (s41 ++ t49).length ≤ 9223372036854775807 then vineryref02_six.l2 k s10 s19 kk (s41 ++ t49) (IntKind.i64.wrap (x28 + (1 : Int))) else none) else none)) else some (x27 : List UInt8))
def vineryref02_six.l3 (s10 : (List Int)) : Nat → Int → Option (Int)
  | 0, _ => none
  | kk + 1, x64 => ((if (decide (x64 < (8 : Int))) = true then (if 0 ≤ x64 ∧ x64 < (s10.length : Int) then some ((rd s10 x64) == (0 : Int) : Bool) else none) else some (false : Bool))).bind fun s70 => (if s70 = true then vineryref02_six.l3 s10 kk (IntKind.i64.wrap (x64 + (1 : Int))) else some (x64 : Int))
def vineryref02_six.l1 (k : Nat) (s10 : (List Int)) : Nat → Int → Int → Int → Option (Int × Int)
  | 0, _, _, _ => none
  | kk + 1, x20, x21, x22 => (if (decide (x22 < (8 : Int))) = true then (vineryref02_six.l3 s10 k x22).bind fun s63 => (if (decide ((IntKind.i64.wrap (s63 - x22)) > x21)) = true then vineryref02_six.l1 k s10 kk x22 (IntKind.i64.wrap (s63 - x22)) (IntKind.i64.wrap (x22 + (1 : Int))) else vineryref02_six.l1 k s10 kk x20 x21 (IntKind.i64.wrap (x22 + (1 : Int)))) else some ((x20 : Int), (x21 : Int)))
def vineryref02_six.l0 (a0 : S_api_Addr) : Nat → (List Int) → Int → Option (List Int)
  | 0, _, _ => none
  | kk + 1, x12, x13 => (if (decide (x13 < (16 : Int))) = true then (if 0 ≤ x13 ∧ x13 < (16 : Int) then (if 0 ≤ (IntKind.i64.wrap (x13 + (1 : Int))) ∧ (IntKind.i64.wrap (x13 + (1 : Int))) < (16 : Int) then (if (x12.length + ([IntKind.i64.wrap ((IntKind.i64.wrap ((IntKind.i64.wrap (ar a0.B (Int.toNat x13))) * (256 : Int))) + (IntKind.i64.wrap (ar a0.B (Int.toNat (IntKind.i64.wrap (x13 + (1 : Int)))))))] : List Int).length) * 8 ≤ 140737488355328 then vineryref02_six.l0 a0 kk (x12 ++ ([IntKind.i64.wrap ((IntKind.i64.wrap ((IntKind.i64.wrap (ar a0.B (Int.toNat x13))) * (256 : Int))) + (IntKind.i64.wrap (ar a0.B (Int.toNat (IntKind.i64.wrap (x13 + (1 : Int)))))))] : List Int)) (IntKind.i64.wrap (x13 + (2 : Int))) else none) else none) else none) else some (x12 : List Int))
def vineryref02_six.f (k : Nat) (a0 : S_api_Addr) : Option (List UInt8) := (vineryref02_six.l0 a0 k ([] : List Int) (0 : Int)).bind fun s10 => (vineryref02_six.l1 k s10 k (0 : Int) (0 : Int) (0 : Int)).bind fun s19 => (vineryref02_six.l2 k s10 s19 k ([] : List UInt8) (0 : Int)).bind fun s26 => some ((s26 : List UInt8))
set_option maxRecDepth 100000 in
theorem vineryref02_six.walk (w : World) (M : List Nat) (hM : MS M w) (a0 : S_api_Addr) (k : Nat) (r : List UInt8) (H : vineryref02_six.f k a0 = some r) :
    To Tryd.prog 43 [.agg (cS_api_Addr a0).toArray] w fun v w' => v = .string (bstr r) ∧ Chg [] w w' ∧ MS (M) w' := by
 unfold vineryref02_six.f at H
 refine ent Tryd.func43 rfl [(0, .agg (cS_api_Addr a0).toArray)] rfl (by rfl) fun a ha => ?_
 have hC : Chg [] w w := Chg.refl _ _
 refine wp_seq_k fun K1 hK1 => ?_
 refine wp_region_lit ?_
 refine bx (cs := (cS_api_Addr a0)) ha rfl rfl rfl rfl rfl fun a w2 g3 hN4 ha => ?_
 have hn6 := hN4.notin hM
 have hM : MS (M) w2 := (hM.chg hN4.chg)
 have hC := hC.trans hN4.chg (Ok.nil _ _)
 have hE5 : ∀ j v, (cS_api_Addr a0)[j]? = some v → w2.cell? ⟨g3, 0 + j, none⟩ = some v := Box.cells (New.box hN4)
 refine seg ha 1 [(1, .pointer (some ⟨g3, 0, none⟩))] (by kernel_rfl) fun a ha => ?_
 refine hK1 _ _ ?_; try clear hK1 K1
 refine wp_seq_k fun K7 hK7 => ?_
 refine wp_region_lit ?_
 refine seg ha 1 [(1, .pointer (some ⟨g3, 0, none⟩)), (3, .slice none 0 0)] (by kernel_rfl) fun a ha => ?_
 refine hK7 _ _ ?_; try clear hK7 K7
 refine wp_seq_k fun K8 hK8 => ?_
 refine wp_seq_k fun K9 hK9 => ?_
 refine wp_region_lit ?_
 refine seg ha 1 [(1, .pointer (some ⟨g3, 0, none⟩)), (3, .slice none 0 0), (4, .int .i64 (0 : Int))] (by kernel_rfl) fun a ha => ?_
 refine hK9 _ _ ?_; try clear hK9 K9
 refine wp_block ?_
 obtain ⟨s10, H10, H⟩ := bind_some H
 have J10 : ∀ (a : Act) (wx10 : World) (ao14 : Option Addr) (cap14 : Nat), Has a Tryd.f43.ntmps [(3, .slice ao14 s10.length cap14)] → (Own (rInt .i64) 3 wx10 (blkL ao14 ++ (M)) ao14 cap14 s10) → (∀ x ∈ blkL ao14, w.heap.size ≤ x) → (∀ x ∈ blkL ao14, x ∉ M) → (Chg [] w wx10) → (MS (blkL ao14 ++ (M)) wx10) → K8 a wx10 := by
  intro a wx10 ao14 cap14 ha f14 e_i14 p_i14_M hC hM
  refine hK8 _ _ ?_; try clear hK8 K8
  refine wp_seq_k fun K15 hK15 => ?_
  refine wp_region_lit ?_
  refine seg ha 1 [(3, .slice ao14 s10.length cap14), (5, .int .i64 (0 : Int))] (by kernel_rfl) fun a ha => ?_
  refine hK15 _ _ ?_; try clear hK15 K15
  refine wp_seq_k fun K16 hK16 => ?_
  refine wp_region_lit ?_
  refine seg ha 1 [(3, .slice ao14 s10.length cap14), (5, .int .i64 (0 : Int)), (6, .int .i64 (0 : Int))] (by kernel_rfl) fun a ha => ?_
  refine hK16 _ _ ?_; try clear hK16 K16
  refine wp_seq_k fun K17 hK17 => ?_
  refine wp_seq_k fun K18 hK18 => ?_
  refine wp_region_lit ?_
  refine seg ha 1 [(3, .slice ao14 s10.length cap14), (5, .int .i64 (0 : Int)), (6, .int .i64 (0 : Int)), (7, .int .i64 (0 : Int))] (by kernel_rfl) fun a ha => ?_
  refine hK18 _ _ ?_; try clear hK18 K18
  refine wp_block ?_
  obtain ⟨s19, H19, H⟩ := bind_some H
  have J19 : ∀ (a : Act) (wx19 : World), Has a Tryd.f43.ntmps [(3, .slice ao14 s10.length cap14), (5, .int .i64 s19.1), (6, .int .i64 s19.2)] → (Own (rInt .i64) 3 wx19 (blkL ao14 ++ (M)) ao14 cap14 s10) → (Chg [] w wx19) → (MS (blkL ao14 ++ (M)) wx19) → K17 a wx19 := by
   intro a wx19 ha f14 hC hM
   refine hK17 _ _ ?_; try clear hK17 K17
   refine wp_seq_k fun K23 hK23 => ?_
   refine wp_region_lit ?_
   refine seg ha 1 [(3, .slice ao14 s10.length cap14), (5, .int .i64 s19.1), (6, .int .i64 s19.2), (9, .string (bstr ([] : List UInt8)))] (by kernel_rfl) fun a ha => ?_
   refine hK23 _ _ ?_; try clear hK23 K23
   refine wp_seq_k fun K24 hK24 => ?_
   refine wp_seq_k fun K25 hK25 => ?_
   refine wp_region_lit ?_
   refine seg ha 1 [(3, .slice ao14 s10.length cap14), (5, .int .i64 s19.1), (6, .int .i64 s19.2), (9, .string (bstr ([] : List UInt8))), (10, .int .i64 (0 : Int))] (by kernel_rfl) fun a ha => ?_
   refine hK25 _ _ ?_; try clear hK25 K25
   refine wp_block ?_
   obtain ⟨s26, H26, H⟩ := bind_some H
   have J26 : ∀ (a : Act) (wx26 : World), Has a Tryd.f43.ntmps [(9, .string (bstr s26))] → (Chg [] w wx26) → (MS (M) wx26) → K24 a wx26 := by
    intro a wx26 ha hC hM
    refine hK24 _ _ ?_; try clear hK24 K24
    refine wp_seq_k fun K29 hK29 => ?_
    refine wp_region_lit ?_
    refine seg ha 2 [(2, .string (bstr s26))] (by kernel_rfl) fun a ha => ?_
    refine hK29 _ _ ?_; try clear hK29 K29
    refine wp_ret ?_
    try simp only [Exit.then, Exit.inBlock]
    obtain rfl := Option.some.inj H
    refine rt1 ha rfl rfl ?_
    exact ⟨rfl, hC, hM⟩
   have Hc26 := H
   have H := H26
   refine wp_loop_ghost (fun kk a w26 => ∃ (x27 : List UInt8) (x28 : Int), vineryref02_six.l2 k s10 s19 kk x27 x28 = some s26 ∧ Has a Tryd.f43.ntmps [(3, .slice ao14 s10.length cap14), (5, .int .i64 s19.1), (6, .int .i64 s19.2), (9, .string (bstr x27)), (10, .int .i64 x28)] ∧ (Own (rInt .i64) 3 w26 (blkL ao14 ++ (M)) ao14 cap14 s10) ∧ (Chg [] w w26) ∧ (MS (blkL ao14 ++ (M)) w26)) k ?_ ?_
   ·skip
    exact ⟨([] : List UInt8), (0 : Int), H, (ha.sel (by kernel_rfl)), f14, hC, hM⟩
   ·rintro kk a w26 ⟨x27, x28, H, ha, f14, hC, hM⟩
    obtain _ | kk := kk
    ·exact nomatch (show none = some _ from H)
    rw [vineryref02_six.l2] at H
    refine wp_seq_k fun K30 hK30 => ?_
    refine wp_seq_k fun K31 hK31 => ?_
    refine wp_region_lit ?_
    refine seg ha 2 [(3, .slice ao14 s10.length cap14), (5, .int .i64 s19.1), (6, .int .i64 s19.2), (9, .string (bstr x27)), (10, .int .i64 x28), (57, .bool (decide (x28 < (8 : Int))))] (by kernel_rfl) fun a ha => ?_
    refine hK31 _ _ ?_; try clear hK31 K31
    refine cnd ha rfl (fun hc32 => ?_) (fun hc32 => ?_)
    ·have H := ite_t hc32 H
     refine wp_skip ?_
     refine hK30 _ _ ?_; try clear hK30 K30
     refine wp_seq_k fun K33 hK33 => ?_
     refine wp_block ?_
     refine wp_seq_k fun K34 hK34 => ?_
     refine wp_seq_k fun K35 hK35 => ?_
     refine wp_region_lit ?_
     refine seg ha 7 [(3, .slice ao14 s10.length cap14), (5, .int .i64 s19.1), (6, .int .i64 s19.2), (9, .string (bstr x27)), (10, .int .i64 x28), (66, .bool (if (decide (s19.2 > (1 : Int))) = true then (x28 == s19.1) else false))] (by kernel_rfl) fun a ha => ?_
     refine hK35 _ _ ?_; try clear hK35 K35
     refine cnd ha rfl (fun hc36 => ?_) (fun hc36 => ?_)
     ·have H := ite_t hc36 H
      refine wp_seq_k fun K37 hK37 => ?_
      refine wp_region_lit ?_
      refine seg ha 1 [(3, .slice ao14 s10.length cap14), (5, .int .i64 s19.1), (6, .int .i64 s19.2), (10, .int .i64 x28), (67, .string (bstr x27))] (by kernel_rfl) fun a ha => ?_
      obtain ⟨hx38, H⟩ := ite_some H
      refine sadd ha rfl rfl rfl rfl rfl hx38 fun a ha => ?_
      refine seg ha 1 [(3, .slice ao14 s10.length cap14), (5, .int .i64 s19.1), (6, .int .i64 s19.2), (9, .string (bstr (x27 ++ ([58, 58] : List UInt8)))), (10, .int .i64 x28)] (by kernel_rfl) fun a ha => ?_
      refine hK37 _ _ ?_; try clear hK37 K37
      refine wp_seq_k fun K39 hK39 => ?_
      refine wp_region_lit ?_
      refine seg ha 5 [(3, .slice ao14 s10.length cap14), (5, .int .i64 s19.1), (6, .int .i64 s19.2), (9, .string (bstr (x27 ++ ([58, 58] : List UInt8)))), (10, .int .i64 (IntKind.i64.wrap ((IntKind.i64.wrap (x28 + s19.2)) - (1 : Int))))] (by kernel_rfl) fun a ha => ?_
      refine hK39 _ _ ?_; try clear hK39 K39
      refine wp_exit ?_
      simp only [Exit.then, Exit.inBlock, ↓reduceIte, Nat.reduceEqDiff]
      refine hK33 _ _ ?_; try clear hK33 K33
      refine wp_region_lit ?_
      refine seg ha 3 [(3, .slice ao14 s10.length cap14), (5, .int .i64 s19.1), (6, .int .i64 s19.2), (9, .string (bstr (x27 ++ ([58, 58] : List UInt8)))), (10, .int .i64 (IntKind.i64.wrap ((IntKind.i64.wrap ((IntKind.i64.wrap (x28 + s19.2)) - (1 : Int))) + (1 : Int))))] (by kernel_rfl) fun a ha => ?_
      exact ⟨kk, Nat.lt_succ_self _, ⟨x27 ++ ([58, 58] : List UInt8), IntKind.i64.wrap ((IntKind.i64.wrap ((IntKind.i64.wrap (x28 + s19.2)) - (1 : Int))) + (1 : Int)), H, (ha.sel (by kernel_rfl)), f14, hC, hM⟩⟩
     ·have H := ite_f hc36 H
      refine wp_skip ?_
      refine hK34 _ _ ?_; try clear hK34 K34
      refine wp_seq_k fun K40 hK40 => ?_
      obtain ⟨s41, H41, H⟩ := bind_some H
      have J41 : ∀ (a : Act) (w41 : World), Has a Tryd.f43.ntmps [(3, .slice ao14 s10.length cap14), (5, .int .i64 s19.1), (6, .int .i64 s19.2), (9, .string (bstr s41)), (10, .int .i64 x28)] → (Own (rInt .i64) 3 w41 (blkL ao14 ++ (M)) ao14 cap14 s10) → (Chg [] w w41) → (MS (blkL ao14 ++ (M)) w41) → K40 a w41 := by
       intro a w41 ha f14 hC hM
       refine hK40 _ _ ?_; try clear hK40 K40
       refine wp_region_lit ?_
       refine seg ha 3 [(3, .slice ao14 s10.length cap14), (5, .int .i64 s19.1), (6, .int .i64 s19.2), (10, .int .i64 x28), (85, .string (bstr s41)), (86, .slice ao14 s10.length cap14), (87, .int .i64 x28)] (by kernel_rfl) fun a ha => ?_
       obtain ⟨⟨hx42, hx42'⟩, H⟩ := ite_some H
       refine ix (r := (rInt .i64)) ha (by kernel_rfl) (by kernel_rfl) rfl rfl rfl rfl rfl (Own.toRSl (M' := []) f14 (Ok.nil _ _) (fun _ _ h => nomatch h)) hx42 hx42' fun a ge43 oe44 cs45 hn48 hR46 hE47 ha => ?_
       rw [rd_get] at hR46
       obtain rfl := hR46
       have hE47 : ∀ j v, ([.int .i64 (rd s10 x28)] : List Value)[j]? = some v → w41.cell? ⟨ge43, oe44 + j, none⟩ = some v := hE47
       refine ld ha rfl (by kernel_rfl) rfl rfl rfl (hE47 0 (.int .i64 (rd s10 x28)) (by kernel_rfl)) fun a ha => ?_
       obtain ⟨t49, H49, H⟩ := bind_some H
       refine cl ha (by rfl) (by kernel_rfl) (by rfl) (by rfl) (by rfl) (vineryref02_Number.walk w41 _ hM (rd s10 x28) (16 : Int) k _ H49) ?_
       rintro _ w49 ⟨rfl, hc49, hMn⟩ a ha
       have o1 : Ok [] (blkL ao14 ++ (M)) w41.heap.size := Ok.nil _ _
       have o2 : Ok (blkL ao14 ++ (M)) (blkL ao14 ++ (M)) w41.heap.size := (Ok.refl _ _)
       have f14 := f14.chg hc49 o1 o2 (fun _ _ h => nomatch h) (fun _ h => ml h)
       have hM : MS (blkL ao14 ++ (M)) w49 := (hM.chg hc49)
       have hC := hC.trans hc49 (Ok.nil _ _)
       obtain ⟨hx50, H⟩ := ite_some H
       refine sadd ha rfl rfl rfl rfl rfl hx50 fun a ha => ?_
       refine seg ha 1 [(3, .slice ao14 s10.length cap14), (5, .int .i64 s19.1), (6, .int .i64 s19.2), (9, .string (bstr (s41 ++ t49))), (10, .int .i64 x28)] (by kernel_rfl) fun a ha => ?_
       refine hK33 _ _ ?_; try clear hK33 K33
       refine wp_region_lit ?_
       refine seg ha 3 [(3, .slice ao14 s10.length cap14), (5, .int .i64 s19.1), (6, .int .i64 s19.2), (9, .string (bstr (s41 ++ t49))), (10, .int .i64 (IntKind.i64.wrap (x28 + (1 : Int))))] (by kernel_rfl) fun a ha => ?_
       exact ⟨kk, Nat.lt_succ_self _, ⟨s41 ++ t49, IntKind.i64.wrap (x28 + (1 : Int)), H, (ha.sel (by kernel_rfl)), f14, hC, hM⟩⟩
      have H := H41
      refine wp_seq_k fun K51 hK51 => ?_
      refine wp_region_lit ?_
      obtain ⟨s52, H52, H⟩ := bind_some H
      have J52 : ∀ (a : Act) (w52 : World), Has a Tryd.f43.ntmps [(3, .slice ao14 s10.length cap14), (5, .int .i64 s19.1), (6, .int .i64 s19.2), (9, .string (bstr x27)), (10, .int .i64 x28), (82, .bool s52)] → (Own (rInt .i64) 3 w52 (blkL ao14 ++ (M)) ao14 cap14 s10) → (Chg [] w w52) → (MS (blkL ao14 ++ (M)) w52) → K51 a w52 := by
       intro a w52 ha f14 hC hM
       refine hK51 _ _ ?_; try clear hK51 K51
       refine cnd ha rfl (fun hc53 => ?_) (fun hc53 => ?_)
       ·have H := ite_t hc53 H
        refine wp_region_lit ?_
        refine seg ha 1 [(3, .slice ao14 s10.length cap14), (5, .int .i64 s19.1), (6, .int .i64 s19.2), (10, .int .i64 x28), (83, .string (bstr x27))] (by kernel_rfl) fun a ha => ?_
        obtain ⟨hx54, H⟩ := ite_some H
        refine sadd ha rfl rfl rfl rfl rfl hx54 fun a ha => ?_
        refine seg ha 1 [(3, .slice ao14 s10.length cap14), (5, .int .i64 s19.1), (6, .int .i64 s19.2), (9, .string (bstr (x27 ++ ([58] : List UInt8)))), (10, .int .i64 x28)] (by kernel_rfl) fun a ha => ?_
        obtain rfl := Option.some.inj H
        exact J41 _ _ (ha.sel (by kernel_rfl)) f14 hC hM
       ·have H := ite_f hc53 H
        refine wp_skip ?_
        obtain rfl := Option.some.inj H
        exact J41 _ _ (ha.sel (by kernel_rfl)) f14 hC hM
      have H := H52
      refine seg ha 3 [(75, .bool (!((bstr x27).toList == (bstr ([] : List UInt8)).toList))), (3, .slice ao14 s10.length cap14), (5, .int .i64 s19.1), (6, .int .i64 s19.2), (9, .string (bstr x27)), (10, .int .i64 x28)] (by kernel_rfl) fun a ha => ?_
      rcases Bool.eq_false_or_eq_true (!((bstr x27).toList == (bstr ([] : List UInt8)).toList)) with hb55 | hb55
      ·have ha := ha.lit hb55
       have H := ite_t hb55 H
       refine sgh ha 4 [2, 2, 2, 2] [(3, .slice ao14 s10.length cap14), (5, .int .i64 s19.1), (6, .int .i64 s19.2), (9, .string (bstr x27)), (10, .int .i64 x28), (75, .bool true), (76, .string (bstr x27)), (79, .int .i64 (IntKind.i64.wrap (((bstr x27).size : Int) - (1 : Int))))] (by kernel_rfl) fun a ha => ?_
       obtain ⟨⟨hx56, hx56'⟩, H⟩ := ite_some H
       refine hop (v := .int .u8 ((x27.getD (Int.toNat (IntKind.i64.wrap (((bstr x27).size : Int) - (1 : Int)))) 0).toNat : Int)) (w' := w26) ha rfl rfl rfl (sidx_run (l := x27) (k := .i64) (i := IntKind.i64.wrap (((bstr x27).size : Int) - (1 : Int))) ha (by kernel_rfl) (by rfl) (by rfl) hx56 hx56' _) fun a ha => ?_
       refine sgh ha 2 [2, 3] [(3, .slice ao14 s10.length cap14), (5, .int .i64 s19.1), (6, .int .i64 s19.2), (9, .string (bstr x27)), (10, .int .i64 x28), (82, .bool (((x27.getD (Int.toNat (IntKind.i64.wrap (((bstr x27).size : Int) - (1 : Int)))) 0).toNat : Int) != (58 : Int)))] (by kernel_rfl) fun a ha => ?_
       obtain rfl := Option.some.inj H
       exact J52 _ _ (ha.sel (by kernel_rfl)) f14 hC hM
      ·have ha := ha.lit hb55
       have H := ite_f hb55 H
       refine sgh ha 7 [1, 1, 1, 1, 1, 1, 4] [(3, .slice ao14 s10.length cap14), (5, .int .i64 s19.1), (6, .int .i64 s19.2), (9, .string (bstr x27)), (10, .int .i64 x28), (82, .bool false)] (by kernel_rfl) fun a ha => ?_
       obtain rfl := Option.some.inj H
       exact J52 _ _ (ha.sel (by kernel_rfl)) f14 hC hM
    ·have H := ite_f hc32 H
     refine wp_exit ?_
     simp only [Exit.then, Exit.inBlock, ↓reduceIte, Nat.reduceEqDiff]
     obtain rfl := Option.some.inj H
     have hM : MS (M) w26 := (fun x h => hM.chg (Chg.refl [] _) x (mr (h)))
     have hC := hC.trans (Chg.refl [] _) (Ok.nil _ _)
     exact J26 _ _ (ha.sel (by kernel_rfl)) hC hM
  have Hc19 := H
  have H := H19
  refine wp_loop_ghost (fun kk a w19 => ∃ (x20 : Int) (x21 : Int) (x22 : Int), vineryref02_six.l1 k s10 kk x20 x21 x22 = some s19 ∧ Has a Tryd.f43.ntmps [(3, .slice ao14 s10.length cap14), (5, .int .i64 x20), (6, .int .i64 x21), (7, .int .i64 x22)] ∧ (Own (rInt .i64) 3 w19 (blkL ao14 ++ (M)) ao14 cap14 s10) ∧ (Chg [] w w19) ∧ (MS (blkL ao14 ++ (M)) w19)) k ?_ ?_
  ·skip
   exact ⟨(0 : Int), (0 : Int), (0 : Int), H, (ha.sel (by kernel_rfl)), f14, hC, hM⟩
  ·rintro kk a w19 ⟨x20, x21, x22, H, ha, f14, hC, hM⟩
   obtain _ | kk := kk
   ·exact nomatch (show none = some _ from H)
   rw [vineryref02_six.l1] at H
   refine wp_seq_k fun K57 hK57 => ?_
   refine wp_seq_k fun K58 hK58 => ?_
   refine wp_region_lit ?_
   refine seg ha 2 [(3, .slice ao14 s10.length cap14), (5, .int .i64 x20), (6, .int .i64 x21), (7, .int .i64 x22), (32, .bool (decide (x22 < (8 : Int))))] (by kernel_rfl) fun a ha => ?_
   refine hK58 _ _ ?_; try clear hK58 K58
   refine cnd ha rfl (fun hc59 => ?_) (fun hc59 => ?_)
   ·have H := ite_t hc59 H
    refine wp_skip ?_
    refine hK57 _ _ ?_; try clear hK57 K57
    refine wp_seq_k fun K60 hK60 => ?_
    refine wp_block ?_
    refine wp_seq_k fun K61 hK61 => ?_
    refine wp_region_lit ?_
    refine seg ha 2 [(3, .slice ao14 s10.length cap14), (5, .int .i64 x20), (6, .int .i64 x21), (7, .int .i64 x22), (8, .int .i64 x22)] (by kernel_rfl) fun a ha => ?_
    refine hK61 _ _ ?_; try clear hK61 K61
    refine wp_seq_k fun K62 hK62 => ?_
    refine wp_block ?_
    obtain ⟨s63, H63, H⟩ := bind_some H
    have J63 : ∀ (a : Act) (wx63 : World), Has a Tryd.f43.ntmps [(3, .slice ao14 s10.length cap14), (5, .int .i64 x20), (6, .int .i64 x21), (7, .int .i64 x22), (8, .int .i64 s63)] → (Own (rInt .i64) 3 wx63 (blkL ao14 ++ (M)) ao14 cap14 s10) → (Chg [] w wx63) → (MS (blkL ao14 ++ (M)) wx63) → K62 a wx63 := by
     intro a wx63 ha f14 hC hM
     refine hK62 _ _ ?_; try clear hK62 K62
     refine wp_seq_k fun K65 hK65 => ?_
     refine wp_region_lit ?_
     refine seg ha 5 [(3, .slice ao14 s10.length cap14), (5, .int .i64 x20), (6, .int .i64 x21), (7, .int .i64 x22), (8, .int .i64 s63), (51, .bool (decide ((IntKind.i64.wrap (s63 - x22)) > x21)))] (by kernel_rfl) fun a ha => ?_
     refine hK65 _ _ ?_; try clear hK65 K65
     refine cnd ha rfl (fun hc66 => ?_) (fun hc66 => ?_)
     ·have H := ite_t hc66 H
      refine wp_seq_k fun K67 hK67 => ?_
      refine wp_region_lit ?_
      refine seg ha 2 [(3, .slice ao14 s10.length cap14), (5, .int .i64 x22), (7, .int .i64 x22), (8, .int .i64 s63)] (by kernel_rfl) fun a ha => ?_
      refine hK67 _ _ ?_; try clear hK67 K67
      refine wp_region_lit ?_
      refine seg ha 4 [(3, .slice ao14 s10.length cap14), (5, .int .i64 x22), (6, .int .i64 (IntKind.i64.wrap (s63 - x22))), (7, .int .i64 x22)] (by kernel_rfl) fun a ha => ?_
      refine hK60 _ _ ?_; try clear hK60 K60
      refine wp_region_lit ?_
      refine seg ha 3 [(3, .slice ao14 s10.length cap14), (5, .int .i64 x22), (6, .int .i64 (IntKind.i64.wrap (s63 - x22))), (7, .int .i64 (IntKind.i64.wrap (x22 + (1 : Int))))] (by kernel_rfl) fun a ha => ?_
      exact ⟨kk, Nat.lt_succ_self _, ⟨x22, IntKind.i64.wrap (s63 - x22), IntKind.i64.wrap (x22 + (1 : Int)), H, (ha.sel (by kernel_rfl)), f14, hC, hM⟩⟩
     ·have H := ite_f hc66 H
      refine wp_skip ?_
      refine hK60 _ _ ?_; try clear hK60 K60
      refine wp_region_lit ?_
      refine seg ha 3 [(3, .slice ao14 s10.length cap14), (5, .int .i64 x20), (6, .int .i64 x21), (7, .int .i64 (IntKind.i64.wrap (x22 + (1 : Int))))] (by kernel_rfl) fun a ha => ?_
      exact ⟨kk, Nat.lt_succ_self _, ⟨x20, x21, IntKind.i64.wrap (x22 + (1 : Int)), H, (ha.sel (by kernel_rfl)), f14, hC, hM⟩⟩
    have Hc63 := H
    have H := H63
    refine wp_loop_ghost (fun kk a w63 => ∃ (x64 : Int), vineryref02_six.l3 s10 kk x64 = some s63 ∧ Has a Tryd.f43.ntmps [(3, .slice ao14 s10.length cap14), (5, .int .i64 x20), (6, .int .i64 x21), (7, .int .i64 x22), (8, .int .i64 x64)] ∧ (Own (rInt .i64) 3 w63 (blkL ao14 ++ (M)) ao14 cap14 s10) ∧ (Chg [] w w63) ∧ (MS (blkL ao14 ++ (M)) w63)) k ?_ ?_
    ·skip
     exact ⟨x22, H, (ha.sel (by kernel_rfl)), f14, hC, hM⟩
    ·rintro kk a w63 ⟨x64, H, ha, f14, hC, hM⟩
     obtain _ | kk := kk
     ·exact nomatch (show none = some _ from H)
     rw [vineryref02_six.l3] at H
     refine wp_seq_k fun K68 hK68 => ?_
     refine wp_seq_k fun K69 hK69 => ?_
     refine wp_region_lit ?_
     obtain ⟨s70, H70, H⟩ := bind_some H
     have J70 : ∀ (a : Act) (w70 : World), Has a Tryd.f43.ntmps [(3, .slice ao14 s10.length cap14), (5, .int .i64 x20), (6, .int .i64 x21), (7, .int .i64 x22), (8, .int .i64 x64), (44, .bool s70)] → (Own (rInt .i64) 3 w70 (blkL ao14 ++ (M)) ao14 cap14 s10) → (Chg [] w w70) → (MS (blkL ao14 ++ (M)) w70) → K69 a w70 := by
      intro a w70 ha f14 hC hM
      refine hK69 _ _ ?_; try clear hK69 K69
      refine cnd ha rfl (fun hc71 => ?_) (fun hc71 => ?_)
      ·have H := ite_t hc71 H
       refine wp_skip ?_
       refine hK68 _ _ ?_; try clear hK68 K68
       refine wp_block ?_
       refine wp_region_lit ?_
       refine seg ha 3 [(3, .slice ao14 s10.length cap14), (5, .int .i64 x20), (6, .int .i64 x21), (7, .int .i64 x22), (8, .int .i64 (IntKind.i64.wrap (x64 + (1 : Int))))] (by kernel_rfl) fun a ha => ?_
       exact ⟨kk, Nat.lt_succ_self _, ⟨IntKind.i64.wrap (x64 + (1 : Int)), H, (ha.sel (by kernel_rfl)), f14, hC, hM⟩⟩
      ·have H := ite_f hc71 H
       refine wp_exit ?_
       simp only [Exit.then, Exit.inBlock, ↓reduceIte, Nat.reduceEqDiff]
       obtain rfl := Option.some.inj H
       exact J63 _ _ (ha.sel (by kernel_rfl)) f14 hC hM
     have H := H70
     refine seg ha 3 [(38, .bool (decide (x64 < (8 : Int)))), (3, .slice ao14 s10.length cap14), (5, .int .i64 x20), (6, .int .i64 x21), (7, .int .i64 x22), (8, .int .i64 x64)] (by kernel_rfl) fun a ha => ?_
     rcases Bool.eq_false_or_eq_true (decide (x64 < (8 : Int))) with hb72 | hb72
     ·have ha := ha.lit hb72
      have H := ite_t hb72 H
      refine sgh ha 2 [2, 2] [(3, .slice ao14 s10.length cap14), (5, .int .i64 x20), (6, .int .i64 x21), (7, .int .i64 x22), (8, .int .i64 x64), (38, .bool true), (39, .slice ao14 s10.length cap14), (40, .int .i64 x64)] (by kernel_rfl) fun a ha => ?_
      obtain ⟨⟨hx73, hx73'⟩, H⟩ := ite_some H
      refine ix (r := (rInt .i64)) ha (by kernel_rfl) (by kernel_rfl) rfl rfl rfl rfl rfl (Own.toRSl (M' := []) f14 (Ok.nil _ _) (fun _ _ h => nomatch h)) hx73 hx73' fun a ge74 oe75 cs76 hn79 hR77 hE78 ha => ?_
      rw [rd_get] at hR77
      obtain rfl := hR77
      have hE78 : ∀ j v, ([.int .i64 (rd s10 x64)] : List Value)[j]? = some v → w63.cell? ⟨ge74, oe75 + j, none⟩ = some v := hE78
      refine ld ha rfl (by kernel_rfl) rfl rfl rfl (hE78 0 (.int .i64 (rd s10 x64)) (by kernel_rfl)) fun a ha => ?_
      refine sgh ha 2 [2, 3] [(3, .slice ao14 s10.length cap14), (5, .int .i64 x20), (6, .int .i64 x21), (7, .int .i64 x22), (8, .int .i64 x64), (44, .bool ((rd s10 x64) == (0 : Int)))] (by kernel_rfl) fun a ha => ?_
      obtain rfl := Option.some.inj H
      exact J70 _ _ (ha.sel (by kernel_rfl)) f14 hC hM
     ·have ha := ha.lit hb72
      have H := ite_f hb72 H
      refine sgh ha 6 [1, 1, 1, 1, 1, 4] [(3, .slice ao14 s10.length cap14), (5, .int .i64 x20), (6, .int .i64 x21), (7, .int .i64 x22), (8, .int .i64 x64), (44, .bool false)] (by kernel_rfl) fun a ha => ?_
      obtain rfl := Option.some.inj H
      exact J70 _ _ (ha.sel (by kernel_rfl)) f14 hC hM
   ·have H := ite_f hc59 H
    refine wp_exit ?_
    simp only [Exit.then, Exit.inBlock, ↓reduceIte, Nat.reduceEqDiff]
    obtain rfl := Option.some.inj H
    exact J19 _ _ (ha.sel (by kernel_rfl)) f14 hC hM
 have Hc10 := H
 have H := H10
 refine wp_loop_ghost (fun kk a w10 => ∃ (x12 : List Int) (x13 : Int) (ao11 : Option Addr) (cap11 : Nat), vineryref02_six.l0 a0 kk x12 x13 = some s10 ∧ Has a Tryd.f43.ntmps [(1, .pointer (some ⟨g3, 0, none⟩)), (3, .slice ao11 x12.length cap11), (4, .int .i64 x13)] ∧ (Own (rInt .i64) 3 w10 (blkL ao11 ++ (M)) ao11 cap11 x12) ∧ (∀ j v, (cS_api_Addr a0)[j]? = some v → w10.cell? ⟨g3, 0 + j, none⟩ = some v) ∧ (g3 ∉ (blkL ao11 ++ (M))) ∧ (∀ x ∈ blkL ao11, w.heap.size ≤ x) ∧ (∀ x ∈ blkL ao11, x ∉ M) ∧ (Chg [] w w10) ∧ (MS (blkL ao11 ++ (M)) w10)) k ?_ ?_
 ·skip
  have o1 : Ok [] (M) w2.heap.size := Ok.nil _ _
  have o2 : Ok (blkL none ++ (M)) (M) w2.heap.size := (Ok.app (fun _ h => nomatch h) (Ok.refl _ _))
  have q_hn6 : g3 ∉ blkL none ++ (M) := fun h => (o2 g3 h).elim hn6 (fun h => absurd (lt_cell (hE5 0 _ rfl)) (Nat.not_lt.2 h))
  have hE5 : ∀ j v, (cS_api_Addr a0)[j]? = some v → w2.cell? ⟨g3, 0 + j, none⟩ = some v := fun j v hv => (cell_keep (Chg.refl [] _) o1 hn6 (hE5 j v hv))
  have hn6 := q_hn6
  have p_z80_M : ∀ x ∈ blkL none, x ∉ M := fun x hx hy => absurd (hM x (hy)) (Nat.not_lt.2 ((fun _ h => nomatch h) x hx))
  have e_z80 : ∀ x ∈ blkL none, w.heap.size ≤ x := fun x hx => Nat.le_trans hC.size ((fun _ h => nomatch h) x hx)
  have hM : MS (blkL none ++ (M)) w2 := (MS.app (fun _ h => nomatch h) (hM.chg (Chg.refl [] _)))
  have hC := hC.trans (Chg.refl [] _) (Ok.nil _ _)
  exact ⟨([] : List Int), (0 : Int), none, 0, H, (ha.sel (by kernel_rfl)), Own.nil, hE5, hn6, e_z80, p_z80_M, hC, hM⟩
 ·rintro kk a w10 ⟨x12, x13, ao11, cap11, H, ha, f11, hE5, hn6, e_i11, p_i11_M, hC, hM⟩
  obtain _ | kk := kk
  ·exact nomatch (show none = some _ from H)
  rw [vineryref02_six.l0] at H
  refine wp_seq_k fun K81 hK81 => ?_
  refine wp_seq_k fun K82 hK82 => ?_
  refine wp_region_lit ?_
  refine seg ha 2 [(1, .pointer (some ⟨g3, 0, none⟩)), (3, .slice ao11 x12.length cap11), (4, .int .i64 x13), (12, .bool (decide (x13 < (16 : Int))))] (by kernel_rfl) fun a ha => ?_
  refine hK82 _ _ ?_; try clear hK82 K82
  refine cnd ha rfl (fun hc83 => ?_) (fun hc83 => ?_)
  ·have H := ite_t hc83 H
   refine wp_skip ?_
   refine hK81 _ _ ?_; try clear hK81 K81
   refine wp_seq_k fun K84 hK84 => ?_
   refine wp_block ?_
   have okS : Ok (blkL ao11) (blkL ao11 ++ (M)) w10.heap.size := (fun _ h => .inl (ml h))
   have z_hE5 := hE5
   have z_hn6 := hn6
   refine drw (fun w' => Chg (blkL ao11) w10 w') (by kernel_rfl) fun w85 hc86 _ => ?_
   have hS : Chg (blkL ao11) w10 w85 := (Chg.refl (blkL ao11) _).trans hc86 (Ok.nil _ _)
   have o1 : Ok [] (blkL ao11 ++ (M)) w10.heap.size := Ok.nil _ _
   have o2 : Ok (blkL ao11 ++ (M)) (blkL ao11 ++ (M)) w10.heap.size := (Ok.refl _ _)
   have f11 := f11.chg hc86 o1 o2 (fun _ _ h => nomatch h) (fun _ h => ml h)
   have q_hn6 : g3 ∉ blkL ao11 ++ (M) := fun h => (o2 g3 h).elim hn6 (fun h => absurd (lt_cell (hE5 0 _ rfl)) (Nat.not_lt.2 h))
   have hE5 : ∀ j v, (cS_api_Addr a0)[j]? = some v → w85.cell? ⟨g3, 0 + j, none⟩ = some v := fun j v hv => (cell_keep hc86 o1 hn6 (hE5 j v hv))
   have hn6 := q_hn6
   have hM : MS (blkL ao11 ++ (M)) w85 := (hM.chg hc86)
   have hC := hC.trans hc86 (Ok.nil _ _)
   refine tkpz 0 0 (.slice ao11 x12.length cap11) ha (s := hS) (q := fun a ha => ?_)
   refine tkpz 1 0 (.int .i64 x13) ha (s := hS) (q := fun a ha => ?_)
   refine tkpz 2 0 (.pointer (some ⟨g3, 0 + 1, none⟩)) ha (s := hS) (q := fun a ha => ?_)
   obtain ⟨⟨hx87, hx87'⟩, H⟩ := ite_some H
   have hE87 : ∀ j v, ([.int .u8 (ar a0.B (Int.toNat x13))] : List Value)[j]? = some v → w10.cell? ⟨g3, (0 + 1 + (Int.toNat x13)) + j, none⟩ = some v := cellA (m := 16) [.int .i64 a0.Size] [] z_hE5 (by kernel_rfl) (by omega)
   have hn87 := z_hn6
   refine tkz 3 ha (v := .pointer (some ⟨g3, (0 + 1 + (Int.toNat x13)), none⟩)) (y := fun w' hs => ixA_run (T := 5) (N := 16) (g := g3) (o' := 0 + 1) (k := .i64) (i := x13) ha (by kernel_rfl) (by kernel_rfl) (by rfl) (by rfl) hx87 hx87' w') (s := hS) (q := fun a ha => ?_)
   refine tkz 4 ha (v := .int .u8 (ar a0.B (Int.toNat x13))) (y := fun w' hs => ld_run ha rfl (by kernel_rfl) (cell_keep hs okS hn87 (hE87 0 (.int .u8 (ar a0.B (Int.toNat x13))) (by kernel_rfl)))) (s := hS) (q := fun a ha => ?_)
   refine tkpz 5 0 (.int .i64 (IntKind.i64.wrap (ar a0.B (Int.toNat x13)))) ha (s := hS) (q := fun a ha => ?_)
   refine tkpz 6 0 (.int .i64 (IntKind.i64.wrap ((IntKind.i64.wrap (ar a0.B (Int.toNat x13))) * (256 : Int)))) ha (s := hS) (q := fun a ha => ?_)
   refine tkpz 7 0 (.int .i64 x13) ha (s := hS) (q := fun a ha => ?_)
   refine tkpz 8 0 (.int .i64 (IntKind.i64.wrap (x13 + (1 : Int)))) ha (s := hS) (q := fun a ha => ?_)
   refine tkpz 9 0 (.pointer (some ⟨g3, 0 + 1, none⟩)) ha (s := hS) (q := fun a ha => ?_)
   obtain ⟨⟨hx88, hx88'⟩, H⟩ := ite_some H
   have hE88 : ∀ j v, ([.int .u8 (ar a0.B (Int.toNat (IntKind.i64.wrap (x13 + (1 : Int)))))] : List Value)[j]? = some v → w10.cell? ⟨g3, (0 + 1 + (Int.toNat (IntKind.i64.wrap (x13 + (1 : Int))))) + j, none⟩ = some v := cellA (m := 16) [.int .i64 a0.Size] [] z_hE5 (by kernel_rfl) (by omega)
   have hn88 := z_hn6
   refine tkz 10 ha (v := .pointer (some ⟨g3, (0 + 1 + (Int.toNat (IntKind.i64.wrap (x13 + (1 : Int))))), none⟩)) (y := fun w' hs => ixA_run (T := 5) (N := 16) (g := g3) (o' := 0 + 1) (k := .i64) (i := IntKind.i64.wrap (x13 + (1 : Int))) ha (by kernel_rfl) (by kernel_rfl) (by rfl) (by rfl) hx88 hx88' w') (s := hS) (q := fun a ha => ?_)
   refine tkz 11 ha (v := .int .u8 (ar a0.B (Int.toNat (IntKind.i64.wrap (x13 + (1 : Int)))))) (y := fun w' hs => ld_run ha rfl (by kernel_rfl) (cell_keep hs okS hn88 (hE88 0 (.int .u8 (ar a0.B (Int.toNat (IntKind.i64.wrap (x13 + (1 : Int)))))) (by kernel_rfl)))) (s := hS) (q := fun a ha => ?_)
   refine tkpz 12 0 (.int .i64 (IntKind.i64.wrap (ar a0.B (Int.toNat (IntKind.i64.wrap (x13 + (1 : Int))))))) ha (s := hS) (q := fun a ha => ?_)
   refine tkpz 13 0 (.int .i64 (IntKind.i64.wrap ((IntKind.i64.wrap ((IntKind.i64.wrap (ar a0.B (Int.toNat x13))) * (256 : Int))) + (IntKind.i64.wrap (ar a0.B (Int.toNat (IntKind.i64.wrap (x13 + (1 : Int))))))))) ha (s := hS) (q := fun a ha => ?_)
   refine ac 14 (by kernel_rfl) (by rfl) fun K89 hK89 => ?_
   refine bsl (vals := ([.int .i64 (IntKind.i64.wrap ((IntKind.i64.wrap ((IntKind.i64.wrap (ar a0.B (Int.toNat x13))) * (256 : Int))) + (IntKind.i64.wrap (ar a0.B (Int.toNat (IntKind.i64.wrap (x13 + (1 : Int))))))))] : List Value)) (T := 3) ha rfl (([.int .i64 (IntKind.i64.wrap ((IntKind.i64.wrap ((IntKind.i64.wrap (ar a0.B (Int.toNat x13))) * (256 : Int))) + (IntKind.i64.wrap (ar a0.B (Int.toNat (IntKind.i64.wrap (x13 + (1 : Int))))))))] : List Value) ++ ([] : List Value)) (fun w => by kernel_rfl) rfl rfl rfl fun a w90 g91 hN92 ha => ?_
   have o1 : Ok [] (blkL ao11 ++ (M)) w85.heap.size := Ok.nil _ _
   have o2 : Ok ([g91] ++ (blkL ao11 ++ (M))) (blkL ao11 ++ (M)) w85.heap.size := (Ok.app (hN92.ok _) (Ok.refl _ _))
   have f11 := f11.chg hN92.chg o1 o2 (fun _ _ h => nomatch h) (fun _ h => mr (ml h))
   have q_hn6 : g3 ∉ [g91] ++ (blkL ao11 ++ (M)) := fun h => (o2 g3 h).elim hn6 (fun h => absurd (lt_cell (hE5 0 _ rfl)) (Nat.not_lt.2 h))
   have hE5 : ∀ j v, (cS_api_Addr a0)[j]? = some v → w90.cell? ⟨g3, 0 + j, none⟩ = some v := fun j v hv => (cell_keep hN92.chg o1 hn6 (hE5 j v hv))
   have hn6 := q_hn6
   have p_iD000093_i11 : ∀ x ∈ [g91], x ∉ (blkL ao11) := fun x hx hy => absurd (hM x (ml hy)) (Nat.not_lt.2 ((hN92.ge1) x hx))
   have p_iD000093_M : ∀ x ∈ [g91], x ∉ M := fun x hx hy => absurd (hM x (mr (hy))) (Nat.not_lt.2 ((hN92.ge1) x hx))
   have e_iD000093 : ∀ x ∈ [g91], w.heap.size ≤ x := fun x hx => Nat.le_trans hC.size ((hN92.ge1) x hx)
   have hM : MS ([g91] ++ (blkL ao11 ++ (M))) w90 := (MS.app hN92.ms (hM.chg hN92.chg))
   have hC := hC.trans hN92.chg (Ok.nil _ _)
   have d_iD000093 : Ok ([g91]) (blkL ao11) w10.heap.size := fun x hx => .inr (Nat.le_trans hS.size ((hN92.ge1) x hx))
   have hS := hS.trans hN92.chg (Ok.nil _ _)
   have f94 : Own (rInt .i64) 3 w90 ([g91] ++ (blkL ao11 ++ (M))) (some ⟨g91, 0, none⟩) 1 ([IntKind.i64.wrap ((IntKind.i64.wrap ((IntKind.i64.wrap (ar a0.B (Int.toNat x13))) * (256 : Int))) + (IntKind.i64.wrap (ar a0.B (Int.toNat (IntKind.i64.wrap (x13 + (1 : Int)))))))] : List Int) := hN92.own ⟨([.int .i64 (IntKind.i64.wrap ((IntKind.i64.wrap ((IntKind.i64.wrap (ar a0.B (Int.toNat x13))) * (256 : Int))) + (IntKind.i64.wrap (ar a0.B (Int.toNat (IntKind.i64.wrap (x13 + (1 : Int))))))))] : List Value), _, rfl, rfl, rfl⟩ (Nat.le_of_ble_eq_true rfl)
   refine ae hK89 hS ?_; clear hK89 K89
   refine ac 15 (by kernel_rfl) (by rfl) fun K95 hK95 => ?_
   obtain ⟨hx96, H⟩ := ite_some H
   refine app (r := (rInt .i64)) (xs := x12) (ys := ([IntKind.i64.wrap ((IntKind.i64.wrap ((IntKind.i64.wrap (ar a0.B (Int.toNat x13))) * (256 : Int))) + (IntKind.i64.wrap (ar a0.B (Int.toNat (IntKind.i64.wrap (x13 + (1 : Int)))))))] : List Int)) ha (ElemT.mk' (bytes := 8) (by kernel_rfl)) rfl rfl rfl rfl rfl f11 f94.src hx96 (by decide) fun a w97 ao98 cap98 hO98 hc98 hk98 hl98 ha => ?_
   have o1 : Ok (blkL ao11) ([g91] ++ (blkL ao11 ++ (M))) w90.heap.size := (fun _ h => .inl (mr (ml h)))
   have o2 : Ok (blkL ao98 ++ ([g91] ++ (M))) ([g91] ++ (blkL ao11 ++ (M))) w90.heap.size := (Ok.app (Ok.to hk98 (fun _ h => mr (ml h))) (Ok.app (fun _ h => .inl (ml h)) (fun _ h => .inl (mr (mr (h))))))
   have f94 := f94.chg hc98 o1 o2 p_iD000093_i11 (fun _ h => mr (ml h))
   have q_hn6 : g3 ∉ blkL ao98 ++ ([g91] ++ (M)) := fun h => (o2 g3 h).elim hn6 (fun h => absurd (lt_cell (hE5 0 _ rfl)) (Nat.not_lt.2 h))
   have hE5 : ∀ j v, (cS_api_Addr a0)[j]? = some v → w97.cell? ⟨g3, 0 + j, none⟩ = some v := fun j v hv => (cell_keep hc98 o1 hn6 (hE5 j v hv))
   have hn6 := q_hn6
   have p_iD000098_iD000093 : ∀ x ∈ blkL ao98, x ∉ ([g91]) := fun x hx hy => (hk98 x hx).elim (fun h => (fun x hx hy => p_iD000093_i11 x hy hx) x h hy) (fun h => absurd (hM x (ml hy)) (Nat.not_lt.2 h))
   have p_iD000098_M : ∀ x ∈ blkL ao98, x ∉ M := fun x hx hy => (hk98 x hx).elim (fun h => p_i11_M x h hy) (fun h => absurd (hM x (mr (mr (hy)))) (Nat.not_lt.2 h))
   have e_iD000098 : ∀ x ∈ blkL ao98, w.heap.size ≤ x := fun x hx => (hk98 x hx).elim (e_i11 x) (Nat.le_trans hC.size)
   have hM : MS (blkL ao98 ++ ([g91] ++ (M))) w97 := (MS.app hl98 (MS.app (fun x h => hM.chg hc98 x (ml h)) (fun x h => hM.chg hc98 x (mr (mr (h))))))
   have hC := hC.trans hc98 (fun x h => .inr (e_i11 x h))
   have d_iD000098 : Ok (blkL ao98) (blkL ao11) w10.heap.size := fun x hx => (hk98 x hx).elim (fun h => .inl (h)) (fun h => .inr (Nat.le_trans hS.size h))
   have hS := hS.trans hc98 (fun x h => .inl (h))
   have f98 := hO98.chg (M' := blkL ao98 ++ ([g91] ++ (M))) (Chg.refl [] _) (Ok.nil _ _) (Ok.app (fun _ h => .inl (ml h)) (Ok.to (Ok.app (fun _ h => .inl (ml h)) (fun _ h => .inl (mr (mr (h))))) (fun _ h => mr h))) (fun _ _ h => nomatch h) (fun _ h => ml h)
   refine ae hK95 hS ?_; clear hK95 K95
   refine tkpz 16 0 (.slice ao98 (x12 ++ ([IntKind.i64.wrap ((IntKind.i64.wrap ((IntKind.i64.wrap (ar a0.B (Int.toNat x13))) * (256 : Int))) + (IntKind.i64.wrap (ar a0.B (Int.toNat (IntKind.i64.wrap (x13 + (1 : Int)))))))] : List Int)).length cap98) ha (s := hS) (q := fun a ha => ?_)
   refine dn (by kernel_rfl) ?_
   refine hK84 _ _ ?_; try clear hK84 K84
   refine wp_region_lit ?_
   refine seg ha 3 [(1, .pointer (some ⟨g3, 0, none⟩)), (3, .slice ao98 (x12 ++ ([IntKind.i64.wrap ((IntKind.i64.wrap ((IntKind.i64.wrap (ar a0.B (Int.toNat x13))) * (256 : Int))) + (IntKind.i64.wrap (ar a0.B (Int.toNat (IntKind.i64.wrap (x13 + (1 : Int)))))))] : List Int)).length cap98), (4, .int .i64 (IntKind.i64.wrap (x13 + (2 : Int))))] (by kernel_rfl) fun a ha => ?_
   have o1 : Ok [] (blkL ao98 ++ ([g91] ++ (M))) w97.heap.size := Ok.nil _ _
   have o2 : Ok (blkL ao98 ++ (M)) (blkL ao98 ++ ([g91] ++ (M))) w97.heap.size := (Ok.app (fun _ h => .inl (ml h)) (fun _ h => .inl (mr (mr (h)))))
   have f98 := f98.chg (Chg.refl [] _) o1 o2 (fun _ _ h => nomatch h) (fun _ h => ml h)
   have q_hn6 : g3 ∉ blkL ao98 ++ (M) := fun h => (o2 g3 h).elim hn6 (fun h => absurd (lt_cell (hE5 0 _ rfl)) (Nat.not_lt.2 h))
   have hE5 : ∀ j v, (cS_api_Addr a0)[j]? = some v → w97.cell? ⟨g3, 0 + j, none⟩ = some v := fun j v hv => (cell_keep (Chg.refl [] _) o1 hn6 (hE5 j v hv))
   have hn6 := q_hn6
   have hM : MS (blkL ao98 ++ (M)) w97 := (MS.app (fun x h => hM.chg (Chg.refl [] _) x (ml h)) (fun x h => hM.chg (Chg.refl [] _) x (mr (mr (h)))))
   have hC := hC.trans (Chg.refl [] _) (Ok.nil _ _)
   exact ⟨kk, Nat.lt_succ_self _, ⟨(x12 ++ ([IntKind.i64.wrap ((IntKind.i64.wrap ((IntKind.i64.wrap (ar a0.B (Int.toNat x13))) * (256 : Int))) + (IntKind.i64.wrap (ar a0.B (Int.toNat (IntKind.i64.wrap (x13 + (1 : Int)))))))] : List Int)), IntKind.i64.wrap (x13 + (2 : Int)), ao98, cap98, H, (ha.sel (by kernel_rfl)), f98, hE5, hn6, e_iD000098, p_iD000098_M, hC, hM⟩⟩
  ·have H := ite_f hc83 H
   refine wp_exit ?_
   simp only [Exit.then, Exit.inBlock, ↓reduceIte, Nat.reduceEqDiff]
   obtain rfl := Option.some.inj H
   exact J10 _ _ ao11 cap11 (ha.sel (by kernel_rfl)) f11 e_i11 p_i11_M hC hM
def vineryref02_Text.l0 (k : Nat) (a0 : S_api_Addr) : Nat → (List UInt8) → Int → Option (List UInt8)
  | 0, _, _ => none
  | kk + 1, x25, x26 => (if (decide (x26 < (4 : Int))) = true then (if (x25 ++ ([46] : List UInt8)).length ≤ 9223372036854775807 then (if 0 ≤ x26 ∧ x26 < (16 : Int) then (vineryref02_Number.f k (IntKind.i64.wrap (ar a0.B (Int.toNat x26))) (10 : Int)).bind fun t34 => (if ((x25 ++ ([46] : List UInt8)) ++ t34).length ≤ 9223372036854775807 then vineryref02_Text.l0 k a0 kk ((x25 ++ ([46] : List UInt8)) ++ t34) (IntKind.i64.wrap (x26 + (1 : Int))) else none) else none) else none) else some (x25 : List UInt8))
def vineryref02_Text.f (k : Nat) (a0 : S_api_Addr) : Option (List UInt8) := (vineryref02_Right.f k a0).bind fun t8 => ((if (!t8) = true then some (true : Bool) else some (a0.Size == (0 : Int) : Bool))).bind fun s11 => (if s11 = true then some ((([] : List UInt8) : List UInt8)) else (if (a0.Size == (16 : Int)) = true then (vineryref02_six.f k a0).bind fun t18 => some ((t18 : List UInt8)) else (vineryref02_Number.f k (IntKind.i64.wrap (ar a0.B 0)) (10 : Int)).bind fun t21 => (vineryref02_Text.l0 k a0 k t21 (1 : Int)).bind fun s24 => some ((s24 : List UInt8))))
set_option maxRecDepth 100000 in
theorem vineryref02_Text.walk (w : World) (M : List Nat) (hM : MS M w) (a0 : S_api_Addr) (k : Nat) (r : List UInt8) (H : vineryref02_Text.f k a0 = some r) :
    To Tryd.prog 15 [.agg (cS_api_Addr a0).toArray] w fun v w' => v = .string (bstr r) ∧ Chg [] w w' ∧ MS (M) w' := by
 unfold vineryref02_Text.f at H
 refine ent Tryd.func15 rfl [(0, .agg (cS_api_Addr a0).toArray)] rfl (by rfl) fun a ha => ?_
 have hC : Chg [] w w := Chg.refl _ _
 refine wp_seq_k fun K1 hK1 => ?_
 refine wp_region_lit ?_
 refine bx (cs := (cS_api_Addr a0)) ha rfl rfl rfl rfl rfl fun a w2 g3 hN4 ha => ?_
 have hn6 := hN4.notin hM
 have hM : MS (M) w2 := (hM.chg hN4.chg)
 have hC := hC.trans hN4.chg (Ok.nil _ _)
 have hE5 : ∀ j v, (cS_api_Addr a0)[j]? = some v → w2.cell? ⟨g3, 0 + j, none⟩ = some v := Box.cells (New.box hN4)
 refine seg ha 1 [(1, .pointer (some ⟨g3, 0, none⟩))] (by kernel_rfl) fun a ha => ?_
 refine hK1 _ _ ?_; try clear hK1 K1
 refine wp_seq_k fun K7 hK7 => ?_
 refine wp_region_lit ?_
 refine ldA (cs := (cS_api_Addr a0)) ha rfl (by kernel_rfl) rfl rfl rfl (cells_sub hE5 (all := (cS_api_Addr a0)) [] [] (by kernel_rfl)) fun a ha => ?_
 obtain ⟨t8, H8, H⟩ := bind_some H
 refine cl ha (by rfl) (by kernel_rfl) (by rfl) (by rfl) (by rfl) (vineryref02_Right.walk w2 _ hM a0 k _ H8) ?_
 rintro _ w8 ⟨rfl, hc8, hMn⟩ a ha
 have o1 : Ok [] (M) w2.heap.size := Ok.nil _ _
 have o2 : Ok (M) (M) w2.heap.size := (Ok.refl _ _)
 have q_hn6 : g3 ∉ M := fun h => (o2 g3 h).elim hn6 (fun h => absurd (lt_cell (hE5 0 _ rfl)) (Nat.not_lt.2 h))
 have hE5 : ∀ j v, (cS_api_Addr a0)[j]? = some v → w8.cell? ⟨g3, 0 + j, none⟩ = some v := fun j v hv => (cell_keep hc8 o1 hn6 (hE5 j v hv))
 have hn6 := q_hn6
 have hM : MS (M) w8 := (hM.chg hc8)
 have hC := hC.trans hc8 (Ok.nil _ _)
 refine seg ha 1 [(1, .pointer (some ⟨g3, 0, none⟩)), (3, .bool t8)] (by kernel_rfl) fun a ha => ?_
 refine hK7 _ _ ?_; try clear hK7 K7
 refine wp_seq_k fun K9 hK9 => ?_
 refine wp_seq_k fun K10 hK10 => ?_
 refine wp_region_lit ?_
 obtain ⟨s11, H11, H⟩ := bind_some H
 have J11 : ∀ (a : Act) (w11 : World), Has a Tryd.f15.ntmps [(1, .pointer (some ⟨g3, 0, none⟩)), (14, .bool s11)] → (∀ j v, (cS_api_Addr a0)[j]? = some v → w11.cell? ⟨g3, 0 + j, none⟩ = some v) → (g3 ∉ (M)) → (Chg [] w w11) → (MS (M) w11) → K10 a w11 := by
  intro a w11 ha hE5 hn6 hC hM
  refine hK10 _ _ ?_; try clear hK10 K10
  refine cnd ha rfl (fun hc12 => ?_) (fun hc12 => ?_)
  ·have H := ite_t hc12 H
   refine wp_seq_k fun K13 hK13 => ?_
   refine wp_region_lit ?_
   refine seg ha 1 [(2, .string (bstr ([] : List UInt8)))] (by kernel_rfl) fun a ha => ?_
   refine hK13 _ _ ?_; try clear hK13 K13
   refine wp_ret ?_
   try simp only [Exit.then, Exit.inBlock]
   obtain rfl := Option.some.inj H
   refine rt1 ha rfl rfl ?_
   exact ⟨rfl, hC, hM⟩
  ·have H := ite_f hc12 H
   refine wp_skip ?_
   refine hK9 _ _ ?_; try clear hK9 K9
   refine wp_seq_k fun K14 hK14 => ?_
   refine wp_seq_k fun K15 hK15 => ?_
   refine wp_region_lit ?_
   refine seg ha 1 [(1, .pointer (some ⟨g3, 0, none⟩)), (15, .pointer (some ⟨g3, 0, none⟩))] (by kernel_rfl) fun a ha => ?_
   refine ld ha rfl (by kernel_rfl) rfl rfl rfl (hE5 0 (.int .i64 a0.Size) (by kernel_rfl)) fun a ha => ?_
   refine seg ha 1 [(1, .pointer (some ⟨g3, 0, none⟩)), (17, .bool (a0.Size == (16 : Int)))] (by kernel_rfl) fun a ha => ?_
   refine hK15 _ _ ?_; try clear hK15 K15
   refine cnd ha rfl (fun hc16 => ?_) (fun hc16 => ?_)
   ·have H := ite_t hc16 H
    refine wp_seq_k fun K17 hK17 => ?_
    refine wp_region_lit ?_
    refine ldA (cs := (cS_api_Addr a0)) ha rfl (by kernel_rfl) rfl rfl rfl (cells_sub hE5 (all := (cS_api_Addr a0)) [] [] (by kernel_rfl)) fun a ha => ?_
    obtain ⟨t18, H18, H⟩ := bind_some H
    refine cl ha (by rfl) (by kernel_rfl) (by rfl) (by rfl) (by rfl) (vineryref02_six.walk w11 _ hM a0 k _ H18) ?_
    rintro _ w18 ⟨rfl, hc18, hMn⟩ a ha
    have hM : MS (M) w18 := (hM.chg hc18)
    have hC := hC.trans hc18 (Ok.nil _ _)
    refine seg ha 1 [(2, .string (bstr t18))] (by kernel_rfl) fun a ha => ?_
    refine hK17 _ _ ?_; try clear hK17 K17
    refine wp_ret ?_
    try simp only [Exit.then, Exit.inBlock]
    obtain rfl := Option.some.inj H
    refine rt1 ha rfl rfl ?_
    exact ⟨rfl, hC, hM⟩
   ·have H := ite_f hc16 H
    refine wp_skip ?_
    refine hK14 _ _ ?_; try clear hK14 K14
    refine wp_seq_k fun K19 hK19 => ?_
    refine wp_region_lit ?_
    refine seg ha 1 [(1, .pointer (some ⟨g3, 0, none⟩)), (20, .pointer (some ⟨g3, 0 + 1, none⟩))] (by kernel_rfl) fun a ha => ?_
    have hE20 : ∀ j v, ([.int .u8 (ar a0.B 0)] : List Value)[j]? = some v → w11.cell? ⟨g3, (0 + 1 + 0) + j, none⟩ = some v := cellA (m := 16) [.int .i64 a0.Size] [] hE5 (by kernel_rfl) (by decide)
    have hn20 := hn6
    refine hop (v := .pointer (some ⟨g3, (0 + 1 + 0), none⟩)) (w' := w11) ha rfl rfl rfl (ixA_run (T := 5) (N := 16) (g := g3) (o' := 0 + 1) (k := .i64) (i := (0 : Int)) ha (by kernel_rfl) (by kernel_rfl) (by rfl) (by rfl) (by decide) (by decide) _) fun a ha => ?_
    refine ld ha rfl (by kernel_rfl) rfl rfl rfl (hE20 0 (.int .u8 (ar a0.B 0)) (by kernel_rfl)) fun a ha => ?_
    refine seg ha 1 [(1, .pointer (some ⟨g3, 0, none⟩)), (23, .int .i64 (IntKind.i64.wrap (ar a0.B 0)))] (by kernel_rfl) fun a ha => ?_
    obtain ⟨t21, H21, H⟩ := bind_some H
    refine cl ha (by rfl) (by kernel_rfl) (by rfl) (by rfl) (by rfl) (vineryref02_Number.walk w11 _ hM (IntKind.i64.wrap (ar a0.B 0)) (10 : Int) k _ H21) ?_
    rintro _ w21 ⟨rfl, hc21, hMn⟩ a ha
    have o1 : Ok [] (M) w11.heap.size := Ok.nil _ _
    have o2 : Ok (M) (M) w11.heap.size := (Ok.refl _ _)
    have q_hn6 : g3 ∉ M := fun h => (o2 g3 h).elim hn6 (fun h => absurd (lt_cell (hE5 0 _ rfl)) (Nat.not_lt.2 h))
    have hE5 : ∀ j v, (cS_api_Addr a0)[j]? = some v → w21.cell? ⟨g3, 0 + j, none⟩ = some v := fun j v hv => (cell_keep hc21 o1 hn6 (hE5 j v hv))
    have hn6 := q_hn6
    have hM : MS (M) w21 := (hM.chg hc21)
    have hC := hC.trans hc21 (Ok.nil _ _)
    refine seg ha 1 [(1, .pointer (some ⟨g3, 0, none⟩)), (4, .string (bstr t21))] (by kernel_rfl) fun a ha => ?_
    refine hK19 _ _ ?_; try clear hK19 K19
    refine wp_seq_k fun K22 hK22 => ?_
    refine wp_seq_k fun K23 hK23 => ?_
    refine wp_region_lit ?_
    refine seg ha 1 [(1, .pointer (some ⟨g3, 0, none⟩)), (4, .string (bstr t21)), (5, .int .i64 (1 : Int))] (by kernel_rfl) fun a ha => ?_
    refine hK23 _ _ ?_; try clear hK23 K23
    refine wp_block ?_
    obtain ⟨s24, H24, H⟩ := bind_some H
    have J24 : ∀ (a : Act) (wx24 : World), Has a Tryd.f15.ntmps [(4, .string (bstr s24))] → (Chg [] w wx24) → (MS (M) wx24) → K22 a wx24 := by
     intro a wx24 ha hC hM
     refine hK22 _ _ ?_; try clear hK22 K22
     refine wp_seq_k fun K27 hK27 => ?_
     refine wp_region_lit ?_
     refine seg ha 2 [(2, .string (bstr s24))] (by kernel_rfl) fun a ha => ?_
     refine hK27 _ _ ?_; try clear hK27 K27
     refine wp_ret ?_
     try simp only [Exit.then, Exit.inBlock]
     obtain rfl := Option.some.inj H
     refine rt1 ha rfl rfl ?_
     exact ⟨rfl, hC, hM⟩
    have Hc24 := H
    have H := H24
    refine wp_loop_ghost (fun kk a w24 => ∃ (x25 : List UInt8) (x26 : Int), vineryref02_Text.l0 k a0 kk x25 x26 = some s24 ∧ Has a Tryd.f15.ntmps [(1, .pointer (some ⟨g3, 0, none⟩)), (4, .string (bstr x25)), (5, .int .i64 x26)] ∧ (∀ j v, (cS_api_Addr a0)[j]? = some v → w24.cell? ⟨g3, 0 + j, none⟩ = some v) ∧ (g3 ∉ (M)) ∧ (Chg [] w w24) ∧ (MS (M) w24)) k ?_ ?_
    ·skip
     exact ⟨t21, (1 : Int), H, (ha.sel (by kernel_rfl)), hE5, hn6, hC, hM⟩
    ·rintro kk a w24 ⟨x25, x26, H, ha, hE5, hn6, hC, hM⟩
     obtain _ | kk := kk
     ·exact nomatch (show none = some _ from H)
     rw [vineryref02_Text.l0] at H
     refine wp_seq_k fun K28 hK28 => ?_
     refine wp_seq_k fun K29 hK29 => ?_
     refine wp_region_lit ?_
     refine seg ha 2 [(1, .pointer (some ⟨g3, 0, none⟩)), (4, .string (bstr x25)), (5, .int .i64 x26), (26, .bool (decide (x26 < (4 : Int))))] (by kernel_rfl) fun a ha => ?_
     refine hK29 _ _ ?_; try clear hK29 K29
     refine cnd ha rfl (fun hc30 => ?_) (fun hc30 => ?_)
     ·have H := ite_t hc30 H
      refine wp_skip ?_
      refine hK28 _ _ ?_; try clear hK28 K28
      refine wp_seq_k fun K31 hK31 => ?_
      refine wp_block ?_
      refine wp_region_lit ?_
      refine seg ha 1 [(1, .pointer (some ⟨g3, 0, none⟩)), (5, .int .i64 x26), (29, .string (bstr x25))] (by kernel_rfl) fun a ha => ?_
      obtain ⟨hx32, H⟩ := ite_some H
      refine sadd ha rfl rfl rfl rfl rfl hx32 fun a ha => ?_
      refine seg ha 2 [(1, .pointer (some ⟨g3, 0, none⟩)), (5, .int .i64 x26), (30, .string (bstr (x25 ++ ([46] : List UInt8)))), (31, .int .i64 x26), (32, .pointer (some ⟨g3, 0 + 1, none⟩))] (by kernel_rfl) fun a ha => ?_
      obtain ⟨⟨hx33, hx33'⟩, H⟩ := ite_some H
      have hE33 : ∀ j v, ([.int .u8 (ar a0.B (Int.toNat x26))] : List Value)[j]? = some v → w24.cell? ⟨g3, (0 + 1 + (Int.toNat x26)) + j, none⟩ = some v := cellA (m := 16) [.int .i64 a0.Size] [] hE5 (by kernel_rfl) (by omega)
      have hn33 := hn6
      refine hop (v := .pointer (some ⟨g3, (0 + 1 + (Int.toNat x26)), none⟩)) (w' := w24) ha rfl rfl rfl (ixA_run (T := 5) (N := 16) (g := g3) (o' := 0 + 1) (k := .i64) (i := x26) ha (by kernel_rfl) (by kernel_rfl) (by rfl) (by rfl) hx33 hx33' _) fun a ha => ?_
      refine ld ha rfl (by kernel_rfl) rfl rfl rfl (hE33 0 (.int .u8 (ar a0.B (Int.toNat x26))) (by kernel_rfl)) fun a ha => ?_
      refine seg ha 1 [(1, .pointer (some ⟨g3, 0, none⟩)), (5, .int .i64 x26), (30, .string (bstr (x25 ++ ([46] : List UInt8)))), (35, .int .i64 (IntKind.i64.wrap (ar a0.B (Int.toNat x26))))] (by kernel_rfl) fun a ha => ?_
      obtain ⟨t34, H34, H⟩ := bind_some H
      refine cl ha (by rfl) (by kernel_rfl) (by rfl) (by rfl) (by rfl) (vineryref02_Number.walk w24 _ hM (IntKind.i64.wrap (ar a0.B (Int.toNat x26))) (10 : Int) k _ H34) ?_
      rintro _ w34 ⟨rfl, hc34, hMn⟩ a ha
      have o1 : Ok [] (M) w24.heap.size := Ok.nil _ _
      have o2 : Ok (M) (M) w24.heap.size := (Ok.refl _ _)
      have q_hn6 : g3 ∉ M := fun h => (o2 g3 h).elim hn6 (fun h => absurd (lt_cell (hE5 0 _ rfl)) (Nat.not_lt.2 h))
      have hE5 : ∀ j v, (cS_api_Addr a0)[j]? = some v → w34.cell? ⟨g3, 0 + j, none⟩ = some v := fun j v hv => (cell_keep hc34 o1 hn6 (hE5 j v hv))
      have hn6 := q_hn6
      have hM : MS (M) w34 := (hM.chg hc34)
      have hC := hC.trans hc34 (Ok.nil _ _)
      obtain ⟨hx35, H⟩ := ite_some H
      refine sadd ha rfl rfl rfl rfl rfl hx35 fun a ha => ?_
      refine seg ha 1 [(1, .pointer (some ⟨g3, 0, none⟩)), (4, .string (bstr ((x25 ++ ([46] : List UInt8)) ++ t34))), (5, .int .i64 x26)] (by kernel_rfl) fun a ha => ?_
      refine hK31 _ _ ?_; try clear hK31 K31
      refine wp_region_lit ?_
      refine seg ha 3 [(1, .pointer (some ⟨g3, 0, none⟩)), (4, .string (bstr ((x25 ++ ([46] : List UInt8)) ++ t34))), (5, .int .i64 (IntKind.i64.wrap (x26 + (1 : Int))))] (by kernel_rfl) fun a ha => ?_
      exact ⟨kk, Nat.lt_succ_self _, ⟨(x25 ++ ([46] : List UInt8)) ++ t34, IntKind.i64.wrap (x26 + (1 : Int)), H, (ha.sel (by kernel_rfl)), hE5, hn6, hC, hM⟩⟩
     ·have H := ite_f hc30 H
      refine wp_exit ?_
      simp only [Exit.then, Exit.inBlock, ↓reduceIte, Nat.reduceEqDiff]
      obtain rfl := Option.some.inj H
      exact J24 _ _ (ha.sel (by kernel_rfl)) hC hM
 have H := H11
 refine seg ha 3 [(10, .bool (!t8)), (1, .pointer (some ⟨g3, 0, none⟩))] (by kernel_rfl) fun a ha => ?_
 rcases Bool.eq_false_or_eq_true (!t8) with hb36 | hb36
 ·have ha := ha.lit hb36
  have H := ite_t hb36 H
  refine sgh ha 4 [1, 1, 1, 3] [(1, .pointer (some ⟨g3, 0, none⟩)), (14, .bool true)] (by kernel_rfl) fun a ha => ?_
  obtain rfl := Option.some.inj H
  exact J11 _ _ (ha.sel (by kernel_rfl)) hE5 hn6 hC hM
 ·have ha := ha.lit hb36
  have H := ite_f hb36 H
  refine sgh ha 1 [2] [(1, .pointer (some ⟨g3, 0, none⟩)), (10, .bool false), (11, .pointer (some ⟨g3, 0, none⟩))] (by kernel_rfl) fun a ha => ?_
  refine ld ha rfl (by kernel_rfl) rfl rfl rfl (hE5 0 (.int .i64 a0.Size) (by kernel_rfl)) fun a ha => ?_
  refine sgh ha 2 [2, 4] [(1, .pointer (some ⟨g3, 0, none⟩)), (14, .bool (a0.Size == (0 : Int)))] (by kernel_rfl) fun a ha => ?_
  obtain rfl := Option.some.inj H
  exact J11 _ _ (ha.sel (by kernel_rfl)) hE5 hn6 hC hM
def vineryref02_Parse.f (k : Nat) (a0 : List UInt8) : Option (S_api_Addr × Int) := (if ((bstr a0).toList == (bstr ([] : List UInt8)).toList) = true then some (((⟨(0 : Int), (List.replicate 16 (0 : Int))⟩ : S_api_Addr) : S_api_Addr), ((0 : Int) : Int)) else (if (decide (((bstr a0).size : Int) > (39 : Int))) = true then some (((⟨(0 : Int), (List.replicate 16 (0 : Int))⟩ : S_api_Addr) : S_api_Addr), ((4 : Int) : Int)) else (vineryref02_rough.f k a0).bind fun t19 => (vineryref02_Text.f k t19).bind fun t28 => (if (!((bstr t28).toList == (bstr a0).toList)) = true then some (((⟨(0 : Int), (List.replicate 16 (0 : Int))⟩ : S_api_Addr) : S_api_Addr), ((4 : Int) : Int)) else some ((t19 : S_api_Addr), ((0 : Int) : Int)))))
set_option maxRecDepth 100000 in
theorem vineryref02_Parse.walk (w : World) (M : List Nat) (hM : MS M w) (a0 : List UInt8) (k : Nat) (r : S_api_Addr × Int) (H : vineryref02_Parse.f k a0 = some r) :
    To Tryd.prog 13 [.string (bstr a0)] w fun v w' => v = .tuple #[.agg (cS_api_Addr r.1).toArray, .int .i64 r.2] ∧ Chg [] w w' ∧ MS (M) w' := by
 unfold vineryref02_Parse.f at H
 refine ent Tryd.func13 rfl [(0, .string (bstr a0))] rfl (by rfl) fun a ha => ?_
 have hC : Chg [] w w := Chg.refl _ _
 refine wp_seq_k fun K1 hK1 => ?_
 refine wp_region_lit ?_
 refine al (cs := (cS_api_Addr (⟨(0 : Int), (List.replicate 16 (0 : Int))⟩ : S_api_Addr))) (z := .agg (cS_api_Addr (⟨(0 : Int), (List.replicate 16 (0 : Int))⟩ : S_api_Addr)).toArray) ha (fun w => by kernel_rfl) rfl rfl rfl rfl fun a w2 g3 hN4 ha => ?_
 have p_i5_M : ∀ x ∈ [g3], x ∉ M := fun x hx hy => absurd (hM x (hy)) (Nat.not_lt.2 ((hN4.ge1) x hx))
 have e_i5 : ∀ x ∈ [g3], w.heap.size ≤ x := fun x hx => Nat.le_trans hC.size ((hN4.ge1) x hx)
 have hM : MS ([g3] ++ (M)) w2 := (MS.app hN4.ms (hM.chg hN4.chg))
 have hC := hC.trans hN4.chg (Ok.nil _ _)
 have hBg3 : Box w2 g3 (cS_api_Addr (⟨(0 : Int), (List.replicate 16 (0 : Int))⟩ : S_api_Addr)) := hN4.box
 refine seg ha 1 [(0, .string (bstr a0)), (2, .pointer (some ⟨g3, 0, none⟩))] (by kernel_rfl) fun a ha => ?_
 refine hK1 _ _ ?_; try clear hK1 K1
 refine wp_seq_k fun K6 hK6 => ?_
 refine wp_seq_k fun K7 hK7 => ?_
 refine wp_region_lit ?_
 refine seg ha 2 [(0, .string (bstr a0)), (2, .pointer (some ⟨g3, 0, none⟩)), (6, .bool ((bstr a0).toList == (bstr ([] : List UInt8)).toList))] (by kernel_rfl) fun a ha => ?_
 refine hK7 _ _ ?_; try clear hK7 K7
 refine cnd ha rfl (fun hc8 => ?_) (fun hc8 => ?_)
 ·have H := ite_t hc8 H
  refine wp_seq_k fun K9 hK9 => ?_
  refine wp_region_lit ?_
  refine opk (v := .agg (cS_api_Addr (⟨(0 : Int), (List.replicate 16 (0 : Int))⟩ : S_api_Addr)).toArray) ha rfl rfl rfl rfl rfl (fun w => by kernel_rfl) fun a ha => ?_
  refine stA (l := (cS_api_Addr (⟨(0 : Int), (List.replicate 16 (0 : Int))⟩ : S_api_Addr))) ha rfl rfl rfl (by kernel_rfl) rfl rfl hBg3 rfl fun a w10 ha hb2 hc11 _ => ?_
  have hM : MS ([g3] ++ (M)) w10 := (hM.chg hc11)
  have hC := hC.trans hc11 (fun x h => .inr (e_i5 x h))
  have hBg3 : Box w10 g3 (cS_api_Addr (⟨(0 : Int), (List.replicate 16 (0 : Int))⟩ : S_api_Addr)) := hb2
  refine seg ha 1 [(2, .pointer (some ⟨g3, 0, none⟩)), (3, .int .i64 (0 : Int))] (by kernel_rfl) fun a ha => ?_
  refine hK9 _ _ ?_; try clear hK9 K9
  refine wp_ret ?_
  try simp only [Exit.then, Exit.inBlock]
  have hBg3 := hBg3.chg (Chg.refl [] _) (fun h => nomatch h)
  have hM : MS (M) w10 := (fun x h => hM.chg (Chg.refl [] _) x (mr (h)))
  have hC := hC.trans (Chg.refl [] _) (Ok.nil _ _)
  obtain rfl := Option.some.inj H
  refine rtr ha (res2 rfl (roA ha rfl hBg3 (by kernel_rfl)) (roT ha rfl)) ?_
  exact ⟨rfl, hC, hM⟩
 ·have H := ite_f hc8 H
  refine wp_skip ?_
  refine hK6 _ _ ?_; try clear hK6 K6
  refine wp_seq_k fun K12 hK12 => ?_
  refine wp_seq_k fun K13 hK13 => ?_
  refine wp_region_lit ?_
  refine seg ha 3 [(0, .string (bstr a0)), (2, .pointer (some ⟨g3, 0, none⟩)), (10, .bool (decide (((bstr a0).size : Int) > (39 : Int))))] (by kernel_rfl) fun a ha => ?_
  refine hK13 _ _ ?_; try clear hK13 K13
  refine cnd ha rfl (fun hc14 => ?_) (fun hc14 => ?_)
  ·have H := ite_t hc14 H
   refine wp_seq_k fun K15 hK15 => ?_
   refine wp_region_lit ?_
   refine opk (v := .agg (cS_api_Addr (⟨(0 : Int), (List.replicate 16 (0 : Int))⟩ : S_api_Addr)).toArray) ha rfl rfl rfl rfl rfl (fun w => by kernel_rfl) fun a ha => ?_
   refine stA (l := (cS_api_Addr (⟨(0 : Int), (List.replicate 16 (0 : Int))⟩ : S_api_Addr))) ha rfl rfl rfl (by kernel_rfl) rfl rfl hBg3 rfl fun a w16 ha hb2 hc17 _ => ?_
   have hM : MS ([g3] ++ (M)) w16 := (hM.chg hc17)
   have hC := hC.trans hc17 (fun x h => .inr (e_i5 x h))
   have hBg3 : Box w16 g3 (cS_api_Addr (⟨(0 : Int), (List.replicate 16 (0 : Int))⟩ : S_api_Addr)) := hb2
   refine seg ha 1 [(2, .pointer (some ⟨g3, 0, none⟩)), (3, .int .i64 (4 : Int))] (by kernel_rfl) fun a ha => ?_
   refine hK15 _ _ ?_; try clear hK15 K15
   refine wp_ret ?_
   try simp only [Exit.then, Exit.inBlock]
   have hBg3 := hBg3.chg (Chg.refl [] _) (fun h => nomatch h)
   have hM : MS (M) w16 := (fun x h => hM.chg (Chg.refl [] _) x (mr (h)))
   have hC := hC.trans (Chg.refl [] _) (Ok.nil _ _)
   obtain rfl := Option.some.inj H
   refine rtr ha (res2 rfl (roA ha rfl hBg3 (by kernel_rfl)) (roT ha rfl)) ?_
   exact ⟨rfl, hC, hM⟩
  ·have H := ite_f hc14 H
   refine wp_skip ?_
   refine hK12 _ _ ?_; try clear hK12 K12
   refine wp_seq_k fun K18 hK18 => ?_
   refine wp_region_lit ?_
   refine seg ha 1 [(0, .string (bstr a0)), (2, .pointer (some ⟨g3, 0, none⟩)), (12, .string (bstr a0))] (by kernel_rfl) fun a ha => ?_
   obtain ⟨t19, H19, H⟩ := bind_some H
   refine cl ha (by rfl) (by kernel_rfl) (by rfl) (by rfl) (by rfl) (vineryref02_rough.walk w2 _ hM a0 k _ H19) ?_
   rintro _ w19 ⟨rfl, hc19, hMn⟩ a ha
   have hBg3 := hBg3.chg hc19 (fun h => nomatch h)
   have hM : MS ([g3] ++ (M)) w19 := (hM.chg hc19)
   have hC := hC.trans hc19 (Ok.nil _ _)
   refine al (cs := (cS_api_Addr (⟨(0 : Int), (List.replicate 16 (0 : Int))⟩ : S_api_Addr))) (z := .agg (cS_api_Addr (⟨(0 : Int), (List.replicate 16 (0 : Int))⟩ : S_api_Addr)).toArray) ha (fun w => by kernel_rfl) rfl rfl rfl rfl fun a w20 g21 hN22 ha => ?_
   have hBg3 := hBg3.chg hN22.chg (fun h => nomatch h)
   have p_i23_i5 : ∀ x ∈ [g21], x ∉ ([g3]) := fun x hx hy => absurd (hM x (ml hy)) (Nat.not_lt.2 ((hN22.ge1) x hx))
   have p_i23_M : ∀ x ∈ [g21], x ∉ M := fun x hx hy => absurd (hM x (mr (hy))) (Nat.not_lt.2 ((hN22.ge1) x hx))
   have e_i23 : ∀ x ∈ [g21], w.heap.size ≤ x := fun x hx => Nat.le_trans hC.size ((hN22.ge1) x hx)
   have hM : MS ([g21] ++ ([g3] ++ (M))) w20 := (MS.app hN22.ms (hM.chg hN22.chg))
   have hC := hC.trans hN22.chg (Ok.nil _ _)
   have hBg21 : Box w20 g21 (cS_api_Addr (⟨(0 : Int), (List.replicate 16 (0 : Int))⟩ : S_api_Addr)) := hN22.box
   refine stA (l := (cS_api_Addr t19)) ha rfl rfl rfl (by kernel_rfl) rfl rfl hBg21 rfl fun a w24 ha hb2 hc25 _ => ?_
   have hBg3 := hBg3.chg hc25 ((fun x (hx : x ∈ [g3]) (hy : x ∈ [g21]) => p_i23_i5 x hy hx) g3 (by simp))
   have hM : MS ([g21] ++ ([g3] ++ (M))) w24 := (hM.chg hc25)
   have hC := hC.trans hc25 (fun x h => .inr (e_i23 x h))
   have hBg21 : Box w24 g21 (cS_api_Addr t19) := hb2
   refine hK18 _ _ ?_; try clear hK18 K18
   refine wp_seq_k fun K26 hK26 => ?_
   refine wp_seq_k fun K27 hK27 => ?_
   refine wp_region_lit ?_
   refine ldA (cs := (cS_api_Addr t19)) ha rfl (by kernel_rfl) rfl rfl rfl (cells_sub (Box.cells hBg21) (all := (cS_api_Addr t19)) [] [] (by kernel_rfl)) fun a ha => ?_
   obtain ⟨t28, H28, H⟩ := bind_some H
   refine cl ha (by rfl) (by kernel_rfl) (by rfl) (by rfl) (by rfl) (vineryref02_Text.walk w24 _ hM t19 k _ H28) ?_
   rintro _ w28 ⟨rfl, hc28, hMn⟩ a ha
   have hBg3 := hBg3.chg hc28 (fun h => nomatch h)
   have hBg21 := hBg21.chg hc28 (fun h => nomatch h)
   have hM : MS ([g21] ++ ([g3] ++ (M))) w28 := (hM.chg hc28)
   have hC := hC.trans hc28 (Ok.nil _ _)
   refine seg ha 2 [(2, .pointer (some ⟨g3, 0, none⟩)), (4, .pointer (some ⟨g21, 0, none⟩)), (17, .bool (!((bstr t28).toList == (bstr a0).toList)))] (by kernel_rfl) fun a ha => ?_
   refine hK27 _ _ ?_; try clear hK27 K27
   refine cnd ha rfl (fun hc29 => ?_) (fun hc29 => ?_)
   ·have H := ite_t hc29 H
    refine wp_seq_k fun K30 hK30 => ?_
    refine wp_region_lit ?_
    refine opk (v := .agg (cS_api_Addr (⟨(0 : Int), (List.replicate 16 (0 : Int))⟩ : S_api_Addr)).toArray) ha rfl rfl rfl rfl rfl (fun w => by kernel_rfl) fun a ha => ?_
    refine stA (l := (cS_api_Addr (⟨(0 : Int), (List.replicate 16 (0 : Int))⟩ : S_api_Addr))) ha rfl rfl rfl (by kernel_rfl) rfl rfl hBg3 rfl fun a w31 ha hb2 hc32 _ => ?_
    have hBg21 := hBg21.chg hc32 (p_i23_i5 g21 (by simp))
    have hM : MS ([g21] ++ ([g3] ++ (M))) w31 := (hM.chg hc32)
    have hC := hC.trans hc32 (fun x h => .inr (e_i5 x h))
    have hBg3 : Box w31 g3 (cS_api_Addr (⟨(0 : Int), (List.replicate 16 (0 : Int))⟩ : S_api_Addr)) := hb2
    refine seg ha 1 [(2, .pointer (some ⟨g3, 0, none⟩)), (3, .int .i64 (4 : Int))] (by kernel_rfl) fun a ha => ?_
    refine hK30 _ _ ?_; try clear hK30 K30
    refine wp_ret ?_
    try simp only [Exit.then, Exit.inBlock]
    have hBg3 := hBg3.chg (Chg.refl [] _) (fun h => nomatch h)
    have hBg21 := hBg21.chg (Chg.refl [] _) (fun h => nomatch h)
    have hM : MS (M) w31 := (fun x h => hM.chg (Chg.refl [] _) x (mr (mr (h))))
    have hC := hC.trans (Chg.refl [] _) (Ok.nil _ _)
    obtain rfl := Option.some.inj H
    refine rtr ha (res2 rfl (roA ha rfl hBg3 (by kernel_rfl)) (roT ha rfl)) ?_
    exact ⟨rfl, hC, hM⟩
   ·have H := ite_f hc29 H
    refine wp_skip ?_
    refine hK26 _ _ ?_; try clear hK26 K26
    refine wp_seq_k fun K33 hK33 => ?_
    refine wp_region_lit ?_
    refine ldA (cs := (cS_api_Addr t19)) ha rfl (by kernel_rfl) rfl rfl rfl (cells_sub (Box.cells hBg21) (all := (cS_api_Addr t19)) [] [] (by kernel_rfl)) fun a ha => ?_
    refine stA (l := (cS_api_Addr t19)) ha rfl rfl rfl (by kernel_rfl) rfl rfl hBg3 rfl fun a w34 ha hb2 hc35 _ => ?_
    have hBg21 := hBg21.chg hc35 (p_i23_i5 g21 (by simp))
    have hM : MS ([g21] ++ ([g3] ++ (M))) w34 := (hM.chg hc35)
    have hC := hC.trans hc35 (fun x h => .inr (e_i5 x h))
    have hBg3 : Box w34 g3 (cS_api_Addr t19) := hb2
    refine seg ha 1 [(2, .pointer (some ⟨g3, 0, none⟩)), (3, .int .i64 (0 : Int))] (by kernel_rfl) fun a ha => ?_
    refine hK33 _ _ ?_; try clear hK33 K33
    refine wp_ret ?_
    try simp only [Exit.then, Exit.inBlock]
    have hBg3 := hBg3.chg (Chg.refl [] _) (fun h => nomatch h)
    have hBg21 := hBg21.chg (Chg.refl [] _) (fun h => nomatch h)
    have hM : MS (M) w34 := (fun x h => hM.chg (Chg.refl [] _) x (mr (mr (h))))
    have hC := hC.trans (Chg.refl [] _) (Ok.nil _ _)
    obtain rfl := Option.some.inj H
    refine rtr ha (res2 rfl (roA ha rfl hBg3 (by kernel_rfl)) (roT ha rfl)) ?_
    exact ⟨rfl, hC, hM⟩
def vinerylaw02_AddrTexts.f (k : Nat) (a0 : S_api_Addr) (a1 : List UInt8) : Option (Bool) := (vinerylaw02_small.f k ).bind fun t8 => (addr_Parse.f k a1).bind fun t10 => (vineryref02_Parse.f k a1).bind fun t18 => ((if t8 = true then (addr_Text.f k a0).bind fun t28 => (vineryref02_Text.f k a0).bind fun t29 => (if ((bstr t28).toList == (bstr t29).toList) = true then (if ((t10.1.Size == t18.1.Size) && ((eqA 16 t10.1.B t18.1.B) && true)) = true then some (t10.2 == t18.2 : Bool) else some (false : Bool)) else some (false : Bool)) else some (false : Bool))).bind fun s26 => some ((s26 : Bool))
set_option maxRecDepth 100000 in
theorem vinerylaw02_AddrTexts.walk (w : World) (M : List Nat) (hM : MS M w) (hG : GF w M) (a0 : S_api_Addr) (a1 : List UInt8) (k : Nat) (r : Bool) (H : vinerylaw02_AddrTexts.f k a0 a1 = some r) :
    To Tryd.prog 3 [.agg (cS_api_Addr a0).toArray, .string (bstr a1)] w fun v w' => v = .bool r ∧ Chg [] w w' ∧ MS (M) w' := by
 unfold vinerylaw02_AddrTexts.f at H
 refine ent Tryd.func3 rfl [(0, .agg (cS_api_Addr a0).toArray), (1, .string (bstr a1))] rfl (by rfl) fun a ha => ?_
 have hC : Chg [] w w := Chg.refl _ _
 refine wp_seq_k fun K1 hK1 => ?_
 refine wp_region_lit ?_
 refine bx (cs := (cS_api_Addr a0)) ha rfl rfl rfl rfl rfl fun a w2 g3 hN4 ha => ?_
 have hn6 := hN4.notin hM
 have o1 : Ok [] (M) w.heap.size := Ok.nil _ _
 have o2 : Ok (M) (M) w.heap.size := (Ok.refl _ _)
 have hG := hG.chg hN4.chg o1 o2
 have hM : MS (M) w2 := (hM.chg hN4.chg)
 have hC := hC.trans hN4.chg (Ok.nil _ _)
 have hE5 : ∀ j v, (cS_api_Addr a0)[j]? = some v → w2.cell? ⟨g3, 0 + j, none⟩ = some v := Box.cells (New.box hN4)
 refine seg ha 1 [(1, .string (bstr a1)), (2, .pointer (some ⟨g3, 0, none⟩))] (by kernel_rfl) fun a ha => ?_
 refine hK1 _ _ ?_; try clear hK1 K1
 refine wp_seq_k fun K7 hK7 => ?_
 refine wp_region_lit ?_
 obtain ⟨t8, H8, H⟩ := bind_some H
 refine cl ha (by rfl) (by kernel_rfl) (by rfl) (by rfl) (by rfl) (vinerylaw02_small.walk w2 _ hM hG  k _ H8) ?_
 rintro _ w8 ⟨rfl, hc8, hMn⟩ a ha
 have o1 : Ok [] (M) w2.heap.size := Ok.nil _ _
 have o2 : Ok (M) (M) w2.heap.size := (Ok.refl _ _)
 have hG := hG.chg hc8 o1 o2
 have q_hn6 : g3 ∉ M := fun h => (o2 g3 h).elim hn6 (fun h => absurd (lt_cell (hE5 0 _ rfl)) (Nat.not_lt.2 h))
 have hE5 : ∀ j v, (cS_api_Addr a0)[j]? = some v → w8.cell? ⟨g3, 0 + j, none⟩ = some v := fun j v hv => (cell_keep hc8 o1 hn6 (hE5 j v hv))
 have hn6 := q_hn6
 have hM : MS (M) w8 := (hM.chg hc8)
 have hC := hC.trans hc8 (Ok.nil _ _)
 refine seg ha 1 [(1, .string (bstr a1)), (2, .pointer (some ⟨g3, 0, none⟩)), (5, .bool t8)] (by kernel_rfl) fun a ha => ?_
 refine hK7 _ _ ?_; try clear hK7 K7
 refine wp_seq_k fun K9 hK9 => ?_
 refine wp_region_lit ?_
 refine seg ha 1 [(1, .string (bstr a1)), (2, .pointer (some ⟨g3, 0, none⟩)), (5, .bool t8), (12, .string (bstr a1))] (by kernel_rfl) fun a ha => ?_
 obtain ⟨t10, H10, H⟩ := bind_some H
 refine cl ha (by rfl) (by kernel_rfl) (by rfl) (by rfl) (by rfl) (addr_Parse.walk w8 _ hM hG a1 k _ H10) ?_
 rintro _ w10 ⟨rfl, hc10, hMn⟩ a ha
 have o1 : Ok [] (M) w8.heap.size := Ok.nil _ _
 have o2 : Ok (M) (M) w8.heap.size := (Ok.refl _ _)
 have hG := hG.chg hc10 o1 o2
 have q_hn6 : g3 ∉ M := fun h => (o2 g3 h).elim hn6 (fun h => absurd (lt_cell (hE5 0 _ rfl)) (Nat.not_lt.2 h))
 have hE5 : ∀ j v, (cS_api_Addr a0)[j]? = some v → w10.cell? ⟨g3, 0 + j, none⟩ = some v := fun j v hv => (cell_keep hc10 o1 hn6 (hE5 j v hv))
 have hn6 := q_hn6
 have hM : MS (M) w10 := (hM.chg hc10)
 have hC := hC.trans hc10 (Ok.nil _ _)
 refine seg ha 3 [(1, .string (bstr a1)), (2, .pointer (some ⟨g3, 0, none⟩)), (5, .bool t8), (14, .agg (cS_api_Addr t10.1).toArray), (15, .int .i64 t10.2)] (by kernel_rfl) fun a ha => ?_
 refine al (cs := (cS_api_Addr (⟨(0 : Int), (List.replicate 16 (0 : Int))⟩ : S_api_Addr))) (z := .agg (cS_api_Addr (⟨(0 : Int), (List.replicate 16 (0 : Int))⟩ : S_api_Addr)).toArray) ha (fun w => by kernel_rfl) rfl rfl rfl rfl fun a w11 g12 hN13 ha => ?_
 have o1 : Ok [] (M) w10.heap.size := Ok.nil _ _
 have o2 : Ok ([g12] ++ (M)) (M) w10.heap.size := (Ok.app (hN13.ok _) (Ok.refl _ _))
 have hG := hG.chg hN13.chg o1 o2
 have q_hn6 : g3 ∉ [g12] ++ (M) := fun h => (o2 g3 h).elim hn6 (fun h => absurd (lt_cell (hE5 0 _ rfl)) (Nat.not_lt.2 h))
 have hE5 : ∀ j v, (cS_api_Addr a0)[j]? = some v → w11.cell? ⟨g3, 0 + j, none⟩ = some v := fun j v hv => (cell_keep hN13.chg o1 hn6 (hE5 j v hv))
 have hn6 := q_hn6
 have p_i14_M : ∀ x ∈ [g12], x ∉ M := fun x hx hy => absurd (hM x (hy)) (Nat.not_lt.2 ((hN13.ge1) x hx))
 have e_i14 : ∀ x ∈ [g12], w.heap.size ≤ x := fun x hx => Nat.le_trans hC.size ((hN13.ge1) x hx)
 have hM : MS ([g12] ++ (M)) w11 := (MS.app hN13.ms (hM.chg hN13.chg))
 have hC := hC.trans hN13.chg (Ok.nil _ _)
 have hBg12 : Box w11 g12 (cS_api_Addr (⟨(0 : Int), (List.replicate 16 (0 : Int))⟩ : S_api_Addr)) := hN13.box
 refine stA (l := (cS_api_Addr t10.1)) ha rfl rfl rfl (by kernel_rfl) rfl rfl hBg12 rfl fun a w15 ha hb2 hc16 _ => ?_
 have o1 : Ok [g12] ([g12] ++ (M)) w11.heap.size := (fun _ h => .inl (ml h))
 have o2 : Ok ([g12] ++ (M)) ([g12] ++ (M)) w11.heap.size := (Ok.refl _ _)
 have hG := hG.chg hc16 o1 o2
 have q_hn6 : g3 ∉ [g12] ++ (M) := fun h => (o2 g3 h).elim hn6 (fun h => absurd (lt_cell (hE5 0 _ rfl)) (Nat.not_lt.2 h))
 have hE5 : ∀ j v, (cS_api_Addr a0)[j]? = some v → w15.cell? ⟨g3, 0 + j, none⟩ = some v := fun j v hv => (cell_keep hc16 o1 hn6 (hE5 j v hv))
 have hn6 := q_hn6
 have hM : MS ([g12] ++ (M)) w15 := (hM.chg hc16)
 have hC := hC.trans hc16 (fun x h => .inr (e_i14 x h))
 have hBg12 : Box w15 g12 (cS_api_Addr t10.1) := hb2
 refine seg ha 1 [(1, .string (bstr a1)), (2, .pointer (some ⟨g3, 0, none⟩)), (5, .bool t8), (6, .pointer (some ⟨g12, 0, none⟩)), (7, .int .i64 t10.2)] (by kernel_rfl) fun a ha => ?_
 refine hK9 _ _ ?_; try clear hK9 K9
 refine wp_seq_k fun K17 hK17 => ?_
 refine wp_region_lit ?_
 refine seg ha 1 [(2, .pointer (some ⟨g3, 0, none⟩)), (5, .bool t8), (6, .pointer (some ⟨g12, 0, none⟩)), (7, .int .i64 t10.2), (17, .string (bstr a1))] (by kernel_rfl) fun a ha => ?_
 obtain ⟨t18, H18, H⟩ := bind_some H
 refine cl ha (by rfl) (by kernel_rfl) (by rfl) (by rfl) (by rfl) (vineryref02_Parse.walk w15 _ hM a1 k _ H18) ?_
 rintro _ w18 ⟨rfl, hc18, hMn⟩ a ha
 have o1 : Ok [] ([g12] ++ (M)) w15.heap.size := Ok.nil _ _
 have o2 : Ok ([g12] ++ (M)) ([g12] ++ (M)) w15.heap.size := (Ok.refl _ _)
 have hG := hG.chg hc18 o1 o2
 have hBg12 := hBg12.chg hc18 (fun h => nomatch h)
 have q_hn6 : g3 ∉ [g12] ++ (M) := fun h => (o2 g3 h).elim hn6 (fun h => absurd (lt_cell (hE5 0 _ rfl)) (Nat.not_lt.2 h))
 have hE5 : ∀ j v, (cS_api_Addr a0)[j]? = some v → w18.cell? ⟨g3, 0 + j, none⟩ = some v := fun j v hv => (cell_keep hc18 o1 hn6 (hE5 j v hv))
 have hn6 := q_hn6
 have hM : MS ([g12] ++ (M)) w18 := (hM.chg hc18)
 have hC := hC.trans hc18 (Ok.nil _ _)
 refine seg ha 3 [(2, .pointer (some ⟨g3, 0, none⟩)), (5, .bool t8), (6, .pointer (some ⟨g12, 0, none⟩)), (7, .int .i64 t10.2), (19, .agg (cS_api_Addr t18.1).toArray), (20, .int .i64 t18.2)] (by kernel_rfl) fun a ha => ?_
 refine al (cs := (cS_api_Addr (⟨(0 : Int), (List.replicate 16 (0 : Int))⟩ : S_api_Addr))) (z := .agg (cS_api_Addr (⟨(0 : Int), (List.replicate 16 (0 : Int))⟩ : S_api_Addr)).toArray) ha (fun w => by kernel_rfl) rfl rfl rfl rfl fun a w19 g20 hN21 ha => ?_
 have o1 : Ok [] ([g12] ++ (M)) w18.heap.size := Ok.nil _ _
 have o2 : Ok ([g20] ++ ([g12] ++ (M))) ([g12] ++ (M)) w18.heap.size := (Ok.app (hN21.ok _) (Ok.refl _ _))
 have hG := hG.chg hN21.chg o1 o2
 have hBg12 := hBg12.chg hN21.chg (fun h => nomatch h)
 have q_hn6 : g3 ∉ [g20] ++ ([g12] ++ (M)) := fun h => (o2 g3 h).elim hn6 (fun h => absurd (lt_cell (hE5 0 _ rfl)) (Nat.not_lt.2 h))
 have hE5 : ∀ j v, (cS_api_Addr a0)[j]? = some v → w19.cell? ⟨g3, 0 + j, none⟩ = some v := fun j v hv => (cell_keep hN21.chg o1 hn6 (hE5 j v hv))
 have hn6 := q_hn6
 have p_i22_i14 : ∀ x ∈ [g20], x ∉ ([g12]) := fun x hx hy => absurd (hM x (ml hy)) (Nat.not_lt.2 ((hN21.ge1) x hx))
 have p_i22_M : ∀ x ∈ [g20], x ∉ M := fun x hx hy => absurd (hM x (mr (hy))) (Nat.not_lt.2 ((hN21.ge1) x hx))
 have e_i22 : ∀ x ∈ [g20], w.heap.size ≤ x := fun x hx => Nat.le_trans hC.size ((hN21.ge1) x hx)
 have hM : MS ([g20] ++ ([g12] ++ (M))) w19 := (MS.app hN21.ms (hM.chg hN21.chg))
 have hC := hC.trans hN21.chg (Ok.nil _ _)
 have hBg20 : Box w19 g20 (cS_api_Addr (⟨(0 : Int), (List.replicate 16 (0 : Int))⟩ : S_api_Addr)) := hN21.box
 refine stA (l := (cS_api_Addr t18.1)) ha rfl rfl rfl (by kernel_rfl) rfl rfl hBg20 rfl fun a w23 ha hb2 hc24 _ => ?_
 have o1 : Ok [g20] ([g20] ++ ([g12] ++ (M))) w19.heap.size := (fun _ h => .inl (ml h))
 have o2 : Ok ([g20] ++ ([g12] ++ (M))) ([g20] ++ ([g12] ++ (M))) w19.heap.size := (Ok.refl _ _)
 have hG := hG.chg hc24 o1 o2
 have hBg12 := hBg12.chg hc24 ((fun x (hx : x ∈ [g12]) (hy : x ∈ [g20]) => p_i22_i14 x hy hx) g12 (by simp))
 have q_hn6 : g3 ∉ [g20] ++ ([g12] ++ (M)) := fun h => (o2 g3 h).elim hn6 (fun h => absurd (lt_cell (hE5 0 _ rfl)) (Nat.not_lt.2 h))
 have hE5 : ∀ j v, (cS_api_Addr a0)[j]? = some v → w23.cell? ⟨g3, 0 + j, none⟩ = some v := fun j v hv => (cell_keep hc24 o1 hn6 (hE5 j v hv))
 have hn6 := q_hn6
 have hM : MS ([g20] ++ ([g12] ++ (M))) w23 := (hM.chg hc24)
 have hC := hC.trans hc24 (fun x h => .inr (e_i22 x h))
 have hBg20 : Box w23 g20 (cS_api_Addr t18.1) := hb2
 refine seg ha 1 [(2, .pointer (some ⟨g3, 0, none⟩)), (5, .bool t8), (6, .pointer (some ⟨g12, 0, none⟩)), (7, .int .i64 t10.2), (8, .pointer (some ⟨g20, 0, none⟩)), (9, .int .i64 t18.2)] (by kernel_rfl) fun a ha => ?_
 refine hK17 _ _ ?_; try clear hK17 K17
 refine wp_seq_k fun K25 hK25 => ?_
 refine drq0 (fun w' => Chg [] w23 w') (by kernel_rfl) (by kernel_rfl) (fun _ h => h) ?_
 obtain ⟨s26, H26, H⟩ := bind_some H
 have J26 : ∀ (a : Act) (w26 : World), Has a Tryd.f3.ntmps [(4, .bool s26)] → (Box w26 g12 (cS_api_Addr t10.1)) → (Box w26 g20 (cS_api_Addr t18.1)) → (GF w26 ([g20] ++ ([g12] ++ (M)))) → (Chg [] w w26) → (MS ([g20] ++ ([g12] ++ (M))) w26) → K25 a w26 := by
  intro a w26 ha hBg12 hBg20 hG hC hM
  refine hK25 _ _ ?_; try clear hK25 K25
  refine wp_ret ?_
  try simp only [Exit.then, Exit.inBlock]
  have o1 : Ok [] ([g20] ++ ([g12] ++ (M))) w26.heap.size := Ok.nil _ _
  have o2 : Ok (M) ([g20] ++ ([g12] ++ (M))) w26.heap.size := (fun _ h => .inl (mr (mr (h))))
  have hG := hG.chg (Chg.refl [] _) o1 o2
  have hBg12 := hBg12.chg (Chg.refl [] _) (fun h => nomatch h)
  have hBg20 := hBg20.chg (Chg.refl [] _) (fun h => nomatch h)
  have hM : MS (M) w26 := (fun x h => hM.chg (Chg.refl [] _) x (mr (mr (h))))
  have hC := hC.trans (Chg.refl [] _) (Ok.nil _ _)
  obtain rfl := Option.some.inj H
  refine rt1 ha rfl rfl ?_
  exact ⟨rfl, hC, hM⟩
 have H := H26
 refine qp 0 (.bool t8) ha rfl rfl rfl (by kernel_rfl) fun a ha => ?_
 refine qp 0 (.bool t8) ha rfl rfl rfl (by kernel_rfl) fun a ha => ?_
 have ha := ha.sel (env' := [(22, .bool t8), (2, .pointer (some ⟨g3, 0, none⟩)), (6, .pointer (some ⟨g12, 0, none⟩)), (7, .int .i64 t10.2), (8, .pointer (some ⟨g20, 0, none⟩)), (9, .int .i64 t18.2)]) (by kernel_rfl)
 rcases Bool.eq_false_or_eq_true (t8) with hb27 | hb27
 ·have ha := ha.lit hb27
  have H := ite_t hb27 H
  refine qv (v := .agg (cS_api_Addr a0).toArray) ha rfl rfl rfl (fun w' hs => ldA_run (cs := (cS_api_Addr a0)) ha rfl (by kernel_rfl) (cells_sub (fun j v hv => hs.keep (hE5 j v hv)) (all := (cS_api_Addr a0)) [] [] (by kernel_rfl))) fun a ha => ?_
  obtain ⟨t28, H28, H⟩ := bind_some H
  refine qc (.string (bstr t28)) ha (by rfl) (by kernel_rfl) (by rfl) (by rfl) (by rfl) (fun w' hs => (addr_Text.walk w' [] (MS.nil _) (hG.chg (M' := []) hs (Ok.nil _ _) (Ok.nil _ _)) a0 k _ H28).mono fun v w'' ⟨hv, hc, _⟩ => ⟨hv, hs.trans hc (Ok.nil _ _)⟩) fun a ha => ?_
  refine qv (v := .agg (cS_api_Addr a0).toArray) ha rfl rfl rfl (fun w' hs => ldA_run (cs := (cS_api_Addr a0)) ha rfl (by kernel_rfl) (cells_sub (fun j v hv => hs.keep (hE5 j v hv)) (all := (cS_api_Addr a0)) [] [] (by kernel_rfl))) fun a ha => ?_
  obtain ⟨t29, H29, H⟩ := bind_some H
  refine qc (.string (bstr t29)) ha (by rfl) (by kernel_rfl) (by rfl) (by rfl) (by rfl) (fun w' hs => (vineryref02_Text.walk w' [] (MS.nil _) a0 k _ H29).mono fun v w'' ⟨hv, hc, _⟩ => ⟨hv, hs.trans hc (Ok.nil _ _)⟩) fun a ha => ?_
  refine qp 0 (.bool ((bstr t28).toList == (bstr t29).toList)) ha rfl rfl rfl (by kernel_rfl) fun a ha => ?_
  refine qp 3 (.bool ((bstr t28).toList == (bstr t29).toList)) ha rfl rfl rfl (by kernel_rfl) fun a ha => ?_
  refine qp 0 (.bool ((bstr t28).toList == (bstr t29).toList)) ha rfl rfl rfl (by kernel_rfl) fun a ha => ?_
  have ha := ha.sel (env' := [(29, .bool ((bstr t28).toList == (bstr t29).toList)), (6, .pointer (some ⟨g12, 0, none⟩)), (7, .int .i64 t10.2), (8, .pointer (some ⟨g20, 0, none⟩)), (9, .int .i64 t18.2)]) (by kernel_rfl)
  rcases Bool.eq_false_or_eq_true ((bstr t28).toList == (bstr t29).toList) with hb30 | hb30
  ·have ha := ha.lit hb30
   have H := ite_t hb30 H
   refine qv (v := .agg (cS_api_Addr t10.1).toArray) ha rfl rfl rfl (fun w' hs => ldA_run (cs := (cS_api_Addr t10.1)) ha rfl (by kernel_rfl) (cells_sub (Box.cells (Box.chg hBg12 hs (fun h => nomatch h))) (all := (cS_api_Addr t10.1)) [] [] (by kernel_rfl))) fun a ha => ?_
   refine qv (v := .agg (cS_api_Addr t18.1).toArray) ha rfl rfl rfl (fun w' hs => ldA_run (cs := (cS_api_Addr t18.1)) ha rfl (by kernel_rfl) (cells_sub (Box.cells (Box.chg hBg20 hs (fun h => nomatch h))) (all := (cS_api_Addr t18.1)) [] [] (by kernel_rfl))) fun a ha => ?_
   refine qv (v := .bool ((t10.1.Size == t18.1.Size) && ((eqA 16 t10.1.B t18.1.B) && true))) ha rfl rfl rfl (fun w' hs => eqs_run (r := ((t10.1.Size == t18.1.Size) && ((eqA 16 t10.1.B t18.1.B) && true))) (m := 9) ha rfl rfl (by kernel_rfl) rfl (by kernel_rfl) w') fun a ha => ?_
   refine qp 3 (.bool ((t10.1.Size == t18.1.Size) && ((eqA 16 t10.1.B t18.1.B) && true))) ha rfl rfl rfl (by kernel_rfl) fun a ha => ?_
   refine qp 0 (.bool ((t10.1.Size == t18.1.Size) && ((eqA 16 t10.1.B t18.1.B) && true))) ha rfl rfl rfl (by kernel_rfl) fun a ha => ?_
   have ha := ha.sel (env' := [(34, .bool ((t10.1.Size == t18.1.Size) && ((eqA 16 t10.1.B t18.1.B) && true))), (7, .int .i64 t10.2), (9, .int .i64 t18.2)]) (by kernel_rfl)
   rcases Bool.eq_false_or_eq_true (((t10.1.Size == t18.1.Size) && ((eqA 16 t10.1.B t18.1.B) && true))) with hb31 | hb31
   ·have ha := ha.lit hb31
    have H := ite_t hb31 H
    refine qp 0 (.int .i64 t10.2) ha rfl rfl rfl (by kernel_rfl) fun a ha => ?_
    refine qp 0 (.int .i64 t18.2) ha rfl rfl rfl (by kernel_rfl) fun a ha => ?_
    refine qp 0 (.bool (t10.2 == t18.2)) ha rfl rfl rfl (by kernel_rfl) fun a ha => ?_
    refine qp 3 (.bool (t10.2 == t18.2)) ha rfl rfl rfl (by kernel_rfl) fun a ha => ?_
    refine qp 0 (.bool (t10.2 == t18.2)) ha rfl rfl rfl (by kernel_rfl) fun a ha => ?_
    refine wpQuiet_nil ?_
    intro w32 hc33
    have o1 : Ok [] ([g20] ++ ([g12] ++ (M))) w23.heap.size := Ok.nil _ _
    have o2 : Ok ([g20] ++ ([g12] ++ (M))) ([g20] ++ ([g12] ++ (M))) w23.heap.size := (Ok.refl _ _)
    have hG := hG.chg hc33 o1 o2
    have hBg12 := hBg12.chg hc33 (fun h => nomatch h)
    have hBg20 := hBg20.chg hc33 (fun h => nomatch h)
    have hM : MS ([g20] ++ ([g12] ++ (M))) w32 := (hM.chg hc33)
    have hC := hC.trans hc33 (Ok.nil _ _)
    refine wpl_end ?_
    obtain rfl := Option.some.inj H
    exact J26 _ _ (ha.sel (by kernel_rfl)) hBg12 hBg20 hG hC hM
   ·have ha := ha.lit hb31
    have H := ite_f hb31 H
    refine qo ha rfl rfl rfl fun a ha => ?_
    refine qo ha rfl rfl rfl fun a ha => ?_
    refine qo ha rfl rfl rfl fun a ha => ?_
    refine qp 4 (.bool false) ha rfl rfl rfl (by kernel_rfl) fun a ha => ?_
    refine qp 0 (.bool false) ha rfl rfl rfl (by kernel_rfl) fun a ha => ?_
    refine wpQuiet_nil ?_
    intro w34 hc35
    have o1 : Ok [] ([g20] ++ ([g12] ++ (M))) w23.heap.size := Ok.nil _ _
    have o2 : Ok ([g20] ++ ([g12] ++ (M))) ([g20] ++ ([g12] ++ (M))) w23.heap.size := (Ok.refl _ _)
    have hG := hG.chg hc35 o1 o2
    have hBg12 := hBg12.chg hc35 (fun h => nomatch h)
    have hBg20 := hBg20.chg hc35 (fun h => nomatch h)
    have hM : MS ([g20] ++ ([g12] ++ (M))) w34 := (hM.chg hc35)
    have hC := hC.trans hc35 (Ok.nil _ _)
    refine wpl_end ?_
    obtain rfl := Option.some.inj H
    exact J26 _ _ (ha.sel (by kernel_rfl)) hBg12 hBg20 hG hC hM
  ·have ha := ha.lit hb30
   have H := ite_f hb30 H
   refine qo ha rfl rfl rfl fun a ha => ?_
   refine qo ha rfl rfl rfl fun a ha => ?_
   refine qo ha rfl rfl rfl fun a ha => ?_
   refine qp 4 (.bool false) ha rfl rfl rfl (by kernel_rfl) fun a ha => ?_
   refine qp 0 (.bool false) ha rfl rfl rfl (by kernel_rfl) fun a ha => ?_
   refine qo ha rfl rfl rfl fun a ha => ?_
   refine qo ha rfl rfl rfl fun a ha => ?_
   refine qo ha rfl rfl rfl fun a ha => ?_
   refine qp 4 (.bool false) ha rfl rfl rfl (by kernel_rfl) fun a ha => ?_
   refine qp 0 (.bool false) ha rfl rfl rfl (by kernel_rfl) fun a ha => ?_
   refine wpQuiet_nil ?_
   intro w36 hc37
   have o1 : Ok [] ([g20] ++ ([g12] ++ (M))) w23.heap.size := Ok.nil _ _
   have o2 : Ok ([g20] ++ ([g12] ++ (M))) ([g20] ++ ([g12] ++ (M))) w23.heap.size := (Ok.refl _ _)
   have hG := hG.chg hc37 o1 o2
   have hBg12 := hBg12.chg hc37 (fun h => nomatch h)
   have hBg20 := hBg20.chg hc37 (fun h => nomatch h)
   have hM : MS ([g20] ++ ([g12] ++ (M))) w36 := (hM.chg hc37)
   have hC := hC.trans hc37 (Ok.nil _ _)
   refine wpl_end ?_
   obtain rfl := Option.some.inj H
   exact J26 _ _ (ha.sel (by kernel_rfl)) hBg12 hBg20 hG hC hM
 ·have ha := ha.lit hb27
  have H := ite_f hb27 H
  refine qo ha rfl rfl rfl fun a ha => ?_
  refine qo ha rfl rfl rfl fun a ha => ?_
  refine qo ha rfl rfl rfl fun a ha => ?_
  refine qo ha rfl rfl rfl fun a ha => ?_
  refine qo ha rfl rfl rfl fun a ha => ?_
  refine qp 4 (.bool false) ha rfl rfl rfl (by kernel_rfl) fun a ha => ?_
  refine qp 0 (.bool false) ha rfl rfl rfl (by kernel_rfl) fun a ha => ?_
  refine qo ha rfl rfl rfl fun a ha => ?_
  refine qo ha rfl rfl rfl fun a ha => ?_
  refine qo ha rfl rfl rfl fun a ha => ?_
  refine qp 4 (.bool false) ha rfl rfl rfl (by kernel_rfl) fun a ha => ?_
  refine qp 0 (.bool false) ha rfl rfl rfl (by kernel_rfl) fun a ha => ?_
  refine qo ha rfl rfl rfl fun a ha => ?_
  refine qo ha rfl rfl rfl fun a ha => ?_
  refine qo ha rfl rfl rfl fun a ha => ?_
  refine qp 4 (.bool false) ha rfl rfl rfl (by kernel_rfl) fun a ha => ?_
  refine qp 0 (.bool false) ha rfl rfl rfl (by kernel_rfl) fun a ha => ?_
  refine wpQuiet_nil ?_
  intro w38 hc39
  have o1 : Ok [] ([g20] ++ ([g12] ++ (M))) w23.heap.size := Ok.nil _ _
  have o2 : Ok ([g20] ++ ([g12] ++ (M))) ([g20] ++ ([g12] ++ (M))) w23.heap.size := (Ok.refl _ _)
  have hG := hG.chg hc39 o1 o2
  have hBg12 := hBg12.chg hc39 (fun h => nomatch h)
  have hBg20 := hBg20.chg hc39 (fun h => nomatch h)
  have q_hn6 : g3 ∉ [g20] ++ ([g12] ++ (M)) := fun h => (o2 g3 h).elim hn6 (fun h => absurd (lt_cell (hE5 0 _ rfl)) (Nat.not_lt.2 h))
  have hE5 : ∀ j v, (cS_api_Addr a0)[j]? = some v → w38.cell? ⟨g3, 0 + j, none⟩ = some v := fun j v hv => (cell_keep hc39 o1 hn6 (hE5 j v hv))
  have hn6 := q_hn6
  have hM : MS ([g20] ++ ([g12] ++ (M))) w38 := (hM.chg hc39)
  have hC := hC.trans hc39 (Ok.nil _ _)
  refine wpl_end ?_
  obtain rfl := Option.some.inj H
  exact J26 _ _ (ha.sel (by kernel_rfl)) hBg12 hBg20 hG hC hM
end Go.E
