/- What the functions that the law reaches compute, and the walks that show it. -/
import Derived.Test.YtcejhnpncodkjaaGreatDoorEngU
import Derived.Test.YtcejhnpncodkjaaGreatDoorShelf
import Derived.Test.YtcejhnpncodkjaaGreatDoorEngX
import Derived.Test.YtcejhnpncodkjaaGreatDoorEngY
import Derived.Test.YtcejhnpncodkjaaGreatDoorProg
import Derived.Test.YtcejhnpncodkjaaGreatDoorGenCommunityMakesP1
set_option linter.unusedVariables false
set_option linter.unusedSimpArgs false
namespace Go.E
open Go.RowKit Go.Proofs
def community_Text.l0 (a0 : List Int) : Nat → (List Int) → Int → Option (List Int)
  | 0, _, _ => none
  | kk + 1, x65, x66 => (if (decide (x66 < (8 : Int))) = true then (if 0 ≤ x66 ∧ x66 < (8 : Int) then (if 0 ≤ (Int.fdiv (ar a0 (Int.toNat x66)) (2 ^ (min (4 : Int).toNat IntKind.u8.bits))) ∧ (Int.fdiv (ar a0 (Int.toNat x66)) (2 ^ (min (4 : Int).toNat IntKind.u8.bits))) < (([48, 49, 50, 51, 52, 53, 54, 55, 56, 57, 97, 98, 99, 100, 101, 102] : List UInt8).length : Int) then (if 0 ≤ (IntKind.u8.wrap (BitVec.ofInt IntKind.u8.bits (ar a0 (Int.toNat x66)) &&& BitVec.ofInt IntKind.u8.bits (15 : Int)).toNat) ∧ (IntKind.u8.wrap (BitVec.ofInt IntKind.u8.bits (ar a0 (Int.toNat x66)) &&& BitVec.ofInt IntKind.u8.bits (15 : Int)).toNat) < (([48, 49, 50, 51, 52, 53, 54, 55, 56, 57, 97, 98, 99, 100, 101, 102] : List UInt8).length : Int) then (if (x65.length + ([((([48, 49, 50, 51, 52, 53, 54, 55, 56, 57, 97, 98, 99, 100, 101, 102] : List UInt8).getD (Int.toNat (Int.fdiv (ar a0 (Int.toNat x66)) (2 ^ (min (4 : Int).toNat IntKind.u8.bits)))) 0).toNat : Int), ((([48, 49, 50, 51, 52, 53, 54, 55, 56, 57, 97, 98, 99, 100, 101, 102] : List UInt8).getD (Int.toNat (IntKind.u8.wrap (BitVec.ofInt IntKind.u8.bits (ar a0 (Int.toNat x66)) &&& BitVec.ofInt IntKind.u8.bits (15 : Int)).toNat)) 0).toNat : Int)] : List Int).length) * 1 ≤ 140737488355328 then community_Text.l0 a0 kk (x65 ++ ([((([48, 49, 50, 51, 52, 53, 54, 55, 56, 57, 97, 98, 99, 100, 101, 102] : List UInt8).getD (Int.toNat (Int.fdiv (ar a0 (Int.toNat x66)) (2 ^ (min (4 : Int).toNat IntKind.u8.bits)))) 0).toNat : Int), ((([48, 49, 50, 51, 52, 53, 54, 55, 56, 57, 97, 98, 99, 100, 101, 102] : List UInt8).getD (Int.toNat (IntKind.u8.wrap (BitVec.ofInt IntKind.u8.bits (ar a0 (Int.toNat x66)) &&& BitVec.ofInt IntKind.u8.bits (15 : Int)).toNat)) 0).toNat : Int)] : List Int)) (IntKind.i64.wrap (x66 + (1 : Int))) else none) else none) else none) else none) else some (x65 : List Int))
def community_Text.f (k : Nat) (a0 : List Int) : Option (List UInt8) := (community_Kind.f a0).bind fun t8 => (if (t8 == (1 : Int)) = true then (if 0 ≤ (2 : Int) ∧ (2 : Int) ≤ (8 : Int) ∧ (8 : Int) ≤ (8 : Int) then (rd_Text.f k ((arL 8 ([(0 : Int), ar a0 0, (0 : Int), (0 : Int), (0 : Int), (0 : Int), (0 : Int), (0 : Int)] : List Int)).take 2 ++ arC 6 ((arL 8 ([(0 : Int), ar a0 0, (0 : Int), (0 : Int), (0 : Int), (0 : Int), (0 : Int), (0 : Int)] : List Int)).drop 2) (((arL 8 a0).take (Int.toNat (8 : Int))).drop (Int.toNat (2 : Int))))).bind fun t27 => (if (([114, 116, 58] : List UInt8) ++ t27).length ≤ 9223372036854775807 then some ((([114, 116, 58] : List UInt8) ++ t27 : List UInt8)) else none) else none) else (if (t8 == (2 : Int)) = true then (community_Importer.f k a0).bind fun t32 => (addr_Text.f k t32.1).bind fun t40 => (if (([105, 109, 112, 111, 114, 116, 58] : List UInt8) ++ t40).length ≤ 9223372036854775807 then (if ((([105, 109, 112, 111, 114, 116, 58] : List UInt8) ++ t40) ++ ([58] : List UInt8)).length ≤ 9223372036854775807 then (strconv_Itoa.f t32.2.1).bind fun t43 => (if (((([105, 109, 112, 111, 114, 116, 58] : List UInt8) ++ t40) ++ ([58] : List UInt8)) ++ t43).length ≤ 9223372036854775807 then some ((((([105, 109, 112, 111, 114, 116, 58] : List UInt8) ++ t40) ++ ([58] : List UInt8)) ++ t43 : List UInt8)) else none) else none) else none) else (if (t8 == (3 : Int)) = true then (community_AS.f k a0).bind fun t48 => (strconv_Itoa.f t48.1).bind fun t50 => (if (([115, 111, 117, 114, 99, 101, 58] : List UInt8) ++ t50).length ≤ 9223372036854775807 then some ((([115, 111, 117, 114, 99, 101, 58] : List UInt8) ++ t50 : List UInt8)) else none) else (community_Text.l0 a0 k ([(111 : Int), (116 : Int), (104 : Int), (101 : Int), (114 : Int), (58 : Int)] : List Int) (0 : Int)).bind fun s63 => some ((b2s s63 : List UInt8)))))
set_option maxRecDepth 100000 in
theorem community_Text.walk (w : World) (M : List Nat) (hM : MS M w) (hG : GF w M) (a0 : List Int) (k : Nat) (r : List UInt8) (H : community_Text.f k a0 = some r) :
    To Tryz.prog 35 [.agg (cA .u8 8 a0).toArray] w fun v w' => v = .string (bstr r) ∧ Chg [] w w' ∧ MS (M) w' := by
 unfold community_Text.f at H
 refine ent Tryz.func35 rfl [(0, .agg (cA .u8 8 a0).toArray)] rfl (by rfl) fun a ha => ?_
 have hC : Chg [] w w := Chg.refl _ _
 refine wp_seq_k fun K1 hK1 => ?_
 refine wp_region_lit ?_
 refine bx (cs := (cA .u8 8 a0)) ha rfl rfl rfl rfl rfl fun a w2 g3 hN4 ha => ?_
 have o1 : Ok [] (M) w.heap.size := Ok.nil _ _
 have o2 : Ok ([g3] ++ (M)) (M) w.heap.size := (Ok.app (hN4.ok _) (Ok.refl _ _))
 have hG := hG.chg hN4.chg o1 o2
 have p_i5_M : ∀ x ∈ [g3], x ∉ M := fun x hx hy => absurd (hM x (hy)) (Nat.not_lt.2 ((hN4.ge1) x hx))
 have e_i5 : ∀ x ∈ [g3], w.heap.size ≤ x := fun x hx => Nat.le_trans hC.size ((hN4.ge1) x hx)
 have hM : MS ([g3] ++ (M)) w2 := (MS.app hN4.ms (hM.chg hN4.chg))
 have hC := hC.trans hN4.chg (Ok.nil _ _)
 have hBg3 : Box w2 g3 (cA .u8 8 a0) := hN4.box
 refine seg ha 1 [(1, .pointer (some ⟨g3, 0, none⟩))] (by kernel_rfl) fun a ha => ?_
 refine hK1 _ _ ?_; try clear hK1 K1
 refine wp_seq_k fun K6 hK6 => ?_
 refine wp_seq_k fun K7 hK7 => ?_
 refine wp_region_lit ?_
 refine ldA (cs := (cA .u8 8 a0)) ha rfl (by kernel_rfl) rfl rfl rfl (cells_sub (Box.cells hBg3) (all := (cA .u8 8 a0)) [] [] (by kernel_rfl)) fun a ha => ?_
 obtain ⟨t8, H8, H⟩ := bind_some H
 refine cl ha (by rfl) (by kernel_rfl) (by rfl) (by rfl) (by rfl) (community_Kind.walk w2 _ hM a0 _ H8) ?_
 rintro _ w8 ⟨rfl, hc8, hMn⟩ a ha
 have o1 : Ok [] ([g3] ++ (M)) w2.heap.size := Ok.nil _ _
 have o2 : Ok ([g3] ++ (M)) ([g3] ++ (M)) w2.heap.size := (Ok.refl _ _)
 have hG := hG.chg hc8 o1 o2
 have hBg3 := hBg3.chg hc8 (fun h => nomatch h)
 have hM : MS ([g3] ++ (M)) w8 := (hM.chg hc8)
 have hC := hC.trans hc8 (Ok.nil _ _)
 refine hK7 _ _ ?_; try clear hK7 K7
 refine wp_block ?_
 refine wp_seq_k fun K9 hK9 => ?_
 refine wp_region_lit ?_
 refine seg ha 2 [(1, .pointer (some ⟨g3, 0, none⟩)), (13, .int .i64 t8), (14, .bool (t8 == (1 : Int)))] (by kernel_rfl) fun a ha => ?_
 refine hK9 _ _ ?_; try clear hK9 K9
 refine cnd ha rfl (fun hc10 => ?_) (fun hc10 => ?_)
 ·have H := ite_t hc10 H
  refine wp_seq_k fun K11 hK11 => ?_
  refine wp_region_lit ?_
  have hi12 : 0 < 8 := by decide
  refine hop (v := .pointer (some ⟨g3, 0 + 0, none⟩)) (w' := w8) ha rfl rfl rfl (ixA_run (T := 5) (N := 8) (g := g3) (o' := 0) (k := .i64) (i := (0 : Int)) ha (by kernel_rfl) (by kernel_rfl) (by rfl) (by rfl) (by decide) (by decide) _) fun a ha => ?_
  refine ld (v := .int .u8 (ar a0 0)) ha rfl (by kernel_rfl) rfl rfl rfl (hBg3.cell' (o := 0 + 0) rfl (arr_cell (k := .u8) (m := 8) (x := a0) ([] : List Value) ([] : List Value) (by kernel_rfl) hi12)) fun a ha => ?_
  refine opk (v := .agg (cA .u8 8 ([(0 : Int), ar a0 0, (0 : Int), (0 : Int), (0 : Int), (0 : Int), (0 : Int), (0 : Int)] : List Int)).toArray) ha rfl rfl rfl rfl rfl (fun w => by kernel_rfl) fun a ha => ?_
  refine al (cs := (cA .u8 8 (List.replicate 8 (0 : Int)))) (z := .agg (cA .u8 8 (List.replicate 8 (0 : Int))).toArray) ha (fun w => by kernel_rfl) rfl rfl rfl rfl fun a w13 g14 hN15 ha => ?_
  have o1 : Ok [] ([g3] ++ (M)) w8.heap.size := Ok.nil _ _
  have o2 : Ok ([g14] ++ ([g3] ++ (M))) ([g3] ++ (M)) w8.heap.size := (Ok.app (hN15.ok _) (Ok.refl _ _))
  have hG := hG.chg hN15.chg o1 o2
  have hBg3 := hBg3.chg hN15.chg (fun h => nomatch h)
  have p_i16_i5 : ∀ x ∈ [g14], x ∉ ([g3]) := fun x hx hy => absurd (hM x (ml hy)) (Nat.not_lt.2 ((hN15.ge1) x hx))
  have p_i16_M : ∀ x ∈ [g14], x ∉ M := fun x hx hy => absurd (hM x (mr (hy))) (Nat.not_lt.2 ((hN15.ge1) x hx))
  have e_i16 : ∀ x ∈ [g14], w.heap.size ≤ x := fun x hx => Nat.le_trans hC.size ((hN15.ge1) x hx)
  have hM : MS ([g14] ++ ([g3] ++ (M))) w13 := (MS.app hN15.ms (hM.chg hN15.chg))
  have hC := hC.trans hN15.chg (Ok.nil _ _)
  have hBg14 : Box w13 g14 (cA .u8 8 (List.replicate 8 (0 : Int))) := hN15.box
  refine stA (l := (cA .u8 8 ([(0 : Int), ar a0 0, (0 : Int), (0 : Int), (0 : Int), (0 : Int), (0 : Int), (0 : Int)] : List Int))) ha rfl rfl rfl (by kernel_rfl) rfl rfl hBg14 rfl fun a w17 ha hb2 hc18 _ => ?_
  have o1 : Ok [g14] ([g14] ++ ([g3] ++ (M))) w13.heap.size := (fun _ h => .inl (ml h))
  have o2 : Ok ([g14] ++ ([g3] ++ (M))) ([g14] ++ ([g3] ++ (M))) w13.heap.size := (Ok.refl _ _)
  have hG := hG.chg hc18 o1 o2
  have hBg3 := hBg3.chg hc18 ((fun x (hx : x ∈ [g3]) (hy : x ∈ [g14]) => p_i16_i5 x hy hx) g3 (by simp))
  have hM : MS ([g14] ++ ([g3] ++ (M))) w17 := (hM.chg hc18)
  have hC := hC.trans hc18 (fun x h => .inr (e_i16 x h))
  have hBg14 : Box w17 g14 (cA .u8 8 ([(0 : Int), ar a0 0, (0 : Int), (0 : Int), (0 : Int), (0 : Int), (0 : Int), (0 : Int)] : List Int)) := hb2
  refine hK11 _ _ ?_; try clear hK11 K11
  refine wp_seq_k fun K19 hK19 => ?_
  refine drq 2 (fun w' => Chg [] w17 w') (by kernel_rfl) (by kernel_rfl) (fun _ h => h) ?_
  refine qv (v := .slice (some ⟨g14, 2, none⟩) 6 6) ha rfl rfl rfl (fun w' hs => opk_run ha rfl rfl (fun w => by kernel_rfl)) fun a ha => ?_
  have fw20 : RSl (rInt .u8) 5 w17 (butL g3 w17) (some ⟨g3, 0, none⟩) 8 (arL 8 a0) := RSl.ofA ([] : List Value) ([] : List Value) (Box.cells hBg3) butL_self (by kernel_rfl) rfl
  obtain ⟨⟨hx21, hx21', hx21''⟩, H⟩ := ite_some H
  obtain ⟨ao21, cap21, f21, hr21⟩ := slA_run (kk := .u8) (T := 5) (N := 8) (g := g3) (o' := 0) (xs := (arL 8 a0)) (t := 27) (lo := (Option.some (Operand.const (Value.int IntKind.i64 2)))) (hi := Option.none) (l := (2 : Int)) (h := (8 : Int)) (dd := some 20) (ty := 36) (pos := "text.go:19") (af := #[]) (gd := Option.none) ha (by kernel_rfl) (by kernel_rfl) (x := (Operand.tmp 1)) rfl (arL_length _ _) rfl rfl fw20 hx21 hx21' (by rw [arL_length]; exact hx21'')
  refine qv (v := .slice ao21 (((arL 8 a0).take (Int.toNat (8 : Int))).drop (Int.toNat (2 : Int))).length cap21) ha rfl rfl rfl (fun w' hs => hr21 w') fun a ha => ?_
  refine wpQuiet_nil ?_
  intro w22 hc23
  have o1 : Ok [] ([g14] ++ ([g3] ++ (M))) w17.heap.size := Ok.nil _ _
  have o2 : Ok ([g14] ++ ([g3] ++ (M))) ([g14] ++ ([g3] ++ (M))) w17.heap.size := (Ok.refl _ _)
  have hG := hG.chg hc23 o1 o2
  have f21 := f21.chg (M' := butL g3 w22) hc23 (Ok.nil _ _) butL_chg
  have hBg3 := hBg3.chg hc23 (fun h => nomatch h)
  have hBg14 := hBg14.chg hc23 (fun h => nomatch h)
  have hM : MS ([g14] ++ ([g3] ++ (M))) w22 := (hM.chg hc23)
  have hC := hC.trans hc23 (Ok.nil _ _)
  refine cpyA (T := 5) (k := .u8) (x0 := ((arL 8 ([(0 : Int), ar a0 0, (0 : Int), (0 : Int), (0 : Int), (0 : Int), (0 : Int), (0 : Int)] : List Int)).drop 2)) (N := 6) ([.int .u8 (ar ([(0 : Int), ar a0 0, (0 : Int), (0 : Int), (0 : Int), (0 : Int), (0 : Int), (0 : Int)] : List Int) 0), .int .u8 (ar ([(0 : Int), ar a0 0, (0 : Int), (0 : Int), (0 : Int), (0 : Int), (0 : Int), (0 : Int)] : List Int) 1)] : List Value) ([] : List Value) ha (by kernel_rfl) (by kernel_rfl) rfl rfl rfl rfl rfl hBg14 (by kernel_rfl) f21 fun a w24 hb2 hc25 ha => ?_
  have o1 : Ok [g14] ([g14] ++ ([g3] ++ (M))) w22.heap.size := (fun _ h => .inl (ml h))
  have o2 : Ok ([g14] ++ ([g3] ++ (M))) ([g14] ++ ([g3] ++ (M))) w22.heap.size := (Ok.refl _ _)
  have hG := hG.chg hc25 o1 o2
  have f21 := f21.chg (M' := butL g3 w24) hc25 (butL_ok (fun x hx0 e0 => (fun x (hx : x ∈ [g3]) (hy : x ∈ [g14]) => p_i16_i5 x hy hx) x (by rw [e0]; exact List.mem_singleton.2 rfl) hx0)) butL_chg
  have hBg3 := hBg3.chg hc25 ((fun x (hx : x ∈ [g3]) (hy : x ∈ [g14]) => p_i16_i5 x hy hx) g3 (by simp))
  have hM : MS ([g14] ++ ([g3] ++ (M))) w24 := (hM.chg hc25)
  have hC := hC.trans hc25 (fun x h => .inr (e_i16 x h))
  have hBg14 : Box w24 g14 (cA .u8 8 ((arL 8 ([(0 : Int), ar a0 0, (0 : Int), (0 : Int), (0 : Int), (0 : Int), (0 : Int), (0 : Int)] : List Int)).take 2 ++ arC 6 ((arL 8 ([(0 : Int), ar a0 0, (0 : Int), (0 : Int), (0 : Int), (0 : Int), (0 : Int), (0 : Int)] : List Int)).drop 2) (((arL 8 a0).take (Int.toNat (8 : Int))).drop (Int.toNat (2 : Int))))) := hb2.cast (by kernel_rfl)
  refine hK19 _ _ ?_; try clear hK19 K19
  refine wp_seq_k fun K26 hK26 => ?_
  refine wp_region_lit ?_
  refine ldA (cs := (cA .u8 8 ((arL 8 ([(0 : Int), ar a0 0, (0 : Int), (0 : Int), (0 : Int), (0 : Int), (0 : Int), (0 : Int)] : List Int)).take 2 ++ arC 6 ((arL 8 ([(0 : Int), ar a0 0, (0 : Int), (0 : Int), (0 : Int), (0 : Int), (0 : Int), (0 : Int)] : List Int)).drop 2) (((arL 8 a0).take (Int.toNat (8 : Int))).drop (Int.toNat (2 : Int)))))) ha rfl (by kernel_rfl) rfl rfl rfl (cells_sub (Box.cells hBg14) (all := (cA .u8 8 ((arL 8 ([(0 : Int), ar a0 0, (0 : Int), (0 : Int), (0 : Int), (0 : Int), (0 : Int), (0 : Int)] : List Int)).take 2 ++ arC 6 ((arL 8 ([(0 : Int), ar a0 0, (0 : Int), (0 : Int), (0 : Int), (0 : Int), (0 : Int), (0 : Int)] : List Int)).drop 2) (((arL 8 a0).take (Int.toNat (8 : Int))).drop (Int.toNat (2 : Int)))))) [] [] (by kernel_rfl)) fun a ha => ?_
  obtain ⟨t27, H27, H⟩ := bind_some H
  refine cl ha (by rfl) (by kernel_rfl) (by rfl) (by rfl) (by rfl) (rd_Text.walk w24 _ hM hG ((arL 8 ([(0 : Int), ar a0 0, (0 : Int), (0 : Int), (0 : Int), (0 : Int), (0 : Int), (0 : Int)] : List Int)).take 2 ++ arC 6 ((arL 8 ([(0 : Int), ar a0 0, (0 : Int), (0 : Int), (0 : Int), (0 : Int), (0 : Int), (0 : Int)] : List Int)).drop 2) (((arL 8 a0).take (Int.toNat (8 : Int))).drop (Int.toNat (2 : Int)))) k _ H27) ?_
  rintro _ w27 ⟨rfl, hc27, hMn⟩ a ha
  have o1 : Ok [] ([g14] ++ ([g3] ++ (M))) w24.heap.size := Ok.nil _ _
  have o2 : Ok ([g14] ++ ([g3] ++ (M))) ([g14] ++ ([g3] ++ (M))) w24.heap.size := (Ok.refl _ _)
  have hG := hG.chg hc27 o1 o2
  have hBg3 := hBg3.chg hc27 (fun h => nomatch h)
  have hBg14 := hBg14.chg hc27 (fun h => nomatch h)
  have hM : MS ([g14] ++ ([g3] ++ (M))) w27 := (hM.chg hc27)
  have hC := hC.trans hc27 (Ok.nil _ _)
  obtain ⟨hx28, H⟩ := ite_some H
  refine sadd ha rfl rfl rfl rfl rfl hx28 fun a ha => ?_
  refine seg ha 1 [(2, .string (bstr (([114, 116, 58] : List UInt8) ++ t27)))] (by kernel_rfl) fun a ha => ?_
  refine hK26 _ _ ?_; try clear hK26 K26
  refine wp_ret ?_
  try simp only [Exit.then, Exit.inBlock]
  have o1 : Ok [] ([g14] ++ ([g3] ++ (M))) w27.heap.size := Ok.nil _ _
  have o2 : Ok (M) ([g14] ++ ([g3] ++ (M))) w27.heap.size := (fun _ h => .inl (mr (mr (h))))
  have hG := hG.chg (Chg.refl [] _) o1 o2
  have hBg3 := hBg3.chg (Chg.refl [] _) (fun h => nomatch h)
  have hBg14 := hBg14.chg (Chg.refl [] _) (fun h => nomatch h)
  have hM : MS (M) w27 := (fun x h => hM.chg (Chg.refl [] _) x (mr (mr (h))))
  have hC := hC.trans (Chg.refl [] _) (Ok.nil _ _)
  obtain rfl := Option.some.inj H
  refine rt1 ha rfl rfl ?_
  exact ⟨rfl, hC, hM⟩
 ·have H := ite_f hc10 H
  refine wp_seq_k fun K29 hK29 => ?_
  refine wp_region_lit ?_
  refine seg ha 2 [(1, .pointer (some ⟨g3, 0, none⟩)), (13, .int .i64 t8), (25, .bool (t8 == (2 : Int)))] (by kernel_rfl) fun a ha => ?_
  refine hK29 _ _ ?_; try clear hK29 K29
  refine cnd ha rfl (fun hc30 => ?_) (fun hc30 => ?_)
  ·have H := ite_t hc30 H
   refine wp_seq_k fun K31 hK31 => ?_
   refine wp_region_lit ?_
   refine ldA (cs := (cA .u8 8 a0)) ha rfl (by kernel_rfl) rfl rfl rfl (cells_sub (Box.cells hBg3) (all := (cA .u8 8 a0)) [] [] (by kernel_rfl)) fun a ha => ?_
   obtain ⟨t32, H32, H⟩ := bind_some H
   refine cl ha (by rfl) (by kernel_rfl) (by rfl) (by rfl) (by rfl) (community_Importer.walk w8 _ hM a0 k _ H32) ?_
   rintro _ w32 ⟨rfl, hc32, hMn⟩ a ha
   have o1 : Ok [] ([g3] ++ (M)) w8.heap.size := Ok.nil _ _
   have o2 : Ok ([g3] ++ (M)) ([g3] ++ (M)) w8.heap.size := (Ok.refl _ _)
   have hG := hG.chg hc32 o1 o2
   have hBg3 := hBg3.chg hc32 (fun h => nomatch h)
   have hM : MS ([g3] ++ (M)) w32 := (hM.chg hc32)
   have hC := hC.trans hc32 (Ok.nil _ _)
   refine seg ha 4 [(30, .agg (cS_api_Addr t32.1).toArray), (31, .int .i64 t32.2.1), (32, .bool t32.2.2)] (by kernel_rfl) fun a ha => ?_
   refine al (cs := (cS_api_Addr (⟨(0 : Int), (List.replicate 16 (0 : Int))⟩ : S_api_Addr))) (z := .agg (cS_api_Addr (⟨(0 : Int), (List.replicate 16 (0 : Int))⟩ : S_api_Addr)).toArray) ha (fun w => by kernel_rfl) rfl rfl rfl rfl fun a w33 g34 hN35 ha => ?_
   have o1 : Ok [] ([g3] ++ (M)) w32.heap.size := Ok.nil _ _
   have o2 : Ok ([g34] ++ ([g3] ++ (M))) ([g3] ++ (M)) w32.heap.size := (Ok.app (hN35.ok _) (Ok.refl _ _))
   have hG := hG.chg hN35.chg o1 o2
   have hBg3 := hBg3.chg hN35.chg (fun h => nomatch h)
   have p_i36_i5 : ∀ x ∈ [g34], x ∉ ([g3]) := fun x hx hy => absurd (hM x (ml hy)) (Nat.not_lt.2 ((hN35.ge1) x hx))
   have p_i36_M : ∀ x ∈ [g34], x ∉ M := fun x hx hy => absurd (hM x (mr (hy))) (Nat.not_lt.2 ((hN35.ge1) x hx))
   have e_i36 : ∀ x ∈ [g34], w.heap.size ≤ x := fun x hx => Nat.le_trans hC.size ((hN35.ge1) x hx)
   have hM : MS ([g34] ++ ([g3] ++ (M))) w33 := (MS.app hN35.ms (hM.chg hN35.chg))
   have hC := hC.trans hN35.chg (Ok.nil _ _)
   have hBg34 : Box w33 g34 (cS_api_Addr (⟨(0 : Int), (List.replicate 16 (0 : Int))⟩ : S_api_Addr)) := hN35.box
   refine stA (l := (cS_api_Addr t32.1)) ha rfl rfl rfl (by kernel_rfl) rfl rfl hBg34 rfl fun a w37 ha hb2 hc38 _ => ?_
   have o1 : Ok [g34] ([g34] ++ ([g3] ++ (M))) w33.heap.size := (fun _ h => .inl (ml h))
   have o2 : Ok ([g34] ++ ([g3] ++ (M))) ([g34] ++ ([g3] ++ (M))) w33.heap.size := (Ok.refl _ _)
   have hG := hG.chg hc38 o1 o2
   have hBg3 := hBg3.chg hc38 ((fun x (hx : x ∈ [g3]) (hy : x ∈ [g34]) => p_i36_i5 x hy hx) g3 (by simp))
   have hM : MS ([g34] ++ ([g3] ++ (M))) w37 := (hM.chg hc38)
   have hC := hC.trans hc38 (fun x h => .inr (e_i36 x h))
   have hBg34 : Box w37 g34 (cS_api_Addr t32.1) := hb2
   refine seg ha 2 [(4, .pointer (some ⟨g34, 0, none⟩)), (5, .int .i64 t32.2.1)] (by kernel_rfl) fun a ha => ?_
   refine hK31 _ _ ?_; try clear hK31 K31
   refine wp_seq_k fun K39 hK39 => ?_
   refine wp_region_lit ?_
   refine ldA (cs := (cS_api_Addr t32.1)) ha rfl (by kernel_rfl) rfl rfl rfl (cells_sub (Box.cells hBg34) (all := (cS_api_Addr t32.1)) [] [] (by kernel_rfl)) fun a ha => ?_
   obtain ⟨t40, H40, H⟩ := bind_some H
   refine cl ha (by rfl) (by kernel_rfl) (by rfl) (by rfl) (by rfl) (addr_Text.walk w37 _ hM hG t32.1 k _ H40) ?_
   rintro _ w40 ⟨rfl, hc40, hMn⟩ a ha
   have o1 : Ok [] ([g34] ++ ([g3] ++ (M))) w37.heap.size := Ok.nil _ _
   have o2 : Ok ([g34] ++ ([g3] ++ (M))) ([g34] ++ ([g3] ++ (M))) w37.heap.size := (Ok.refl _ _)
   have hG := hG.chg hc40 o1 o2
   have hBg3 := hBg3.chg hc40 (fun h => nomatch h)
   have hBg34 := hBg34.chg hc40 (fun h => nomatch h)
   have hM : MS ([g34] ++ ([g3] ++ (M))) w40 := (hM.chg hc40)
   have hC := hC.trans hc40 (Ok.nil _ _)
   obtain ⟨hx41, H⟩ := ite_some H
   refine sadd ha rfl rfl rfl rfl rfl hx41 fun a ha => ?_
   obtain ⟨hx42, H⟩ := ite_some H
   refine sadd ha rfl rfl rfl rfl rfl hx42 fun a ha => ?_
   refine seg ha 1 [(36, .string (bstr ((([105, 109, 112, 111, 114, 116, 58] : List UInt8) ++ t40) ++ ([58] : List UInt8)))), (37, .int .i64 t32.2.1)] (by kernel_rfl) fun a ha => ?_
   obtain ⟨t43, H43, H⟩ := bind_some H
   refine cl ha (by rfl) (by kernel_rfl) (by rfl) (by rfl) (by rfl) (strconv_Itoa.walk w40 _ hM hG t32.2.1 _ H43) ?_
   rintro _ w43 ⟨rfl, hc43, hMn⟩ a ha
   have o1 : Ok [] ([g34] ++ ([g3] ++ (M))) w40.heap.size := Ok.nil _ _
   have o2 : Ok ([g34] ++ ([g3] ++ (M))) ([g34] ++ ([g3] ++ (M))) w40.heap.size := (Ok.refl _ _)
   have hG := hG.chg hc43 o1 o2
   have hBg3 := hBg3.chg hc43 (fun h => nomatch h)
   have hBg34 := hBg34.chg hc43 (fun h => nomatch h)
   have hM : MS ([g34] ++ ([g3] ++ (M))) w43 := (hM.chg hc43)
   have hC := hC.trans hc43 (Ok.nil _ _)
   obtain ⟨hx44, H⟩ := ite_some H
   refine sadd ha rfl rfl rfl rfl rfl hx44 fun a ha => ?_
   refine seg ha 1 [(2, .string (bstr (((([105, 109, 112, 111, 114, 116, 58] : List UInt8) ++ t40) ++ ([58] : List UInt8)) ++ t43)))] (by kernel_rfl) fun a ha => ?_
   refine hK39 _ _ ?_; try clear hK39 K39
   refine wp_ret ?_
   try simp only [Exit.then, Exit.inBlock]
   have o1 : Ok [] ([g34] ++ ([g3] ++ (M))) w43.heap.size := Ok.nil _ _
   have o2 : Ok (M) ([g34] ++ ([g3] ++ (M))) w43.heap.size := (fun _ h => .inl (mr (mr (h))))
   have hG := hG.chg (Chg.refl [] _) o1 o2
   have hBg3 := hBg3.chg (Chg.refl [] _) (fun h => nomatch h)
   have hBg34 := hBg34.chg (Chg.refl [] _) (fun h => nomatch h)
   have hM : MS (M) w43 := (fun x h => hM.chg (Chg.refl [] _) x (mr (mr (h))))
   have hC := hC.trans (Chg.refl [] _) (Ok.nil _ _)
   obtain rfl := Option.some.inj H
   refine rt1 ha rfl rfl ?_
   exact ⟨rfl, hC, hM⟩
  ·have H := ite_f hc30 H
   refine wp_seq_k fun K45 hK45 => ?_
   refine wp_region_lit ?_
   refine seg ha 2 [(1, .pointer (some ⟨g3, 0, none⟩)), (40, .bool (t8 == (3 : Int)))] (by kernel_rfl) fun a ha => ?_
   refine hK45 _ _ ?_; try clear hK45 K45
   refine cnd ha rfl (fun hc46 => ?_) (fun hc46 => ?_)
   ·have H := ite_t hc46 H
    refine wp_seq_k fun K47 hK47 => ?_
    refine wp_region_lit ?_
    refine ldA (cs := (cA .u8 8 a0)) ha rfl (by kernel_rfl) rfl rfl rfl (cells_sub (Box.cells hBg3) (all := (cA .u8 8 a0)) [] [] (by kernel_rfl)) fun a ha => ?_
    obtain ⟨t48, H48, H⟩ := bind_some H
    refine cl ha (by rfl) (by kernel_rfl) (by rfl) (by rfl) (by rfl) (community_AS.walk w8 _ hM a0 k _ H48) ?_
    rintro _ w48 ⟨rfl, hc48, hMn⟩ a ha
    have o1 : Ok [] ([g3] ++ (M)) w8.heap.size := Ok.nil _ _
    have o2 : Ok ([g3] ++ (M)) ([g3] ++ (M)) w8.heap.size := (Ok.refl _ _)
    have hG := hG.chg hc48 o1 o2
    have hBg3 := hBg3.chg hc48 (fun h => nomatch h)
    have hM : MS ([g3] ++ (M)) w48 := (hM.chg hc48)
    have hC := hC.trans hc48 (Ok.nil _ _)
    refine seg ha 5 [(7, .int .i64 t48.1)] (by kernel_rfl) fun a ha => ?_
    refine hK47 _ _ ?_; try clear hK47 K47
    refine wp_seq_k fun K49 hK49 => ?_
    refine wp_region_lit ?_
    refine seg ha 1 [(47, .int .i64 t48.1)] (by kernel_rfl) fun a ha => ?_
    obtain ⟨t50, H50, H⟩ := bind_some H
    refine cl ha (by rfl) (by kernel_rfl) (by rfl) (by rfl) (by rfl) (strconv_Itoa.walk w48 _ hM hG t48.1 _ H50) ?_
    rintro _ w50 ⟨rfl, hc50, hMn⟩ a ha
    have o1 : Ok [] ([g3] ++ (M)) w48.heap.size := Ok.nil _ _
    have o2 : Ok ([g3] ++ (M)) ([g3] ++ (M)) w48.heap.size := (Ok.refl _ _)
    have hG := hG.chg hc50 o1 o2
    have hBg3 := hBg3.chg hc50 (fun h => nomatch h)
    have hM : MS ([g3] ++ (M)) w50 := (hM.chg hc50)
    have hC := hC.trans hc50 (Ok.nil _ _)
    obtain ⟨hx51, H⟩ := ite_some H
    refine sadd ha rfl rfl rfl rfl rfl hx51 fun a ha => ?_
    refine seg ha 1 [(2, .string (bstr (([115, 111, 117, 114, 99, 101, 58] : List UInt8) ++ t50)))] (by kernel_rfl) fun a ha => ?_
    refine hK49 _ _ ?_; try clear hK49 K49
    refine wp_ret ?_
    try simp only [Exit.then, Exit.inBlock]
    have o1 : Ok [] ([g3] ++ (M)) w50.heap.size := Ok.nil _ _
    have o2 : Ok (M) ([g3] ++ (M)) w50.heap.size := (fun _ h => .inl (mr (h)))
    have hG := hG.chg (Chg.refl [] _) o1 o2
    have hBg3 := hBg3.chg (Chg.refl [] _) (fun h => nomatch h)
    have hM : MS (M) w50 := (fun x h => hM.chg (Chg.refl [] _) x (mr (h)))
    have hC := hC.trans (Chg.refl [] _) (Ok.nil _ _)
    obtain rfl := Option.some.inj H
    refine rt1 ha rfl rfl ?_
    exact ⟨rfl, hC, hM⟩
   ·have H := ite_f hc46 H
    refine wp_skip ?_
    refine hK6 _ _ ?_; try clear hK6 K6
    refine wp_seq_k fun K52 hK52 => ?_
    refine wp_region_lit ?_
    refine bsl (vals := ([.int .u8 (111 : Int), .int .u8 (116 : Int), .int .u8 (104 : Int), .int .u8 (101 : Int), .int .u8 (114 : Int), .int .u8 (58 : Int)] : List Value)) (T := 5) ha rfl (([.int .u8 (111 : Int)] : List Value) ++ (([.int .u8 (116 : Int)] : List Value) ++ (([.int .u8 (104 : Int)] : List Value) ++ (([.int .u8 (101 : Int)] : List Value) ++ (([.int .u8 (114 : Int)] : List Value) ++ (([.int .u8 (58 : Int)] : List Value) ++ ([] : List Value))))))) (fun w => by kernel_rfl) rfl rfl rfl fun a w53 g54 hN55 ha => ?_
    have o1 : Ok [] ([g3] ++ (M)) w8.heap.size := Ok.nil _ _
    have o2 : Ok ([g54] ++ ([g3] ++ (M))) ([g3] ++ (M)) w8.heap.size := (Ok.app (hN55.ok _) (Ok.refl _ _))
    have hG := hG.chg hN55.chg o1 o2
    have hBg3 := hBg3.chg hN55.chg (fun h => nomatch h)
    have p_i56_i5 : ∀ x ∈ [g54], x ∉ ([g3]) := fun x hx hy => absurd (hM x (ml hy)) (Nat.not_lt.2 ((hN55.ge1) x hx))
    have p_i56_M : ∀ x ∈ [g54], x ∉ M := fun x hx hy => absurd (hM x (mr (hy))) (Nat.not_lt.2 ((hN55.ge1) x hx))
    have e_i56 : ∀ x ∈ [g54], w.heap.size ≤ x := fun x hx => Nat.le_trans hC.size ((hN55.ge1) x hx)
    have hM : MS ([g54] ++ ([g3] ++ (M))) w53 := (MS.app hN55.ms (hM.chg hN55.chg))
    have hC := hC.trans hN55.chg (Ok.nil _ _)
    have f57 : Own (rInt .u8) 5 w53 ([g54] ++ ([g3] ++ (M))) (some ⟨g54, 0, none⟩) 6 ([(111 : Int), (116 : Int), (104 : Int), (101 : Int), (114 : Int), (58 : Int)] : List Int) := hN55.own ⟨([.int .u8 (111 : Int)] : List Value), _, rfl, rfl, ⟨([.int .u8 (116 : Int)] : List Value), _, rfl, rfl, ⟨([.int .u8 (104 : Int)] : List Value), _, rfl, rfl, ⟨([.int .u8 (101 : Int)] : List Value), _, rfl, rfl, ⟨([.int .u8 (114 : Int)] : List Value), _, rfl, rfl, ⟨([.int .u8 (58 : Int)] : List Value), _, rfl, rfl, rfl⟩⟩⟩⟩⟩⟩ (Nat.le_of_ble_eq_true rfl)
    refine cvl ha rfl (by kernel_rfl) (by kernel_rfl) rfl rfl rfl f57 fun a w58 hc59 hL60 ha => ?_
    have hOk60 : Ok [g54] ([g54] ++ ([g3] ++ (M))) w53.heap.size := (fun _ h => .inl (ml h))
    have hLt60 := f57.lt
    have o1 : Ok [g54] ([g54] ++ ([g3] ++ (M))) w53.heap.size := (fun _ h => .inl (ml h))
    have o2 : Ok ([g54] ++ ([g3] ++ (M))) ([g54] ++ ([g3] ++ (M))) w53.heap.size := (Ok.refl _ _)
    have hG := hG.chg hc59 o1 o2
    have hBg3 := hBg3.chg hc59 ((fun x (hx : x ∈ [g3]) (hy : x ∈ [g54]) => p_i56_i5 x hy hx) g3 (by simp))
    have hM : MS ([g54] ++ ([g3] ++ (M))) w58 := (hM.chg hc59)
    have hC := hC.trans hc59 (fun x h => .inr (e_i56 x h))
    have f60 : OwnW .u8 5 w58 ([g54] ++ ([g3] ++ (M))) (some ⟨g54, 0, none⟩) 6 ([(111 : Int), (116 : Int), (104 : Int), (101 : Int), (114 : Int), (58 : Int)] : List Int) := .inr ⟨rfl, g54, rfl, ml (by simp [blkL]), Nat.lt_of_lt_of_le (hLt60 _ (by simp [blkL])) hc59.size, hL60 _ butL_self⟩
    refine seg ha 1 [(1, .pointer (some ⟨g3, 0, none⟩)), (9, .slice (some ⟨g54, 0, none⟩) ([(111 : Int), (116 : Int), (104 : Int), (101 : Int), (114 : Int), (58 : Int)] : List Int).length 6)] (by kernel_rfl) fun a ha => ?_
    refine hK52 _ _ ?_; try clear hK52 K52
    refine wp_seq_k fun K61 hK61 => ?_
    refine wp_seq_k fun K62 hK62 => ?_
    refine wp_region_lit ?_
    refine ldA (cs := (cA .u8 8 a0)) ha rfl (by kernel_rfl) rfl rfl rfl (cells_sub (Box.cells hBg3) (all := (cA .u8 8 a0)) [] [] (by kernel_rfl)) fun a ha => ?_
    refine seg ha 1 [(9, .slice (some ⟨g54, 0, none⟩) ([(111 : Int), (116 : Int), (104 : Int), (101 : Int), (114 : Int), (58 : Int)] : List Int).length 6), (52, .agg (cA .u8 8 a0).toArray), (53, .int .i64 (0 : Int))] (by kernel_rfl) fun a ha => ?_
    refine hK62 _ _ ?_; try clear hK62 K62
    refine wp_block ?_
    obtain ⟨s63, H63, H⟩ := bind_some H
    have J63 : ∀ (a : Act) (wx63 : World) (ao67 : Option Addr) (cap67 : Nat), Has a Tryz.f35.ntmps [(9, .slice ao67 s63.length cap67)] → (OwnW .u8 5 wx63 (blkL ao67 ++ ([g3] ++ (M))) ao67 cap67 s63) → (Box wx63 g3 (cA .u8 8 a0)) → (∀ x ∈ blkL ao67, w.heap.size ≤ x) → (∀ x ∈ blkL ao67, x ∉ [g3]) → (∀ x ∈ blkL ao67, x ∉ M) → (GF wx63 (blkL ao67 ++ ([g3] ++ (M)))) → (Chg [] w wx63) → (MS (blkL ao67 ++ ([g3] ++ (M))) wx63) → K61 a wx63 := by
     intro a wx63 ao67 cap67 ha f67 hBg3 e_i67 p_i67_i5 p_i67_M hG hC hM
     refine hK61 _ _ ?_; try clear hK61 K61
     refine wp_seq_k fun K68 hK68 => ?_
     refine wp_region_lit ?_
     refine seg ha 1 [(66, .slice ao67 s63.length cap67)] (by kernel_rfl) fun a ha => ?_
     refine cvs ha rfl (by kernel_rfl) (by kernel_rfl) (by kernel_rfl) rfl rfl rfl (OwnW.toRSl (M' := []) f67 (Ok.nil _ _) (fun _ _ h => nomatch h)) fun a ha => ?_
     refine seg ha 1 [(2, .string (bstr (b2s s63)))] (by kernel_rfl) fun a ha => ?_
     refine hK68 _ _ ?_; try clear hK68 K68
     refine wp_ret ?_
     try simp only [Exit.then, Exit.inBlock]
     have o1 : Ok [] (blkL ao67 ++ ([g3] ++ (M))) wx63.heap.size := Ok.nil _ _
     have o2 : Ok (M) (blkL ao67 ++ ([g3] ++ (M))) wx63.heap.size := (fun _ h => .inl (mr (mr (h))))
     have hG := hG.chg (Chg.refl [] _) o1 o2
     have hBg3 := hBg3.chg (Chg.refl [] _) (fun h => nomatch h)
     have hM : MS (M) wx63 := (fun x h => hM.chg (Chg.refl [] _) x (mr (mr (h))))
     have hC := hC.trans (Chg.refl [] _) (Ok.nil _ _)
     obtain rfl := Option.some.inj H
     refine rt1 ha rfl rfl ?_
     exact ⟨rfl, hC, hM⟩
    have Hc63 := H
    have H := H63
    refine wp_loop_ghost (fun kk a w63 => ∃ (x65 : List Int) (x66 : Int) (ao64 : Option Addr) (cap64 : Nat), community_Text.l0 a0 kk x65 x66 = some s63 ∧ Has a Tryz.f35.ntmps [(9, .slice ao64 x65.length cap64), (52, .agg (cA .u8 8 a0).toArray), (53, .int .i64 x66)] ∧ (OwnW .u8 5 w63 (blkL ao64 ++ ([g3] ++ (M))) ao64 cap64 x65) ∧ (Box w63 g3 (cA .u8 8 a0)) ∧ (∀ x ∈ blkL ao64, w.heap.size ≤ x) ∧ (∀ x ∈ blkL ao64, x ∉ [g3]) ∧ (∀ x ∈ blkL ao64, x ∉ M) ∧ (GF w63 (blkL ao64 ++ ([g3] ++ (M)))) ∧ (Chg [] w w63) ∧ (MS (blkL ao64 ++ ([g3] ++ (M))) w63)) k ?_ ?_
    ·skip
     exact ⟨([(111 : Int), (116 : Int), (104 : Int), (101 : Int), (114 : Int), (58 : Int)] : List Int), (0 : Int), (some ⟨g54, 0, none⟩), 6, H, (ha.sel (by kernel_rfl)), f60, hBg3, e_i56, p_i56_i5, p_i56_M, hG, hC, hM⟩
    ·rintro kk a w63 ⟨x65, x66, ao64, cap64, H, ha, f64, hBg3, e_i64, p_i64_i5, p_i64_M, hG, hC, hM⟩
     obtain _ | kk := kk
     ·exact nomatch (show none = some _ from H)
     rw [community_Text.l0] at H
     refine wp_seq_k fun K69 hK69 => ?_
     refine wp_region_lit ?_
     refine seg ha 1 [(9, .slice ao64 x65.length cap64), (52, .agg (cA .u8 8 a0).toArray), (53, .int .i64 x66), (54, .bool (decide (x66 < (8 : Int))))] (by kernel_rfl) fun a ha => ?_
     refine hK69 _ _ ?_; try clear hK69 K69
     refine wp_seq_k fun K70 hK70 => ?_
     refine cnd ha rfl (fun hc71 => ?_) (fun hc71 => ?_)
     ·have H := ite_t hc71 H
      refine wp_skip ?_
      refine hK70 _ _ ?_; try clear hK70 K70
      refine wp_seq_k fun K72 hK72 => ?_
      refine wp_block ?_
      refine wp_seq_k fun K73 hK73 => ?_
      refine wp_region_lit ?_
      obtain ⟨⟨hx74, hx74'⟩, H⟩ := ite_some H
      refine hop (v := .int .u8 (ar a0 (Int.toNat x66))) (w' := w63) ha rfl rfl rfl (aidx_run (T := 5) (N := 8) (kk := .u8) (l := a0) (k := .i64) (i := x66) ha (by kernel_rfl) (by kernel_rfl) (by kernel_rfl) (by rfl) (by rfl) hx74 hx74' _) fun a ha => ?_
      refine seg ha 1 [(9, .slice ao64 x65.length cap64), (11, .int .u8 (ar a0 (Int.toNat x66))), (52, .agg (cA .u8 8 a0).toArray), (53, .int .i64 x66)] (by kernel_rfl) fun a ha => ?_
      refine hK73 _ _ ?_; try clear hK73 K73
      have okS : Ok (blkL ao64) (blkL ao64 ++ ([g3] ++ (M))) w63.heap.size := (fun _ h => .inl (ml h))
      have z_hBg3 := hBg3
      refine drw (fun w' => Chg (blkL ao64) w63 w') (by kernel_rfl) fun w75 hc76 _ => ?_
      have hS : Chg (blkL ao64) w63 w75 := (Chg.refl (blkL ao64) _).trans hc76 (Ok.nil _ _)
      have o1 : Ok [] (blkL ao64 ++ ([g3] ++ (M))) w63.heap.size := Ok.nil _ _
      have o2 : Ok (blkL ao64 ++ ([g3] ++ (M))) (blkL ao64 ++ ([g3] ++ (M))) w63.heap.size := (Ok.refl _ _)
      have hG := hG.chg hc76 o1 o2
      have f64 := f64.chg hc76 o1 o2 (fun _ _ h => nomatch h) (fun _ h => ml h)
      have hBg3 := hBg3.chg hc76 (fun h => nomatch h)
      have hM : MS (blkL ao64 ++ ([g3] ++ (M))) w75 := (hM.chg hc76)
      have hC := hC.trans hc76 (Ok.nil _ _)
      refine tkpz 0 0 (.slice ao64 x65.length cap64) ha (s := hS) (q := fun a ha => ?_)
      refine tkpz 1 0 (.int .u8 (ar a0 (Int.toNat x66))) ha (s := hS) (q := fun a ha => ?_)
      refine tkpz 2 0 (.int .u8 (Int.fdiv (ar a0 (Int.toNat x66)) (2 ^ (min (4 : Int).toNat IntKind.u8.bits)))) ha (s := hS) (q := fun a ha => ?_)
      obtain ⟨⟨hx77, hx77'⟩, H⟩ := ite_some H
      refine tkz 3 ha (v := .int .u8 ((([48, 49, 50, 51, 52, 53, 54, 55, 56, 57, 97, 98, 99, 100, 101, 102] : List UInt8).getD (Int.toNat (Int.fdiv (ar a0 (Int.toNat x66)) (2 ^ (min (4 : Int).toNat IntKind.u8.bits)))) 0).toNat : Int)) (y := fun w' hs => sidx_run (l := ([48, 49, 50, 51, 52, 53, 54, 55, 56, 57, 97, 98, 99, 100, 101, 102] : List UInt8)) (k := .u8) (i := Int.fdiv (ar a0 (Int.toNat x66)) (2 ^ (min (4 : Int).toNat IntKind.u8.bits))) ha (by kernel_rfl) (by rfl) (by rfl) hx77 hx77' w') (s := hS) (q := fun a ha => ?_)
      refine tkpz 4 0 (.int .u8 (ar a0 (Int.toNat x66))) ha (s := hS) (q := fun a ha => ?_)
      refine tkpz 5 0 (.int .u8 (IntKind.u8.wrap (BitVec.ofInt IntKind.u8.bits (ar a0 (Int.toNat x66)) &&& BitVec.ofInt IntKind.u8.bits (15 : Int)).toNat)) ha (s := hS) (q := fun a ha => ?_)
      obtain ⟨⟨hx78, hx78'⟩, H⟩ := ite_some H
      refine tkz 6 ha (v := .int .u8 ((([48, 49, 50, 51, 52, 53, 54, 55, 56, 57, 97, 98, 99, 100, 101, 102] : List UInt8).getD (Int.toNat (IntKind.u8.wrap (BitVec.ofInt IntKind.u8.bits (ar a0 (Int.toNat x66)) &&& BitVec.ofInt IntKind.u8.bits (15 : Int)).toNat)) 0).toNat : Int)) (y := fun w' hs => sidx_run (l := ([48, 49, 50, 51, 52, 53, 54, 55, 56, 57, 97, 98, 99, 100, 101, 102] : List UInt8)) (k := .u8) (i := IntKind.u8.wrap (BitVec.ofInt IntKind.u8.bits (ar a0 (Int.toNat x66)) &&& BitVec.ofInt IntKind.u8.bits (15 : Int)).toNat) ha (by kernel_rfl) (by rfl) (by rfl) hx78 hx78' w') (s := hS) (q := fun a ha => ?_)
      refine ac 7 (by kernel_rfl) (by rfl) fun K79 hK79 => ?_
      refine bsl (vals := ([.int .u8 ((([48, 49, 50, 51, 52, 53, 54, 55, 56, 57, 97, 98, 99, 100, 101, 102] : List UInt8).getD (Int.toNat (Int.fdiv (ar a0 (Int.toNat x66)) (2 ^ (min (4 : Int).toNat IntKind.u8.bits)))) 0).toNat : Int), .int .u8 ((([48, 49, 50, 51, 52, 53, 54, 55, 56, 57, 97, 98, 99, 100, 101, 102] : List UInt8).getD (Int.toNat (IntKind.u8.wrap (BitVec.ofInt IntKind.u8.bits (ar a0 (Int.toNat x66)) &&& BitVec.ofInt IntKind.u8.bits (15 : Int)).toNat)) 0).toNat : Int)] : List Value)) (T := 5) ha rfl (([.int .u8 ((([48, 49, 50, 51, 52, 53, 54, 55, 56, 57, 97, 98, 99, 100, 101, 102] : List UInt8).getD (Int.toNat (Int.fdiv (ar a0 (Int.toNat x66)) (2 ^ (min (4 : Int).toNat IntKind.u8.bits)))) 0).toNat : Int)] : List Value) ++ (([.int .u8 ((([48, 49, 50, 51, 52, 53, 54, 55, 56, 57, 97, 98, 99, 100, 101, 102] : List UInt8).getD (Int.toNat (IntKind.u8.wrap (BitVec.ofInt IntKind.u8.bits (ar a0 (Int.toNat x66)) &&& BitVec.ofInt IntKind.u8.bits (15 : Int)).toNat)) 0).toNat : Int)] : List Value) ++ ([] : List Value))) (fun w => by kernel_rfl) rfl rfl rfl fun a w80 g81 hN82 ha => ?_
      have o1 : Ok [] (blkL ao64 ++ ([g3] ++ (M))) w75.heap.size := Ok.nil _ _
      have o2 : Ok ([g81] ++ (blkL ao64 ++ ([g3] ++ (M)))) (blkL ao64 ++ ([g3] ++ (M))) w75.heap.size := (Ok.app (hN82.ok _) (Ok.refl _ _))
      have hG := hG.chg hN82.chg o1 o2
      have f64 := f64.chg hN82.chg o1 o2 (fun _ _ h => nomatch h) (fun _ h => mr (ml h))
      have hBg3 := hBg3.chg hN82.chg (fun h => nomatch h)
      have p_iD000083_i64 : ∀ x ∈ [g81], x ∉ (blkL ao64) := fun x hx hy => absurd (hM x (ml hy)) (Nat.not_lt.2 ((hN82.ge1) x hx))
      have p_iD000083_i5 : ∀ x ∈ [g81], x ∉ ([g3]) := fun x hx hy => absurd (hM x (mr (ml hy))) (Nat.not_lt.2 ((hN82.ge1) x hx))
      have p_iD000083_M : ∀ x ∈ [g81], x ∉ M := fun x hx hy => absurd (hM x (mr (mr (hy)))) (Nat.not_lt.2 ((hN82.ge1) x hx))
      have e_iD000083 : ∀ x ∈ [g81], w.heap.size ≤ x := fun x hx => Nat.le_trans hC.size ((hN82.ge1) x hx)
      have hM : MS ([g81] ++ (blkL ao64 ++ ([g3] ++ (M)))) w80 := (MS.app hN82.ms (hM.chg hN82.chg))
      have hC := hC.trans hN82.chg (Ok.nil _ _)
      have d_iD000083 : Ok ([g81]) (blkL ao64) w63.heap.size := fun x hx => .inr (Nat.le_trans hS.size ((hN82.ge1) x hx))
      have hS := hS.trans hN82.chg (Ok.nil _ _)
      have f84 : Own (rInt .u8) 5 w80 ([g81] ++ (blkL ao64 ++ ([g3] ++ (M)))) (some ⟨g81, 0, none⟩) 2 ([((([48, 49, 50, 51, 52, 53, 54, 55, 56, 57, 97, 98, 99, 100, 101, 102] : List UInt8).getD (Int.toNat (Int.fdiv (ar a0 (Int.toNat x66)) (2 ^ (min (4 : Int).toNat IntKind.u8.bits)))) 0).toNat : Int), ((([48, 49, 50, 51, 52, 53, 54, 55, 56, 57, 97, 98, 99, 100, 101, 102] : List UInt8).getD (Int.toNat (IntKind.u8.wrap (BitVec.ofInt IntKind.u8.bits (ar a0 (Int.toNat x66)) &&& BitVec.ofInt IntKind.u8.bits (15 : Int)).toNat)) 0).toNat : Int)] : List Int) := hN82.own ⟨([.int .u8 ((([48, 49, 50, 51, 52, 53, 54, 55, 56, 57, 97, 98, 99, 100, 101, 102] : List UInt8).getD (Int.toNat (Int.fdiv (ar a0 (Int.toNat x66)) (2 ^ (min (4 : Int).toNat IntKind.u8.bits)))) 0).toNat : Int)] : List Value), _, rfl, rfl, ⟨([.int .u8 ((([48, 49, 50, 51, 52, 53, 54, 55, 56, 57, 97, 98, 99, 100, 101, 102] : List UInt8).getD (Int.toNat (IntKind.u8.wrap (BitVec.ofInt IntKind.u8.bits (ar a0 (Int.toNat x66)) &&& BitVec.ofInt IntKind.u8.bits (15 : Int)).toNat)) 0).toNat : Int)] : List Value), _, rfl, rfl, rfl⟩⟩ (Nat.le_of_ble_eq_true rfl)
      refine ae hK79 hS ?_; clear hK79 K79
      refine ac 8 (by kernel_rfl) (by rfl) fun K85 hK85 => ?_
      obtain ⟨hx86, H⟩ := ite_some H
      refine appW (k := .u8) (xs := x65) (ys := ([((([48, 49, 50, 51, 52, 53, 54, 55, 56, 57, 97, 98, 99, 100, 101, 102] : List UInt8).getD (Int.toNat (Int.fdiv (ar a0 (Int.toNat x66)) (2 ^ (min (4 : Int).toNat IntKind.u8.bits)))) 0).toNat : Int), ((([48, 49, 50, 51, 52, 53, 54, 55, 56, 57, 97, 98, 99, 100, 101, 102] : List UInt8).getD (Int.toNat (IntKind.u8.wrap (BitVec.ofInt IntKind.u8.bits (ar a0 (Int.toNat x66)) &&& BitVec.ofInt IntKind.u8.bits (15 : Int)).toNat)) 0).toNat : Int)] : List Int)) ha (ElemT.mk' (bytes := 1) (by kernel_rfl)) rfl rfl rfl rfl rfl f64 f84.src hx86 (by decide) (by simp) fun a w87 ao88 cap88 hO88 hc88 hk88 hl88 ha => ?_
      have o1 : Ok (blkL ao64) ([g81] ++ (blkL ao64 ++ ([g3] ++ (M)))) w80.heap.size := (fun _ h => .inl (mr (ml h)))
      have o2 : Ok (blkL ao88 ++ ([g81] ++ ([g3] ++ (M)))) ([g81] ++ (blkL ao64 ++ ([g3] ++ (M)))) w80.heap.size := (Ok.app (Ok.to hk88 (fun _ h => mr (ml h))) (Ok.app (fun _ h => .inl (ml h)) (fun _ h => .inl (mr (mr (h))))))
      have hG := hG.chg hc88 o1 o2
      have f84 := f84.chg hc88 o1 o2 p_iD000083_i64 (fun _ h => mr (ml h))
      have hBg3 := hBg3.chg hc88 ((fun x (hx : x ∈ [g3]) (hy : x ∈ blkL ao64) => p_i64_i5 x hy hx) g3 (by simp))
      have p_iD000088_iD000083 : ∀ x ∈ blkL ao88, x ∉ ([g81]) := fun x hx hy => (hk88 x hx).elim (fun h => (fun x hx hy => p_iD000083_i64 x hy hx) x h hy) (fun h => absurd (hM x (ml hy)) (Nat.not_lt.2 h))
      have p_iD000088_i5 : ∀ x ∈ blkL ao88, x ∉ ([g3]) := fun x hx hy => (hk88 x hx).elim (fun h => p_i64_i5 x h hy) (fun h => absurd (hM x (mr (mr (ml hy)))) (Nat.not_lt.2 h))
      have p_iD000088_M : ∀ x ∈ blkL ao88, x ∉ M := fun x hx hy => (hk88 x hx).elim (fun h => p_i64_M x h hy) (fun h => absurd (hM x (mr (mr (mr (hy))))) (Nat.not_lt.2 h))
      have e_iD000088 : ∀ x ∈ blkL ao88, w.heap.size ≤ x := fun x hx => (hk88 x hx).elim (e_i64 x) (Nat.le_trans hC.size)
      have hM : MS (blkL ao88 ++ ([g81] ++ ([g3] ++ (M)))) w87 := (MS.app hl88 (MS.app (fun x h => hM.chg hc88 x (ml h)) (fun x h => hM.chg hc88 x (mr (mr (h))))))
      have hC := hC.trans hc88 (fun x h => .inr (e_i64 x h))
      have d_iD000088 : Ok (blkL ao88) (blkL ao64) w63.heap.size := fun x hx => (hk88 x hx).elim (fun h => .inl (h)) (fun h => .inr (Nat.le_trans hS.size h))
      have hS := hS.trans hc88 (fun x h => .inl (h))
      have f88 := hO88.chg (M' := blkL ao88 ++ ([g81] ++ ([g3] ++ (M)))) (Chg.refl [] _) (Ok.nil _ _) (Ok.app (fun _ h => .inl (ml h)) (Ok.to (Ok.app (fun _ h => .inl (ml h)) (fun _ h => .inl (mr (mr (h))))) (fun _ h => mr h))) (fun _ _ h => nomatch h) (fun _ h => ml h)
      refine ae hK85 hS ?_; clear hK85 K85
      refine tkpz 9 0 (.slice ao88 (x65 ++ ([((([48, 49, 50, 51, 52, 53, 54, 55, 56, 57, 97, 98, 99, 100, 101, 102] : List UInt8).getD (Int.toNat (Int.fdiv (ar a0 (Int.toNat x66)) (2 ^ (min (4 : Int).toNat IntKind.u8.bits)))) 0).toNat : Int), ((([48, 49, 50, 51, 52, 53, 54, 55, 56, 57, 97, 98, 99, 100, 101, 102] : List UInt8).getD (Int.toNat (IntKind.u8.wrap (BitVec.ofInt IntKind.u8.bits (ar a0 (Int.toNat x66)) &&& BitVec.ofInt IntKind.u8.bits (15 : Int)).toNat)) 0).toNat : Int)] : List Int)).length cap88) ha (s := hS) (q := fun a ha => ?_)
      refine dn (by kernel_rfl) ?_
      refine hK72 _ _ ?_; try clear hK72 K72
      refine wp_region_lit ?_
      refine seg ha 2 [(9, .slice ao88 (x65 ++ ([((([48, 49, 50, 51, 52, 53, 54, 55, 56, 57, 97, 98, 99, 100, 101, 102] : List UInt8).getD (Int.toNat (Int.fdiv (ar a0 (Int.toNat x66)) (2 ^ (min (4 : Int).toNat IntKind.u8.bits)))) 0).toNat : Int), ((([48, 49, 50, 51, 52, 53, 54, 55, 56, 57, 97, 98, 99, 100, 101, 102] : List UInt8).getD (Int.toNat (IntKind.u8.wrap (BitVec.ofInt IntKind.u8.bits (ar a0 (Int.toNat x66)) &&& BitVec.ofInt IntKind.u8.bits (15 : Int)).toNat)) 0).toNat : Int)] : List Int)).length cap88), (52, .agg (cA .u8 8 a0).toArray), (53, .int .i64 (IntKind.i64.wrap (x66 + (1 : Int))))] (by kernel_rfl) fun a ha => ?_
      have o1 : Ok [] (blkL ao88 ++ ([g81] ++ ([g3] ++ (M)))) w87.heap.size := Ok.nil _ _
      have o2 : Ok (blkL ao88 ++ ([g3] ++ (M))) (blkL ao88 ++ ([g81] ++ ([g3] ++ (M)))) w87.heap.size := (Ok.app (fun _ h => .inl (ml h)) (fun _ h => .inl (mr (mr (h)))))
      have hG := hG.chg (Chg.refl [] _) o1 o2
      have f88 := f88.chg (Chg.refl [] _) o1 o2 (fun _ _ h => nomatch h) (fun _ h => ml h)
      have hBg3 := hBg3.chg (Chg.refl [] _) (fun h => nomatch h)
      have hM : MS (blkL ao88 ++ ([g3] ++ (M))) w87 := (MS.app (fun x h => hM.chg (Chg.refl [] _) x (ml h)) (fun x h => hM.chg (Chg.refl [] _) x (mr (mr (h)))))
      have hC := hC.trans (Chg.refl [] _) (Ok.nil _ _)
      exact ⟨kk, Nat.lt_succ_self _, ⟨(x65 ++ ([((([48, 49, 50, 51, 52, 53, 54, 55, 56, 57, 97, 98, 99, 100, 101, 102] : List UInt8).getD (Int.toNat (Int.fdiv (ar a0 (Int.toNat x66)) (2 ^ (min (4 : Int).toNat IntKind.u8.bits)))) 0).toNat : Int), ((([48, 49, 50, 51, 52, 53, 54, 55, 56, 57, 97, 98, 99, 100, 101, 102] : List UInt8).getD (Int.toNat (IntKind.u8.wrap (BitVec.ofInt IntKind.u8.bits (ar a0 (Int.toNat x66)) &&& BitVec.ofInt IntKind.u8.bits (15 : Int)).toNat)) 0).toNat : Int)] : List Int)), IntKind.i64.wrap (x66 + (1 : Int)), ao88, cap88, H, (ha.sel (by kernel_rfl)), f88, hBg3, e_iD000088, p_iD000088_i5, p_iD000088_M, hG, hC, hM⟩⟩
     ·have H := ite_f hc71 H
      refine wp_exit ?_
      simp only [Exit.then, Exit.inBlock, ↓reduceIte, Nat.reduceEqDiff]
      obtain rfl := Option.some.inj H
      exact J63 _ _ ao64 cap64 (ha.sel (by kernel_rfl)) f64 hBg3 e_i64 p_i64_i5 p_i64_M hG hC hM
def slices_Index_Ext.l0 (a0 : List (List Int)) (a1 : List Int) : Nat → Int → Option ((Int) ⊕ (Unit))
  | 0, _ => none
  | kk + 1, x11 => (if (decide (x11 < (a0.length : Int))) = true then (if 0 ≤ x11 ∧ x11 < (a0.length : Int) then (if (eqA 8 a1 (rd a0 x11)) = true then some (.inl ((x11 : Int))) else slices_Index_Ext.l0 a0 a1 kk (IntKind.i64.wrap (x11 + (1 : Int)))) else none) else some (.inr (() : Unit)))
def slices_Index_Ext.f (k : Nat) (a0 : List (List Int)) (a1 : List Int) : Option (Int) := (slices_Index_Ext.l0 a0 a1 k (0 : Int)).bind fun s10 => match s10 with | .inl r => some r | .inr s10' => some (((-1 : Int) : Int))
set_option maxRecDepth 100000 in
theorem slices_Index_Ext.walk (w : World) (M : List Nat) (hM : MS M w) (a0 : List (List Int)) (ao1 : Option Addr) (cap1 : Nat) (f1 : RSl (rArr .u8 8) 27 w M ao1 cap1 a0) (a1 : List Int) (k : Nat) (r : Int) (H : slices_Index_Ext.f k a0 a1 = some r) :
    To Tryz.prog 85 [.slice ao1 a0.length cap1, .agg (cA .u8 8 a1).toArray] w fun v w' => v = .int .i64 r ∧ Chg [] w w' ∧ MS (M) w' := by
 unfold slices_Index_Ext.f at H
 refine ent Tryz.func85 rfl [(0, .slice ao1 a0.length cap1), (1, .agg (cA .u8 8 a1).toArray)] rfl (by rfl) fun a ha => ?_
 have hC : Chg [] w w := Chg.refl _ _
 refine wp_seq_k fun K2 hK2 => ?_
 refine wp_region_lit ?_
 refine bx (cs := (cA .u8 8 a1)) ha rfl rfl rfl rfl rfl fun a w3 g4 hN5 ha => ?_
 have hn7 := hN5.notin hM
 have o1 : Ok [] (M) w.heap.size := Ok.nil _ _
 have o2 : Ok (M) (M) w.heap.size := (Ok.refl _ _)
 have f1 := f1.chg hN5.chg o1 o2
 have hM : MS (M) w3 := (hM.chg hN5.chg)
 have hC := hC.trans hN5.chg (Ok.nil _ _)
 have hE6 : ∀ j v, (cA .u8 8 a1)[j]? = some v → w3.cell? ⟨g4, 0 + j, none⟩ = some v := Box.cells (New.box hN5)
 refine seg ha 1 [(0, .slice ao1 a0.length cap1), (3, .pointer (some ⟨g4, 0, none⟩))] (by kernel_rfl) fun a ha => ?_
 refine hK2 _ _ ?_; try clear hK2 K2
 refine wp_seq_k fun K8 hK8 => ?_
 refine wp_seq_k fun K9 hK9 => ?_
 refine wp_region_lit ?_
 refine seg ha 3 [(0, .slice ao1 a0.length cap1), (3, .pointer (some ⟨g4, 0, none⟩)), (7, .int .i64 (a0.length : Int)), (8, .int .i64 (0 : Int))] (by kernel_rfl) fun a ha => ?_
 refine hK9 _ _ ?_; try clear hK9 K9
 refine wp_block ?_
 obtain ⟨s10, H10, H⟩ := bind_some H
 have J10 : ∀ s10' (a : Act) (wx10 : World), s10 = .inr s10' → Has a Tryz.f85.ntmps [] → (Chg [] w wx10) → (MS (M) wx10) → K8 a wx10 := by
  intro s10' a wx10 hs ha hC hM
  subst hs
  refine hK8 _ _ ?_; try clear hK8 K8
  refine wp_seq_k fun K12 hK12 => ?_
  refine wp_region_lit ?_
  refine seg ha 1 [(4, .int .i64 (-1 : Int))] (by kernel_rfl) fun a ha => ?_
  refine hK12 _ _ ?_; try clear hK12 K12
  refine wp_ret ?_
  try simp only [Exit.then, Exit.inBlock]
  obtain rfl := Option.some.inj H
  refine rt1 ha rfl rfl ?_
  exact ⟨rfl, hC, hM⟩
 have Hc10 := H
 have H := H10
 refine wp_loop_ghost (fun kk a w10 => ∃ (x11 : Int), slices_Index_Ext.l0 a0 a1 kk x11 = some s10 ∧ Has a Tryz.f85.ntmps [(0, .slice ao1 a0.length cap1), (3, .pointer (some ⟨g4, 0, none⟩)), (7, .int .i64 (a0.length : Int)), (8, .int .i64 x11)] ∧ (RSl (rArr .u8 8) 27 w10 (M) ao1 cap1 a0) ∧ (∀ j v, (cA .u8 8 a1)[j]? = some v → w10.cell? ⟨g4, 0 + j, none⟩ = some v) ∧ (g4 ∉ (M)) ∧ (Chg [] w w10) ∧ (MS (M) w10)) k ?_ ?_
 ·skip
  exact ⟨(0 : Int), H, (ha.sel (by kernel_rfl)), f1, hE6, hn7, hC, hM⟩
 ·rintro kk a w10 ⟨x11, H, ha, f1, hE6, hn7, hC, hM⟩
  obtain _ | kk := kk
  ·exact nomatch (show none = some _ from H)
  rw [slices_Index_Ext.l0] at H
  refine wp_seq_k fun K13 hK13 => ?_
  refine wp_region_lit ?_
  refine seg ha 1 [(0, .slice ao1 a0.length cap1), (3, .pointer (some ⟨g4, 0, none⟩)), (7, .int .i64 (a0.length : Int)), (8, .int .i64 x11), (9, .bool (decide (x11 < (a0.length : Int))))] (by kernel_rfl) fun a ha => ?_
  refine hK13 _ _ ?_; try clear hK13 K13
  refine wp_seq_k fun K14 hK14 => ?_
  refine cnd ha rfl (fun hc15 => ?_) (fun hc15 => ?_)
  ·have H := ite_t hc15 H
   refine wp_skip ?_
   refine hK14 _ _ ?_; try clear hK14 K14
   refine wp_seq_k fun K16 hK16 => ?_
   refine wp_block ?_
   refine wp_seq_k fun K17 hK17 => ?_
   refine wp_region_lit ?_
   refine seg ha 2 [(0, .slice ao1 a0.length cap1), (3, .pointer (some ⟨g4, 0, none⟩)), (5, .int .i64 x11), (7, .int .i64 (a0.length : Int)), (8, .int .i64 x11)] (by kernel_rfl) fun a ha => ?_
   refine hK17 _ _ ?_; try clear hK17 K17
   refine wp_seq_k fun K18 hK18 => ?_
   refine drq0 (fun w' => Chg [] w10 w') (by kernel_rfl) (by kernel_rfl) (fun _ h => h) ?_
   refine qv (v := .agg (cA .u8 8 a1).toArray) ha rfl rfl rfl (fun w' hs => ldA_run (cs := (cA .u8 8 a1)) ha rfl (by kernel_rfl) (cells_sub (fun j v hv => hs.keep (hE6 j v hv)) (all := (cA .u8 8 a1)) [] [] (by kernel_rfl))) fun a ha => ?_
   refine qp 0 (.slice ao1 a0.length cap1) ha rfl rfl rfl (by kernel_rfl) fun a ha => ?_
   refine qp 0 (.int .i64 x11) ha rfl rfl rfl (by kernel_rfl) fun a ha => ?_
   obtain ⟨⟨hx19, hx19'⟩, H⟩ := ite_some H
   obtain ⟨ge20, oe210, cs22, hx19eq, hn25, hR23, hE24⟩ := RSl.elem f1 (Int.toNat x11) (by omega)
   rw [rd_get] at hR23
   obtain rfl := hR23
   have hE24 : ∀ j v, (cA .u8 8 (rd a0 x11))[j]? = some v → w10.cell? ⟨ge20, (oe210 + (Int.toNat x11) * (rArr .u8 8).sz) + j, none⟩ = some v := hE24
   refine qv (v := .pointer (some ⟨ge20, (oe210 + (Int.toNat x11) * (rArr .u8 8).sz), none⟩)) ha rfl rfl rfl (fun w' hs => ix_run (r := (rArr .u8 8)) (T := 27) ha (by kernel_rfl) (by kernel_rfl) (by rfl) (by rfl) hx19eq hx19 hx19') fun a ha => ?_
   refine qv (v := .agg (cA .u8 8 (rd a0 x11)).toArray) ha rfl rfl rfl (fun w' hs => ldA_run (cs := (cA .u8 8 (rd a0 x11))) ha rfl (by kernel_rfl) (cells_sub (fun j v hv => hs.keep (hE24 j v hv)) (all := (cA .u8 8 (rd a0 x11))) [] [] (by kernel_rfl))) fun a ha => ?_
   refine qv (v := .bool (eqA 8 a1 (rd a0 x11))) ha rfl rfl rfl (fun w' hs => eqs_run (r := (eqA 8 a1 (rd a0 x11))) (m := 9) ha rfl rfl (by kernel_rfl) rfl (by kernel_rfl) w') fun a ha => ?_
   refine wpQuiet_nil ?_
   intro w26 hc27
   have o1 : Ok [] (M) w10.heap.size := Ok.nil _ _
   have o2 : Ok (M) (M) w10.heap.size := (Ok.refl _ _)
   have f1 := f1.chg hc27 o1 o2
   have q_hn7 : g4 ∉ M := fun h => (o2 g4 h).elim hn7 (fun h => absurd (lt_cell (hE6 0 _ rfl)) (Nat.not_lt.2 h))
   have hE6 : ∀ j v, (cA .u8 8 a1)[j]? = some v → w26.cell? ⟨g4, 0 + j, none⟩ = some v := fun j v hv => (cell_keep hc27 o1 hn7 (hE6 j v hv))
   have hn7 := q_hn7
   have q_hn25 : ge20 ∉ M := fun h => (o2 ge20 h).elim hn25 (fun h => absurd (lt_cell (hE24 0 _ rfl)) (Nat.not_lt.2 h))
   have hE24 : ∀ j v, (cA .u8 8 (rd a0 x11))[j]? = some v → w26.cell? ⟨ge20, (oe210 + (Int.toNat x11) * (rArr .u8 8).sz) + j, none⟩ = some v := fun j v hv => (cell_keep hc27 o1 hn25 (hE24 j v hv))
   have hn25 := q_hn25
   have hM : MS (M) w26 := (hM.chg hc27)
   have hC := hC.trans hc27 (Ok.nil _ _)
   refine wpl_end ?_
   refine hK18 _ _ ?_; try clear hK18 K18
   refine cnd ha rfl (fun hc28 => ?_) (fun hc28 => ?_)
   ·have H := ite_t hc28 H
    refine wp_seq_k fun K29 hK29 => ?_
    refine wp_region_lit ?_
    refine seg ha 2 [(4, .int .i64 x11)] (by kernel_rfl) fun a ha => ?_
    refine hK29 _ _ ?_; try clear hK29 K29
    refine wp_ret ?_
    try simp only [Exit.then, Exit.inBlock]
    obtain rfl := Option.some.inj H
    have H := (show some _ = some _ from Hc10)
    obtain rfl := Option.some.inj H
    refine rt1 ha rfl rfl ?_
    exact ⟨rfl, hC, hM⟩
   ·have H := ite_f hc28 H
    refine wp_skip ?_
    refine hK16 _ _ ?_; try clear hK16 K16
    refine wp_region_lit ?_
    refine seg ha 2 [(0, .slice ao1 a0.length cap1), (3, .pointer (some ⟨g4, 0, none⟩)), (7, .int .i64 (a0.length : Int)), (8, .int .i64 (IntKind.i64.wrap (x11 + (1 : Int))))] (by kernel_rfl) fun a ha => ?_
    exact ⟨kk, Nat.lt_succ_self _, ⟨IntKind.i64.wrap (x11 + (1 : Int)), H, (ha.sel (by kernel_rfl)), f1, hE6, hn7, hC, hM⟩⟩
  ·have H := ite_f hc15 H
   refine wp_exit ?_
   simp only [Exit.then, Exit.inBlock, ↓reduceIte, Nat.reduceEqDiff]
   obtain rfl := Option.some.inj H
   exact J10 _ _ _ rfl (ha.sel (by kernel_rfl)) hC hM
def slices_Contains_Ext.f (k : Nat) (a0 : List (List Int)) (a1 : List Int) : Option (Bool) := (slices_Index_Ext.f k a0 a1).bind fun t9 => some ((decide (t9 ≥ (0 : Int)) : Bool))
set_option maxRecDepth 100000 in
theorem slices_Contains_Ext.walk (w : World) (M : List Nat) (hM : MS M w) (a0 : List (List Int)) (ao1 : Option Addr) (cap1 : Nat) (f1 : RSl (rArr .u8 8) 27 w M ao1 cap1 a0) (a1 : List Int) (k : Nat) (r : Bool) (H : slices_Contains_Ext.f k a0 a1 = some r) :
    To Tryz.prog 53 [.slice ao1 a0.length cap1, .agg (cA .u8 8 a1).toArray] w fun v w' => v = .bool r ∧ Chg [] w w' ∧ MS (M) w' := by
 unfold slices_Contains_Ext.f at H
 refine ent Tryz.func53 rfl [(0, .slice ao1 a0.length cap1), (1, .agg (cA .u8 8 a1).toArray)] rfl (by rfl) fun a ha => ?_
 have hC : Chg [] w w := Chg.refl _ _
 refine wp_seq_k fun K2 hK2 => ?_
 refine wp_region_lit ?_
 refine bx (cs := (cA .u8 8 a1)) ha rfl rfl rfl rfl rfl fun a w3 g4 hN5 ha => ?_
 have hn7 := hN5.notin hM
 have o1 : Ok [] (M) w.heap.size := Ok.nil _ _
 have o2 : Ok (M) (M) w.heap.size := (Ok.refl _ _)
 have f1 := f1.chg hN5.chg o1 o2
 have hM : MS (M) w3 := (hM.chg hN5.chg)
 have hC := hC.trans hN5.chg (Ok.nil _ _)
 have hE6 : ∀ j v, (cA .u8 8 a1)[j]? = some v → w3.cell? ⟨g4, 0 + j, none⟩ = some v := Box.cells (New.box hN5)
 refine seg ha 1 [(0, .slice ao1 a0.length cap1), (3, .pointer (some ⟨g4, 0, none⟩))] (by kernel_rfl) fun a ha => ?_
 refine hK2 _ _ ?_; try clear hK2 K2
 refine wp_seq_k fun K8 hK8 => ?_
 refine wp_region_lit ?_
 refine seg ha 1 [(3, .pointer (some ⟨g4, 0, none⟩)), (5, .slice ao1 a0.length cap1)] (by kernel_rfl) fun a ha => ?_
 refine ldA (cs := (cA .u8 8 a1)) ha rfl (by kernel_rfl) rfl rfl rfl (cells_sub hE6 (all := (cA .u8 8 a1)) [] [] (by kernel_rfl)) fun a ha => ?_
 obtain ⟨t9, H9, H⟩ := bind_some H
 refine cl ha (by rfl) (by kernel_rfl) (by rfl) (by rfl) (by rfl) (slices_Index_Ext.walk w3 _ hM a0 ao1 cap1 f1 a1 k _ H9) ?_
 rintro _ w9 ⟨rfl, hc9, hMn⟩ a ha
 have o1 : Ok [] (M) w3.heap.size := Ok.nil _ _
 have o2 : Ok (M) (M) w3.heap.size := (Ok.refl _ _)
 have f1 := f1.chg hc9 o1 o2
 have hM : MS (M) w9 := (hM.chg hc9)
 have hC := hC.trans hc9 (Ok.nil _ _)
 refine seg ha 2 [(4, .bool (decide (t9 ≥ (0 : Int))))] (by kernel_rfl) fun a ha => ?_
 refine hK8 _ _ ?_; try clear hK8 K8
 refine wp_ret ?_
 try simp only [Exit.then, Exit.inBlock]
 obtain rfl := Option.some.inj H
 refine rt1 ha rfl rfl ?_
 exact ⟨rfl, hC, hM⟩
def community_Meet_1.f (k : Nat) (a0 : List Int) (a1 : List (List Int)) : Option (Bool) := ((community_Kind.f a0).bind fun t10 => (if (t10 == (1 : Int)) = true then (slices_Contains_Ext.f k a1 a0).bind fun t12 => some (t12 : Bool) else some (false : Bool))).bind fun s9 => some ((s9 : Bool))
set_option maxRecDepth 100000 in
theorem community_Meet_1.walk (w : World) (M : List Nat) (hM : MS M w) (a0 : List Int) (gp1 : Nat) (a1 : List (List Int)) (ao1 : Option Addr) (cap1 : Nat) (f1 : RSl (rArr .u8 8) 27 w M ao1 cap1 a1) (hBgp1 : Box w gp1 ([.slice ao1 a1.length cap1] : List Value)) (hg_gp1 : gp1 ∈ M) (k : Nat) (r : Bool) (H : community_Meet_1.f k a0 a1 = some r) :
    To Tryz.prog 52 [.agg (cA .u8 8 a0).toArray, .pointer (some ⟨gp1, 0, none⟩)] w fun v w' => v = .bool r ∧ Chg [] w w' ∧ MS (M) w' := by
 unfold community_Meet_1.f at H
 refine ent Tryz.func52 rfl [(0, .agg (cA .u8 8 a0).toArray), (1, .pointer (some ⟨gp1, 0, none⟩))] rfl (by rfl) fun a ha => ?_
 have hC : Chg [] w w := Chg.refl _ _
 refine wp_seq_k fun K2 hK2 => ?_
 refine wp_region_lit ?_
 refine bx (cs := (cA .u8 8 a0)) ha rfl rfl rfl rfl rfl fun a w3 g4 hN5 ha => ?_
 have hn7 := hN5.notin hM
 have o1 : Ok [] (M) w.heap.size := Ok.nil _ _
 have o2 : Ok (M) (M) w.heap.size := (Ok.refl _ _)
 have f1 := f1.chg hN5.chg o1 o2
 have hBgp1 := hBgp1.chg hN5.chg (fun h => nomatch h)
 have hM : MS (M) w3 := (hM.chg hN5.chg)
 have hC := hC.trans hN5.chg (Ok.nil _ _)
 have hE6 : ∀ j v, (cA .u8 8 a0)[j]? = some v → w3.cell? ⟨g4, 0 + j, none⟩ = some v := Box.cells (New.box hN5)
 refine seg ha 1 [(1, .pointer (some ⟨gp1, 0, none⟩)), (2, .pointer (some ⟨g4, 0, none⟩))] (by kernel_rfl) fun a ha => ?_
 refine hK2 _ _ ?_; try clear hK2 K2
 refine wp_seq_k fun K8 hK8 => ?_
 refine wp_region_lit ?_
 obtain ⟨s9, H9, H⟩ := bind_some H
 have J9 : ∀ (a : Act) (w9 : World), Has a Tryz.f52.ntmps [(3, .bool s9)] → (RSl (rArr .u8 8) 27 w9 (M) ao1 cap1 a1) → (Box w9 gp1 ([.slice ao1 a1.length cap1] : List Value)) → (Chg [] w w9) → (MS (M) w9) → K8 a w9 := by
  intro a w9 ha f1 hBgp1 hC hM
  refine hK8 _ _ ?_; try clear hK8 K8
  refine wp_ret ?_
  try simp only [Exit.then, Exit.inBlock]
  obtain rfl := Option.some.inj H
  refine rt1 ha rfl rfl ?_
  exact ⟨rfl, hC, hM⟩
 have H := H9
 refine ldA (cs := (cA .u8 8 a0)) ha rfl (by kernel_rfl) rfl rfl rfl (cells_sub hE6 (all := (cA .u8 8 a0)) [] [] (by kernel_rfl)) fun a ha => ?_
 obtain ⟨t10, H10, H⟩ := bind_some H
 refine cl ha (by rfl) (by kernel_rfl) (by rfl) (by rfl) (by rfl) (community_Kind.walk w3 _ hM a0 _ H10) ?_
 rintro _ w10 ⟨rfl, hc10, hMn⟩ a ha
 have o1 : Ok [] (M) w3.heap.size := Ok.nil _ _
 have o2 : Ok (M) (M) w3.heap.size := (Ok.refl _ _)
 have f1 := f1.chg hc10 o1 o2
 have hBgp1 := hBgp1.chg hc10 (fun h => nomatch h)
 have q_hn7 : g4 ∉ M := fun h => (o2 g4 h).elim hn7 (fun h => absurd (lt_cell (hE6 0 _ rfl)) (Nat.not_lt.2 h))
 have hE6 : ∀ j v, (cA .u8 8 a0)[j]? = some v → w10.cell? ⟨g4, 0 + j, none⟩ = some v := fun j v hv => (cell_keep hc10 o1 hn7 (hE6 j v hv))
 have hn7 := q_hn7
 have hM : MS (M) w10 := (hM.chg hc10)
 have hC := hC.trans hc10 (Ok.nil _ _)
 refine seg ha 2 [(7, .bool (t10 == (1 : Int))), (1, .pointer (some ⟨gp1, 0, none⟩)), (2, .pointer (some ⟨g4, 0, none⟩))] (by kernel_rfl) fun a ha => ?_
 rcases Bool.eq_false_or_eq_true (t10 == (1 : Int)) with hb11 | hb11
 ·have ha := ha.lit hb11
  have H := ite_t hb11 H
  refine ld (v := .slice ao1 a1.length cap1) ha rfl (by kernel_rfl) rfl rfl rfl (hBgp1.cell' (o := 0) rfl (by kernel_rfl)) fun a ha => ?_
  refine ldA (cs := (cA .u8 8 a0)) ha rfl (by kernel_rfl) rfl rfl rfl (cells_sub hE6 (all := (cA .u8 8 a0)) [] [] (by kernel_rfl)) fun a ha => ?_
  obtain ⟨t12, H12, H⟩ := bind_some H
  refine cl ha (by rfl) (by kernel_rfl) (by rfl) (by rfl) (by rfl) (slices_Contains_Ext.walk w10 _ hM a1 ao1 cap1 f1 a0 k _ H12) ?_
  rintro _ w12 ⟨rfl, hc12, hMn⟩ a ha
  have o1 : Ok [] (M) w10.heap.size := Ok.nil _ _
  have o2 : Ok (M) (M) w10.heap.size := (Ok.refl _ _)
  have f1 := f1.chg hc12 o1 o2
  have hBgp1 := hBgp1.chg hc12 (fun h => nomatch h)
  have hM : MS (M) w12 := (hM.chg hc12)
  have hC := hC.trans hc12 (Ok.nil _ _)
  refine sgh ha 2 [3, 0] [(3, .bool t12)] (by kernel_rfl) fun a ha => ?_
  obtain rfl := Option.some.inj H
  exact J9 _ _ (ha.sel (by kernel_rfl)) f1 hBgp1 hC hM
 ·have ha := ha.lit hb11
  have H := ite_f hb11 H
  refine sgh ha 5 [1, 1, 1, 4, 0] [(3, .bool false)] (by kernel_rfl) fun a ha => ?_
  obtain rfl := Option.some.inj H
  exact J9 _ _ (ha.sel (by kernel_rfl)) f1 hBgp1 hC hM
def slices_IndexFunc_Ext_community_Meet_1.l0 (k : Nat) (a0 : List (List Int)) (a2 : List (List Int)) : Nat → Int → Option ((Int) ⊕ (Unit))
  | 0, _ => none
  | kk + 1, x7 => (if (decide (x7 < (a0.length : Int))) = true then (if 0 ≤ x7 ∧ x7 < (a0.length : Int) then (community_Meet_1.f k (rd a0 x7) a2).bind fun t22 => (if t22 = true then some (.inl ((x7 : Int))) else slices_IndexFunc_Ext_community_Meet_1.l0 k a0 a2 kk (IntKind.i64.wrap (x7 + (1 : Int)))) else none) else some (.inr (() : Unit)))
def slices_IndexFunc_Ext_community_Meet_1.f (k : Nat) (a0 : List (List Int)) (a2 : List (List Int)) : Option (Int) := (slices_IndexFunc_Ext_community_Meet_1.l0 k a0 a2 k (0 : Int)).bind fun s6 => match s6 with | .inl r => some r | .inr s6' => some (((-1 : Int) : Int))
set_option maxRecDepth 100000 in
theorem slices_IndexFunc_Ext_community_Meet_1.walk (w : World) (M : List Nat) (hM : MS M w) (a0 : List (List Int)) (ao1 : Option Addr) (cap1 : Nat) (f1 : RSl (rArr .u8 8) 27 w M ao1 cap1 a0) (gp2 : Nat) (a2 : List (List Int)) (ao2 : Option Addr) (cap2 : Nat) (f2 : RSl (rArr .u8 8) 27 w M ao2 cap2 a2) (hBgp2 : Box w gp2 ([.slice ao2 a2.length cap2] : List Value)) (hg_gp2 : gp2 ∈ M) (k : Nat) (r : Int) (H : slices_IndexFunc_Ext_community_Meet_1.f k a0 a2 = some r) :
    To Tryz.prog 84 [.slice ao1 a0.length cap1, .func (.func 52) #[] #[.pointer (some ⟨gp2, 0, none⟩)]] w fun v w' => v = .int .i64 r ∧ Chg [] w w' ∧ MS (M) w' := by
 unfold slices_IndexFunc_Ext_community_Meet_1.f at H
 refine ent Tryz.func84 rfl [(0, .slice ao1 a0.length cap1), (1, .func (.func 52) #[] #[.pointer (some ⟨gp2, 0, none⟩)])] rfl (by rfl) fun a ha => ?_
 have hC : Chg [] w w := Chg.refl _ _
 refine wp_seq_k fun K3 hK3 => ?_
 refine wp_region_lit ?_
 refine seg ha 1 [(0, .slice ao1 a0.length cap1), (1, .func (.func 52) #[] #[.pointer (some ⟨gp2, 0, none⟩)])] (by kernel_rfl) fun a ha => ?_
 refine hK3 _ _ ?_; try clear hK3 K3
 refine wp_seq_k fun K4 hK4 => ?_
 refine wp_seq_k fun K5 hK5 => ?_
 refine wp_region_lit ?_
 refine seg ha 3 [(0, .slice ao1 a0.length cap1), (1, .func (.func 52) #[] #[.pointer (some ⟨gp2, 0, none⟩)]), (7, .int .i64 (a0.length : Int)), (8, .int .i64 (0 : Int))] (by kernel_rfl) fun a ha => ?_
 refine hK5 _ _ ?_; try clear hK5 K5
 refine wp_block ?_
 obtain ⟨s6, H6, H⟩ := bind_some H
 have J6 : ∀ s6' (a : Act) (wx6 : World), s6 = .inr s6' → Has a Tryz.f84.ntmps [] → (RSl (rArr .u8 8) 27 wx6 (M) ao2 cap2 a2) → (Box wx6 gp2 ([.slice ao2 a2.length cap2] : List Value)) → (Chg [] w wx6) → (MS (M) wx6) → K4 a wx6 := by
  intro s6' a wx6 hs ha f2 hBgp2 hC hM
  subst hs
  refine hK4 _ _ ?_; try clear hK4 K4
  refine wp_seq_k fun K8 hK8 => ?_
  refine wp_region_lit ?_
  refine seg ha 1 [(4, .int .i64 (-1 : Int))] (by kernel_rfl) fun a ha => ?_
  refine hK8 _ _ ?_; try clear hK8 K8
  refine wp_ret ?_
  try simp only [Exit.then, Exit.inBlock]
  obtain rfl := Option.some.inj H
  refine rt1 ha rfl rfl ?_
  exact ⟨rfl, hC, hM⟩
 have Hc6 := H
 have H := H6
 refine wp_loop_ghost (fun kk a w6 => ∃ (x7 : Int), slices_IndexFunc_Ext_community_Meet_1.l0 k a0 a2 kk x7 = some s6 ∧ Has a Tryz.f84.ntmps [(0, .slice ao1 a0.length cap1), (1, .func (.func 52) #[] #[.pointer (some ⟨gp2, 0, none⟩)]), (7, .int .i64 (a0.length : Int)), (8, .int .i64 x7)] ∧ (RSl (rArr .u8 8) 27 w6 (M) ao1 cap1 a0) ∧ (RSl (rArr .u8 8) 27 w6 (M) ao2 cap2 a2) ∧ (Box w6 gp2 ([.slice ao2 a2.length cap2] : List Value)) ∧ (Chg [] w w6) ∧ (MS (M) w6)) k ?_ ?_
 ·skip
  exact ⟨(0 : Int), H, (ha.sel (by kernel_rfl)), f1, f2, hBgp2, hC, hM⟩
 ·rintro kk a w6 ⟨x7, H, ha, f1, f2, hBgp2, hC, hM⟩
  obtain _ | kk := kk
  ·exact nomatch (show none = some _ from H)
  rw [slices_IndexFunc_Ext_community_Meet_1.l0] at H
  refine wp_seq_k fun K9 hK9 => ?_
  refine wp_region_lit ?_
  refine seg ha 1 [(0, .slice ao1 a0.length cap1), (1, .func (.func 52) #[] #[.pointer (some ⟨gp2, 0, none⟩)]), (7, .int .i64 (a0.length : Int)), (8, .int .i64 x7), (9, .bool (decide (x7 < (a0.length : Int))))] (by kernel_rfl) fun a ha => ?_
  refine hK9 _ _ ?_; try clear hK9 K9
  refine wp_seq_k fun K10 hK10 => ?_
  refine cnd ha rfl (fun hc11 => ?_) (fun hc11 => ?_)
  ·have H := ite_t hc11 H
   refine wp_skip ?_
   refine hK10 _ _ ?_; try clear hK10 K10
   refine wp_seq_k fun K12 hK12 => ?_
   refine wp_block ?_
   refine wp_seq_k fun K13 hK13 => ?_
   refine wp_region_lit ?_
   refine seg ha 2 [(0, .slice ao1 a0.length cap1), (1, .func (.func 52) #[] #[.pointer (some ⟨gp2, 0, none⟩)]), (5, .int .i64 x7), (7, .int .i64 (a0.length : Int)), (8, .int .i64 x7)] (by kernel_rfl) fun a ha => ?_
   refine hK13 _ _ ?_; try clear hK13 K13
   refine wp_seq_k fun K14 hK14 => ?_
   refine wp_region_lit ?_
   refine seg ha 3 [(0, .slice ao1 a0.length cap1), (1, .func (.func 52) #[] #[.pointer (some ⟨gp2, 0, none⟩)]), (5, .int .i64 x7), (7, .int .i64 (a0.length : Int)), (8, .int .i64 x7), (11, .func (.func 52) #[] #[.pointer (some ⟨gp2, 0, none⟩)]), (12, .slice ao1 a0.length cap1), (13, .int .i64 x7)] (by kernel_rfl) fun a ha => ?_
   obtain ⟨⟨hx15, hx15'⟩, H⟩ := ite_some H
   refine ix (r := (rArr .u8 8)) ha (by kernel_rfl) (by kernel_rfl) rfl rfl rfl rfl rfl f1 hx15 hx15' fun a ge16 oe17 cs18 hn21 hR19 hE20 ha => ?_
   rw [rd_get] at hR19
   obtain rfl := hR19
   have hE20 : ∀ j v, (cA .u8 8 (rd a0 x7))[j]? = some v → w6.cell? ⟨ge16, oe17 + j, none⟩ = some v := hE20
   refine ldA (cs := (cA .u8 8 (rd a0 x7))) ha rfl (by kernel_rfl) rfl rfl rfl (cells_sub hE20 (all := (cA .u8 8 (rd a0 x7))) [] [] (by kernel_rfl)) fun a ha => ?_
   obtain ⟨t22, H22, H⟩ := bind_some H
   refine clc (vals := [.agg (cA .u8 8 (rd a0 x7)).toArray]) (cs := #[.pointer (some ⟨gp2, 0, none⟩)]) ha (by rfl) (by rfl) (by kernel_rfl) (by rfl) (by rfl) (by rfl) (community_Meet_1.walk w6 _ hM (rd a0 x7) gp2 a2 ao2 cap2 f2 hBgp2 (hg_gp2) k _ H22) ?_
   rintro _ w22 ⟨rfl, hc22, hMn⟩ a ha
   have o1 : Ok [] (M) w6.heap.size := Ok.nil _ _
   have o2 : Ok (M) (M) w6.heap.size := (Ok.refl _ _)
   have f1 := f1.chg hc22 o1 o2
   have f2 := f2.chg hc22 o1 o2
   have hBgp2 := hBgp2.chg hc22 (fun h => nomatch h)
   have hM : MS (M) w22 := (hM.chg hc22)
   have hC := hC.trans hc22 (Ok.nil _ _)
   refine hK14 _ _ ?_; try clear hK14 K14
   refine cnd ha rfl (fun hc23 => ?_) (fun hc23 => ?_)
   ·have H := ite_t hc23 H
    refine wp_seq_k fun K24 hK24 => ?_
    refine wp_region_lit ?_
    refine seg ha 2 [(4, .int .i64 x7)] (by kernel_rfl) fun a ha => ?_
    refine hK24 _ _ ?_; try clear hK24 K24
    refine wp_ret ?_
    try simp only [Exit.then, Exit.inBlock]
    obtain rfl := Option.some.inj H
    have H := (show some _ = some _ from Hc6)
    obtain rfl := Option.some.inj H
    refine rt1 ha rfl rfl ?_
    exact ⟨rfl, hC, hM⟩
   ·have H := ite_f hc23 H
    refine wp_skip ?_
    refine hK12 _ _ ?_; try clear hK12 K12
    refine wp_region_lit ?_
    refine seg ha 2 [(0, .slice ao1 a0.length cap1), (1, .func (.func 52) #[] #[.pointer (some ⟨gp2, 0, none⟩)]), (7, .int .i64 (a0.length : Int)), (8, .int .i64 (IntKind.i64.wrap (x7 + (1 : Int))))] (by kernel_rfl) fun a ha => ?_
    exact ⟨kk, Nat.lt_succ_self _, ⟨IntKind.i64.wrap (x7 + (1 : Int)), H, (ha.sel (by kernel_rfl)), f1, f2, hBgp2, hC, hM⟩⟩
  ·have H := ite_f hc11 H
   refine wp_exit ?_
   simp only [Exit.then, Exit.inBlock, ↓reduceIte, Nat.reduceEqDiff]
   obtain rfl := Option.some.inj H
   exact J6 _ _ _ rfl (ha.sel (by kernel_rfl)) f2 hBgp2 hC hM
def slices_ContainsFunc_Ext_community_Meet_1.f (k : Nat) (a0 : List (List Int)) (a2 : List (List Int)) : Option (Bool) := (slices_IndexFunc_Ext_community_Meet_1.f k a0 a2).bind fun t5 => some ((decide (t5 ≥ (0 : Int)) : Bool))
set_option maxRecDepth 100000 in
theorem slices_ContainsFunc_Ext_community_Meet_1.walk (w : World) (M : List Nat) (hM : MS M w) (a0 : List (List Int)) (ao1 : Option Addr) (cap1 : Nat) (f1 : RSl (rArr .u8 8) 27 w M ao1 cap1 a0) (gp2 : Nat) (a2 : List (List Int)) (ao2 : Option Addr) (cap2 : Nat) (f2 : RSl (rArr .u8 8) 27 w M ao2 cap2 a2) (hBgp2 : Box w gp2 ([.slice ao2 a2.length cap2] : List Value)) (hg_gp2 : gp2 ∈ M) (k : Nat) (r : Bool) (H : slices_ContainsFunc_Ext_community_Meet_1.f k a0 a2 = some r) :
    To Tryz.prog 51 [.slice ao1 a0.length cap1, .func (.func 52) #[] #[.pointer (some ⟨gp2, 0, none⟩)]] w fun v w' => v = .bool r ∧ Chg [] w w' ∧ MS (M) w' := by
 unfold slices_ContainsFunc_Ext_community_Meet_1.f at H
 refine ent Tryz.func51 rfl [(0, .slice ao1 a0.length cap1), (1, .func (.func 52) #[] #[.pointer (some ⟨gp2, 0, none⟩)])] rfl (by rfl) fun a ha => ?_
 have hC : Chg [] w w := Chg.refl _ _
 refine wp_seq_k fun K3 hK3 => ?_
 refine wp_region_lit ?_
 refine seg ha 1 [(0, .slice ao1 a0.length cap1), (1, .func (.func 52) #[] #[.pointer (some ⟨gp2, 0, none⟩)])] (by kernel_rfl) fun a ha => ?_
 refine hK3 _ _ ?_; try clear hK3 K3
 refine wp_seq_k fun K4 hK4 => ?_
 refine wp_region_lit ?_
 refine seg ha 2 [(5, .slice ao1 a0.length cap1), (6, .func (.func 52) #[] #[.pointer (some ⟨gp2, 0, none⟩)])] (by kernel_rfl) fun a ha => ?_
 obtain ⟨t5, H5, H⟩ := bind_some H
 refine cl ha (by rfl) (by kernel_rfl) (by rfl) (by rfl) (by rfl) (slices_IndexFunc_Ext_community_Meet_1.walk w _ hM a0 ao1 cap1 f1 gp2 a2 ao2 cap2 f2 hBgp2 (hg_gp2) k _ H5) ?_
 rintro _ w5 ⟨rfl, hc5, hMn⟩ a ha
 have o1 : Ok [] (M) w.heap.size := Ok.nil _ _
 have o2 : Ok (M) (M) w.heap.size := (Ok.refl _ _)
 have f1 := f1.chg hc5 o1 o2
 have f2 := f2.chg hc5 o1 o2
 have hBgp2 := hBgp2.chg hc5 (fun h => nomatch h)
 have hM : MS (M) w5 := (hM.chg hc5)
 have hC := hC.trans hc5 (Ok.nil _ _)
 refine seg ha 2 [(4, .bool (decide (t5 ≥ (0 : Int))))] (by kernel_rfl) fun a ha => ?_
 refine hK4 _ _ ?_; try clear hK4 K4
 refine wp_ret ?_
 try simp only [Exit.then, Exit.inBlock]
 obtain rfl := Option.some.inj H
 refine rt1 ha rfl rfl ?_
 exact ⟨rfl, hC, hM⟩
def community_Meet.f (k : Nat) (a0 : List (List Int)) (a1 : List (List Int)) : Option (Bool) := (slices_ContainsFunc_Ext_community_Meet_1.f k a0 a1).bind fun t9 => some ((t9 : Bool))
set_option maxRecDepth 100000 in
theorem community_Meet.walk (w : World) (M : List Nat) (hM : MS M w) (a0 : List (List Int)) (ao1 : Option Addr) (cap1 : Nat) (f1 : RSl (rArr .u8 8) 27 w M ao1 cap1 a0) (a1 : List (List Int)) (ao2 : Option Addr) (cap2 : Nat) (f2 : RSl (rArr .u8 8) 27 w M ao2 cap2 a1) (k : Nat) (r : Bool) (H : community_Meet.f k a0 a1 = some r) :
    To Tryz.prog 16 [.slice ao1 a0.length cap1, .slice ao2 a1.length cap2] w fun v w' => v = .bool r ∧ Chg [] w w' ∧ MS (M) w' := by
 unfold community_Meet.f at H
 refine ent Tryz.func16 rfl [(0, .slice ao1 a0.length cap1), (1, .slice ao2 a1.length cap2)] rfl (by rfl) fun a ha => ?_
 have hC : Chg [] w w := Chg.refl _ _
 refine wp_seq_k fun K3 hK3 => ?_
 refine wp_region_lit ?_
 refine bx (cs := ([.slice ao2 a1.length cap2] : List Value)) ha rfl rfl rfl rfl rfl fun a w4 g5 hN6 ha => ?_
 have o1 : Ok [] (M) w.heap.size := Ok.nil _ _
 have o2 : Ok ([g5] ++ (M)) (M) w.heap.size := (Ok.app (hN6.ok _) (Ok.refl _ _))
 have f1 := f1.chg hN6.chg o1 o2
 have f2 := f2.chg hN6.chg o1 o2
 have p_i7_M : ∀ x ∈ [g5], x ∉ M := fun x hx hy => absurd (hM x (hy)) (Nat.not_lt.2 ((hN6.ge1) x hx))
 have e_i7 : ∀ x ∈ [g5], w.heap.size ≤ x := fun x hx => Nat.le_trans hC.size ((hN6.ge1) x hx)
 have hM : MS ([g5] ++ (M)) w4 := (MS.app hN6.ms (hM.chg hN6.chg))
 have hC := hC.trans hN6.chg (Ok.nil _ _)
 have hBg5 : Box w4 g5 ([.slice ao2 a1.length cap2] : List Value) := hN6.box
 refine seg ha 1 [(0, .slice ao1 a0.length cap1), (3, .pointer (some ⟨g5, 0, none⟩))] (by kernel_rfl) fun a ha => ?_
 refine hK3 _ _ ?_; try clear hK3 K3
 refine wp_seq_k fun K8 hK8 => ?_
 refine wp_region_lit ?_
 refine seg ha 1 [(3, .pointer (some ⟨g5, 0, none⟩)), (5, .slice ao1 a0.length cap1)] (by kernel_rfl) fun a ha => ?_
 refine opk (v := .func (.func 52) #[] #[.pointer (some ⟨g5, 0, none⟩)]) ha rfl rfl rfl rfl rfl (fun w => by kernel_rfl) fun a ha => ?_
 obtain ⟨t9, H9, H⟩ := bind_some H
 refine cl ha (by rfl) (by kernel_rfl) (by rfl) (by rfl) (by rfl) (slices_ContainsFunc_Ext_community_Meet_1.walk w4 _ hM a0 ao1 cap1 f1 g5 a1 ao2 cap2 f2 hBg5 (ml (List.mem_singleton.2 rfl)) k _ H9) ?_
 rintro _ w9 ⟨rfl, hc9, hMn⟩ a ha
 have o1 : Ok [] ([g5] ++ (M)) w4.heap.size := Ok.nil _ _
 have o2 : Ok ([g5] ++ (M)) ([g5] ++ (M)) w4.heap.size := (Ok.refl _ _)
 have f1 := f1.chg hc9 o1 o2
 have f2 := f2.chg hc9 o1 o2
 have hBg5 := hBg5.chg hc9 (fun h => nomatch h)
 have hM : MS ([g5] ++ (M)) w9 := (hM.chg hc9)
 have hC := hC.trans hc9 (Ok.nil _ _)
 refine seg ha 1 [(4, .bool t9)] (by kernel_rfl) fun a ha => ?_
 refine hK8 _ _ ?_; try clear hK8 K8
 refine wp_ret ?_
 try simp only [Exit.then, Exit.inBlock]
 have o1 : Ok [] ([g5] ++ (M)) w9.heap.size := Ok.nil _ _
 have o2 : Ok (M) ([g5] ++ (M)) w9.heap.size := (fun _ h => .inl (mr (h)))
 have f2 := f2.chg (Chg.refl [] _) o1 o2
 have hBg5 := hBg5.chg (Chg.refl [] _) (fun h => nomatch h)
 have hM : MS (M) w9 := (fun x h => hM.chg (Chg.refl [] _) x (mr (h)))
 have hC := hC.trans (Chg.refl [] _) (Ok.nil _ _)
 obtain rfl := Option.some.inj H
 refine rt1 ha rfl rfl ?_
 exact ⟨rfl, hC, hM⟩
def vinerylaw04_small.f (k : Nat) : Option (Bool) := (community_Target.f k (0 : Int) (65000 : Int) (77 : Int)).bind fun t3 => (community_Import.f k (⟨(4 : Int), ([(10 : Int), (0 : Int), (0 : Int), (1 : Int), (0 : Int), (0 : Int), (0 : Int), (0 : Int), (0 : Int), (0 : Int), (0 : Int), (0 : Int), (0 : Int), (0 : Int), (0 : Int), (0 : Int)] : List Int)⟩ : S_api_Addr) (3 : Int)).bind fun t11 => (community_Source.f k (65000 : Int)).bind fun t19 => (community_Set.f ([t11.1, t3.1, t11.1] : List (List Int))).bind fun t32 => ((if (t3.2 == (0 : Int)) = true then (community_Text.f k t3.1).bind fun t40 => (if ((bstr t40).toList == (bstr ([114, 116, 58, 48, 58, 54, 53, 48, 48, 48, 58, 55, 55] : List UInt8)).toList) = true then (if (t11.2 == (0 : Int)) = true then (community_Text.f k t11.1).bind fun t44 => (if ((bstr t44).toList == (bstr ([105, 109, 112, 111, 114, 116, 58, 49, 48, 46, 48, 46, 48, 46, 49, 58, 51] : List UInt8)).toList) = true then (if (t19.2 == (0 : Int)) = true then (community_Text.f k t19.1).bind fun t48 => (if ((bstr t48).toList == (bstr ([115, 111, 117, 114, 99, 101, 58, 54, 53, 48, 48, 48] : List UInt8)).toList) = true then (if ((t32.length : Int) == (2 : Int)) = true then (if 0 ≤ (0 : Int) ∧ (0 : Int) < (t32.length : Int) then (if (eqA 8 (rd t32 (0 : Int)) t3.1) = true then (community_Meet.f k t32 ([t3.1] : List (List Int))).bind fun t66 => (if t66 = true then (community_Kind.f ([(0 : Int), (9 : Int), (0 : Int), (0 : Int), (0 : Int), (0 : Int), (0 : Int), (0 : Int)] : List Int)).bind fun t70 => some (t70 == (0 : Int) : Bool) else some (false : Bool)) else some (false : Bool)) else none) else some (false : Bool)) else some (false : Bool)) else some (false : Bool)) else some (false : Bool)) else some (false : Bool)) else some (false : Bool)) else some (false : Bool))).bind fun s37 => some ((s37 : Bool))
set_option maxRecDepth 100000 in
theorem vinerylaw04_small.walk (w : World) (M : List Nat) (hM : MS M w) (hG : GF w M)  (k : Nat) (r : Bool) (H : vinerylaw04_small.f k = some r) :
    To Tryz.prog 8 [] w fun v w' => v = .bool r ∧ Chg [] w w' ∧ MS (M) w' := by
 unfold vinerylaw04_small.f at H
 refine ent Tryz.func8 rfl [] rfl (by rfl) fun a ha => ?_
 have hC : Chg [] w w := Chg.refl _ _
 refine wp_seq_k fun K1 hK1 => ?_
 refine wp_region_lit ?_
 refine seg ha 1 [] (by kernel_rfl) fun a ha => ?_
 refine hK1 _ _ ?_; try clear hK1 K1
 refine wp_seq_k fun K2 hK2 => ?_
 refine wp_region_lit ?_
 obtain ⟨t3, H3, H⟩ := bind_some H
 refine cl ha (by rfl) (by kernel_rfl) (by rfl) (by rfl) (by rfl) (community_Target.walk w _ hM (0 : Int) (65000 : Int) (77 : Int) k _ H3) ?_
 rintro _ w3 ⟨rfl, hc3, hMn⟩ a ha
 have o1 : Ok [] (M) w.heap.size := Ok.nil _ _
 have o2 : Ok (M) (M) w.heap.size := (Ok.refl _ _)
 have hG := hG.chg hc3 o1 o2
 have hM : MS (M) w3 := (hM.chg hc3)
 have hC := hC.trans hc3 (Ok.nil _ _)
 refine seg ha 3 [(10, .agg (cA .u8 8 t3.1).toArray), (11, .int .i64 t3.2)] (by kernel_rfl) fun a ha => ?_
 refine al (cs := (cA .u8 8 (List.replicate 8 (0 : Int)))) (z := .agg (cA .u8 8 (List.replicate 8 (0 : Int))).toArray) ha (fun w => by kernel_rfl) rfl rfl rfl rfl fun a w4 g5 hN6 ha => ?_
 have o1 : Ok [] (M) w3.heap.size := Ok.nil _ _
 have o2 : Ok ([g5] ++ (M)) (M) w3.heap.size := (Ok.app (hN6.ok _) (Ok.refl _ _))
 have hG := hG.chg hN6.chg o1 o2
 have p_i7_M : ∀ x ∈ [g5], x ∉ M := fun x hx hy => absurd (hM x (hy)) (Nat.not_lt.2 ((hN6.ge1) x hx))
 have e_i7 : ∀ x ∈ [g5], w.heap.size ≤ x := fun x hx => Nat.le_trans hC.size ((hN6.ge1) x hx)
 have hM : MS ([g5] ++ (M)) w4 := (MS.app hN6.ms (hM.chg hN6.chg))
 have hC := hC.trans hN6.chg (Ok.nil _ _)
 have hBg5 : Box w4 g5 (cA .u8 8 (List.replicate 8 (0 : Int))) := hN6.box
 refine stA (l := (cA .u8 8 t3.1)) ha rfl rfl rfl (by kernel_rfl) rfl rfl hBg5 rfl fun a w8 ha hb2 hc9 _ => ?_
 have o1 : Ok [g5] ([g5] ++ (M)) w4.heap.size := (fun _ h => .inl (ml h))
 have o2 : Ok ([g5] ++ (M)) ([g5] ++ (M)) w4.heap.size := (Ok.refl _ _)
 have hG := hG.chg hc9 o1 o2
 have hM : MS ([g5] ++ (M)) w8 := (hM.chg hc9)
 have hC := hC.trans hc9 (fun x h => .inr (e_i7 x h))
 have hBg5 : Box w8 g5 (cA .u8 8 t3.1) := hb2
 refine seg ha 1 [(1, .pointer (some ⟨g5, 0, none⟩)), (2, .int .i64 t3.2)] (by kernel_rfl) fun a ha => ?_
 refine hK2 _ _ ?_; try clear hK2 K2
 refine wp_seq_k fun K10 hK10 => ?_
 refine wp_region_lit ?_
 refine opk (v := .agg (cA .u8 16 ([(10 : Int), (0 : Int), (0 : Int), (1 : Int), (0 : Int), (0 : Int), (0 : Int), (0 : Int), (0 : Int), (0 : Int), (0 : Int), (0 : Int), (0 : Int), (0 : Int), (0 : Int), (0 : Int)] : List Int)).toArray) ha rfl rfl rfl rfl rfl (fun w => by kernel_rfl) fun a ha => ?_
 refine opk (v := .agg (cS_api_Addr (⟨(4 : Int), ([(10 : Int), (0 : Int), (0 : Int), (1 : Int), (0 : Int), (0 : Int), (0 : Int), (0 : Int), (0 : Int), (0 : Int), (0 : Int), (0 : Int), (0 : Int), (0 : Int), (0 : Int), (0 : Int)] : List Int)⟩ : S_api_Addr)).toArray) ha rfl rfl rfl rfl rfl (fun w => by kernel_rfl) fun a ha => ?_
 obtain ⟨t11, H11, H⟩ := bind_some H
 refine cl ha (by rfl) (by kernel_rfl) (by rfl) (by rfl) (by rfl) (community_Import.walk w8 _ hM (⟨(4 : Int), ([(10 : Int), (0 : Int), (0 : Int), (1 : Int), (0 : Int), (0 : Int), (0 : Int), (0 : Int), (0 : Int), (0 : Int), (0 : Int), (0 : Int), (0 : Int), (0 : Int), (0 : Int), (0 : Int)] : List Int)⟩ : S_api_Addr) (3 : Int) k _ H11) ?_
 rintro _ w11 ⟨rfl, hc11, hMn⟩ a ha
 have o1 : Ok [] ([g5] ++ (M)) w8.heap.size := Ok.nil _ _
 have o2 : Ok ([g5] ++ (M)) ([g5] ++ (M)) w8.heap.size := (Ok.refl _ _)
 have hG := hG.chg hc11 o1 o2
 have hBg5 := hBg5.chg hc11 (fun h => nomatch h)
 have hM : MS ([g5] ++ (M)) w11 := (hM.chg hc11)
 have hC := hC.trans hc11 (Ok.nil _ _)
 refine seg ha 3 [(1, .pointer (some ⟨g5, 0, none⟩)), (2, .int .i64 t3.2), (16, .agg (cA .u8 8 t11.1).toArray), (17, .int .i64 t11.2)] (by kernel_rfl) fun a ha => ?_
 refine al (cs := (cA .u8 8 (List.replicate 8 (0 : Int)))) (z := .agg (cA .u8 8 (List.replicate 8 (0 : Int))).toArray) ha (fun w => by kernel_rfl) rfl rfl rfl rfl fun a w12 g13 hN14 ha => ?_
 have o1 : Ok [] ([g5] ++ (M)) w11.heap.size := Ok.nil _ _
 have o2 : Ok ([g13] ++ ([g5] ++ (M))) ([g5] ++ (M)) w11.heap.size := (Ok.app (hN14.ok _) (Ok.refl _ _))
 have hG := hG.chg hN14.chg o1 o2
 have hBg5 := hBg5.chg hN14.chg (fun h => nomatch h)
 have p_i15_i7 : ∀ x ∈ [g13], x ∉ ([g5]) := fun x hx hy => absurd (hM x (ml hy)) (Nat.not_lt.2 ((hN14.ge1) x hx))
 have p_i15_M : ∀ x ∈ [g13], x ∉ M := fun x hx hy => absurd (hM x (mr (hy))) (Nat.not_lt.2 ((hN14.ge1) x hx))
 have e_i15 : ∀ x ∈ [g13], w.heap.size ≤ x := fun x hx => Nat.le_trans hC.size ((hN14.ge1) x hx)
 have hM : MS ([g13] ++ ([g5] ++ (M))) w12 := (MS.app hN14.ms (hM.chg hN14.chg))
 have hC := hC.trans hN14.chg (Ok.nil _ _)
 have hBg13 : Box w12 g13 (cA .u8 8 (List.replicate 8 (0 : Int))) := hN14.box
 refine stA (l := (cA .u8 8 t11.1)) ha rfl rfl rfl (by kernel_rfl) rfl rfl hBg13 rfl fun a w16 ha hb2 hc17 _ => ?_
 have o1 : Ok [g13] ([g13] ++ ([g5] ++ (M))) w12.heap.size := (fun _ h => .inl (ml h))
 have o2 : Ok ([g13] ++ ([g5] ++ (M))) ([g13] ++ ([g5] ++ (M))) w12.heap.size := (Ok.refl _ _)
 have hG := hG.chg hc17 o1 o2
 have hBg5 := hBg5.chg hc17 ((fun x (hx : x ∈ [g5]) (hy : x ∈ [g13]) => p_i15_i7 x hy hx) g5 (by simp))
 have hM : MS ([g13] ++ ([g5] ++ (M))) w16 := (hM.chg hc17)
 have hC := hC.trans hc17 (fun x h => .inr (e_i15 x h))
 have hBg13 : Box w16 g13 (cA .u8 8 t11.1) := hb2
 refine seg ha 1 [(1, .pointer (some ⟨g5, 0, none⟩)), (2, .int .i64 t3.2), (3, .pointer (some ⟨g13, 0, none⟩)), (4, .int .i64 t11.2)] (by kernel_rfl) fun a ha => ?_
 refine hK10 _ _ ?_; try clear hK10 K10
 refine wp_seq_k fun K18 hK18 => ?_
 refine wp_region_lit ?_
 obtain ⟨t19, H19, H⟩ := bind_some H
 refine cl ha (by rfl) (by kernel_rfl) (by rfl) (by rfl) (by rfl) (community_Source.walk w16 _ hM (65000 : Int) k _ H19) ?_
 rintro _ w19 ⟨rfl, hc19, hMn⟩ a ha
 have o1 : Ok [] ([g13] ++ ([g5] ++ (M))) w16.heap.size := Ok.nil _ _
 have o2 : Ok ([g13] ++ ([g5] ++ (M))) ([g13] ++ ([g5] ++ (M))) w16.heap.size := (Ok.refl _ _)
 have hG := hG.chg hc19 o1 o2
 have hBg5 := hBg5.chg hc19 (fun h => nomatch h)
 have hBg13 := hBg13.chg hc19 (fun h => nomatch h)
 have hM : MS ([g13] ++ ([g5] ++ (M))) w19 := (hM.chg hc19)
 have hC := hC.trans hc19 (Ok.nil _ _)
 refine seg ha 3 [(1, .pointer (some ⟨g5, 0, none⟩)), (2, .int .i64 t3.2), (3, .pointer (some ⟨g13, 0, none⟩)), (4, .int .i64 t11.2), (20, .agg (cA .u8 8 t19.1).toArray), (21, .int .i64 t19.2)] (by kernel_rfl) fun a ha => ?_
 refine al (cs := (cA .u8 8 (List.replicate 8 (0 : Int)))) (z := .agg (cA .u8 8 (List.replicate 8 (0 : Int))).toArray) ha (fun w => by kernel_rfl) rfl rfl rfl rfl fun a w20 g21 hN22 ha => ?_
 have o1 : Ok [] ([g13] ++ ([g5] ++ (M))) w19.heap.size := Ok.nil _ _
 have o2 : Ok ([g21] ++ ([g13] ++ ([g5] ++ (M)))) ([g13] ++ ([g5] ++ (M))) w19.heap.size := (Ok.app (hN22.ok _) (Ok.refl _ _))
 have hG := hG.chg hN22.chg o1 o2
 have hBg5 := hBg5.chg hN22.chg (fun h => nomatch h)
 have hBg13 := hBg13.chg hN22.chg (fun h => nomatch h)
 have p_i23_i15 : ∀ x ∈ [g21], x ∉ ([g13]) := fun x hx hy => absurd (hM x (ml hy)) (Nat.not_lt.2 ((hN22.ge1) x hx))
 have p_i23_i7 : ∀ x ∈ [g21], x ∉ ([g5]) := fun x hx hy => absurd (hM x (mr (ml hy))) (Nat.not_lt.2 ((hN22.ge1) x hx))
 have p_i23_M : ∀ x ∈ [g21], x ∉ M := fun x hx hy => absurd (hM x (mr (mr (hy)))) (Nat.not_lt.2 ((hN22.ge1) x hx))
 have e_i23 : ∀ x ∈ [g21], w.heap.size ≤ x := fun x hx => Nat.le_trans hC.size ((hN22.ge1) x hx)
 have hM : MS ([g21] ++ ([g13] ++ ([g5] ++ (M)))) w20 := (MS.app hN22.ms (hM.chg hN22.chg))
 have hC := hC.trans hN22.chg (Ok.nil _ _)
 have hBg21 : Box w20 g21 (cA .u8 8 (List.replicate 8 (0 : Int))) := hN22.box
 refine stA (l := (cA .u8 8 t19.1)) ha rfl rfl rfl (by kernel_rfl) rfl rfl hBg21 rfl fun a w24 ha hb2 hc25 _ => ?_
 have o1 : Ok [g21] ([g21] ++ ([g13] ++ ([g5] ++ (M)))) w20.heap.size := (fun _ h => .inl (ml h))
 have o2 : Ok ([g21] ++ ([g13] ++ ([g5] ++ (M)))) ([g21] ++ ([g13] ++ ([g5] ++ (M)))) w20.heap.size := (Ok.refl _ _)
 have hG := hG.chg hc25 o1 o2
 have hBg5 := hBg5.chg hc25 ((fun x (hx : x ∈ [g5]) (hy : x ∈ [g21]) => p_i23_i7 x hy hx) g5 (by simp))
 have hBg13 := hBg13.chg hc25 ((fun x (hx : x ∈ [g13]) (hy : x ∈ [g21]) => p_i23_i15 x hy hx) g13 (by simp))
 have hM : MS ([g21] ++ ([g13] ++ ([g5] ++ (M)))) w24 := (hM.chg hc25)
 have hC := hC.trans hc25 (fun x h => .inr (e_i23 x h))
 have hBg21 : Box w24 g21 (cA .u8 8 t19.1) := hb2
 refine seg ha 1 [(1, .pointer (some ⟨g5, 0, none⟩)), (2, .int .i64 t3.2), (3, .pointer (some ⟨g13, 0, none⟩)), (4, .int .i64 t11.2), (5, .pointer (some ⟨g21, 0, none⟩)), (6, .int .i64 t19.2)] (by kernel_rfl) fun a ha => ?_
 refine hK18 _ _ ?_; try clear hK18 K18
 refine wp_seq_k fun K26 hK26 => ?_
 refine wp_region_lit ?_
 refine ldA (cs := (cA .u8 8 t11.1)) ha rfl (by kernel_rfl) rfl rfl rfl (cells_sub (Box.cells hBg13) (all := (cA .u8 8 t11.1)) [] [] (by kernel_rfl)) fun a ha => ?_
 refine ldA (cs := (cA .u8 8 t3.1)) ha rfl (by kernel_rfl) rfl rfl rfl (cells_sub (Box.cells hBg5) (all := (cA .u8 8 t3.1)) [] [] (by kernel_rfl)) fun a ha => ?_
 refine ldA (cs := (cA .u8 8 t11.1)) ha rfl (by kernel_rfl) rfl rfl rfl (cells_sub (Box.cells hBg13) (all := (cA .u8 8 t11.1)) [] [] (by kernel_rfl)) fun a ha => ?_
 refine bslA (vals := ([.agg (cA .u8 8 t11.1).toArray, .agg (cA .u8 8 t3.1).toArray, .agg (cA .u8 8 t11.1).toArray] : List Value)) (T := 27) (z := .agg (cA .u8 8 (List.replicate 8 (0 : Int))).toArray) ha rfl (by kernel_rfl) rfl (by kernel_rfl) (s := 8) (by kernel_rfl) rfl rfl (fun w => by kernel_rfl) (by kernel_rfl) rfl rfl rfl fun a w27 g28 hN29 ha => ?_
 have hN29 := (show New _ _ _ (.cells (((cA .u8 8 t11.1) ++ ((cA .u8 8 t3.1) ++ ((cA .u8 8 t11.1) ++ ([] : List Value))))).toArray 27 (0, 0)) from hN29)
 have o1 : Ok [] ([g21] ++ ([g13] ++ ([g5] ++ (M)))) w24.heap.size := Ok.nil _ _
 have o2 : Ok ([g28] ++ ([g21] ++ ([g13] ++ ([g5] ++ (M))))) ([g21] ++ ([g13] ++ ([g5] ++ (M)))) w24.heap.size := (Ok.app (hN29.ok _) (Ok.refl _ _))
 have hG := hG.chg hN29.chg o1 o2
 have hBg5 := hBg5.chg hN29.chg (fun h => nomatch h)
 have hBg13 := hBg13.chg hN29.chg (fun h => nomatch h)
 have hBg21 := hBg21.chg hN29.chg (fun h => nomatch h)
 have p_i30_i23 : ∀ x ∈ [g28], x ∉ ([g21]) := fun x hx hy => absurd (hM x (ml hy)) (Nat.not_lt.2 ((hN29.ge1) x hx))
 have p_i30_i15 : ∀ x ∈ [g28], x ∉ ([g13]) := fun x hx hy => absurd (hM x (mr (ml hy))) (Nat.not_lt.2 ((hN29.ge1) x hx))
 have p_i30_i7 : ∀ x ∈ [g28], x ∉ ([g5]) := fun x hx hy => absurd (hM x (mr (mr (ml hy)))) (Nat.not_lt.2 ((hN29.ge1) x hx))
 have p_i30_M : ∀ x ∈ [g28], x ∉ M := fun x hx hy => absurd (hM x (mr (mr (mr (hy))))) (Nat.not_lt.2 ((hN29.ge1) x hx))
 have e_i30 : ∀ x ∈ [g28], w.heap.size ≤ x := fun x hx => Nat.le_trans hC.size ((hN29.ge1) x hx)
 have hM : MS ([g28] ++ ([g21] ++ ([g13] ++ ([g5] ++ (M))))) w27 := (MS.app hN29.ms (hM.chg hN29.chg))
 have hC := hC.trans hN29.chg (Ok.nil _ _)
 have f31 : Own (rArr .u8 8) 27 w27 ([g28] ++ ([g21] ++ ([g13] ++ ([g5] ++ (M))))) (some ⟨g28, 0, none⟩) 3 ([t11.1, t3.1, t11.1] : List (List Int)) := hN29.own ⟨(cA .u8 8 t11.1), _, rfl, rfl, ⟨(cA .u8 8 t3.1), _, rfl, rfl, ⟨(cA .u8 8 t11.1), _, rfl, rfl, rfl⟩⟩⟩ (Nat.le_of_ble_eq_true rfl)
 have fz := f31.toRSl (M' := [g21] ++ ([g13] ++ ([g5] ++ (M)))) (fun _ h => .inl (mr (h))) (fun x hx hm => (List.mem_append.1 hm).elim (fun h => p_i30_i23 x hx h) (fun h => (List.mem_append.1 h).elim (fun h => p_i30_i15 x hx h) (fun h => (List.mem_append.1 h).elim (fun h => p_i30_i7 x hx h) (fun h => p_i30_M x hx h))))
 have o1 : Ok [] ([g28] ++ ([g21] ++ ([g13] ++ ([g5] ++ (M))))) w27.heap.size := Ok.nil _ _
 have o2 : Ok ([g21] ++ ([g13] ++ ([g5] ++ (M)))) ([g28] ++ ([g21] ++ ([g13] ++ ([g5] ++ (M))))) w27.heap.size := (fun _ h => .inl (mr (h)))
 have hG := hG.chg (Chg.refl [] _) o1 o2
 have hBg5 := hBg5.chg (Chg.refl [] _) (fun h => nomatch h)
 have hBg13 := hBg13.chg (Chg.refl [] _) (fun h => nomatch h)
 have hBg21 := hBg21.chg (Chg.refl [] _) (fun h => nomatch h)
 have hM : MS ([g21] ++ ([g13] ++ ([g5] ++ (M)))) w27 := (fun x h => hM.chg (Chg.refl [] _) x (mr (h)))
 have hC := hC.trans (Chg.refl [] _) (Ok.nil _ _)
 have f31 := fz
 obtain ⟨t32, H32, H⟩ := bind_some H
 refine cl ha (by rfl) (by kernel_rfl) (by rfl) (by rfl) (by rfl) (community_Set.walk w27 _ hM ([t11.1, t3.1, t11.1] : List (List Int)) (some ⟨g28, 0, none⟩) 3 f31 _ H32) ?_
 rintro _ w32 ⟨ao33, cap33, rfl, f33, hc32, hMn⟩ a ha
 have o1 : Ok [] ([g21] ++ ([g13] ++ ([g5] ++ (M)))) w27.heap.size := Ok.nil _ _
 have o2 : Ok ([g21] ++ ([g13] ++ ([g5] ++ (M)))) ([g21] ++ ([g13] ++ ([g5] ++ (M)))) w27.heap.size := (Ok.refl _ _)
 have hG := hG.chg hc32 o1 o2
 have f31 := f31.chg hc32 o1 o2
 have hBg5 := hBg5.chg hc32 (fun h => nomatch h)
 have hBg13 := hBg13.chg hc32 (fun h => nomatch h)
 have hBg21 := hBg21.chg hc32 (fun h => nomatch h)
 have hM : MS ([g21] ++ ([g13] ++ ([g5] ++ (M)))) w32 := (hM.chg hc32)
 have hC := hC.trans hc32 (Ok.nil _ _)
 refine seg ha 1 [(1, .pointer (some ⟨g5, 0, none⟩)), (2, .int .i64 t3.2), (3, .pointer (some ⟨g13, 0, none⟩)), (4, .int .i64 t11.2), (5, .pointer (some ⟨g21, 0, none⟩)), (6, .int .i64 t19.2), (7, .slice ao33 t32.length cap33)] (by kernel_rfl) fun a ha => ?_
 refine hK26 _ _ ?_; try clear hK26 K26
 refine wp_seq_k fun K34 hK34 => ?_
 have okS : Ok [] ([g21] ++ ([g13] ++ ([g5] ++ (M)))) w32.heap.size := Ok.nil _ _
 have z_f33 := f33
 have z_hBg5 := hBg5
 have z_hBg13 := hBg13
 have z_hBg21 := hBg21
 refine drw (fun w' => Chg [] w32 w') (by kernel_rfl) fun w35 hc36 _ => ?_
 have hS : Chg [] w32 w35 := (Chg.refl [] _).trans hc36 (Ok.nil _ _)
 have o1 : Ok [] ([g21] ++ ([g13] ++ ([g5] ++ (M)))) w32.heap.size := Ok.nil _ _
 have o2 : Ok ([g21] ++ ([g13] ++ ([g5] ++ (M)))) ([g21] ++ ([g13] ++ ([g5] ++ (M)))) w32.heap.size := (Ok.refl _ _)
 have hG := hG.chg hc36 o1 o2
 have f33 := f33.chg hc36 o1 o2
 have hBg5 := hBg5.chg hc36 (fun h => nomatch h)
 have hBg13 := hBg13.chg hc36 (fun h => nomatch h)
 have hBg21 := hBg21.chg hc36 (fun h => nomatch h)
 have hM : MS ([g21] ++ ([g13] ++ ([g5] ++ (M)))) w35 := (hM.chg hc36)
 have hC := hC.trans hc36 (Ok.nil _ _)
 obtain ⟨s37, H37, H⟩ := bind_some H
 have J37 : ∀ (a : Act) (w37 : World), Has a Tryz.f8.ntmps [(0, .bool s37)] → (Box w37 g5 (cA .u8 8 t3.1)) → (Box w37 g13 (cA .u8 8 t11.1)) → (Box w37 g21 (cA .u8 8 t19.1)) → (GF w37 ([g21] ++ ([g13] ++ ([g5] ++ (M))))) → (Chg [] w w37) → (MS ([g21] ++ ([g13] ++ ([g5] ++ (M)))) w37) → K34 a w37 := by
  intro a w37 ha hBg5 hBg13 hBg21 hG hC hM
  refine hK34 _ _ ?_; try clear hK34 K34
  refine wp_ret ?_
  try simp only [Exit.then, Exit.inBlock]
  have o1 : Ok [] ([g21] ++ ([g13] ++ ([g5] ++ (M)))) w37.heap.size := Ok.nil _ _
  have o2 : Ok (M) ([g21] ++ ([g13] ++ ([g5] ++ (M)))) w37.heap.size := (fun _ h => .inl (mr (mr (mr (h)))))
  have hG := hG.chg (Chg.refl [] _) o1 o2
  have hBg5 := hBg5.chg (Chg.refl [] _) (fun h => nomatch h)
  have hBg13 := hBg13.chg (Chg.refl [] _) (fun h => nomatch h)
  have hBg21 := hBg21.chg (Chg.refl [] _) (fun h => nomatch h)
  have hM : MS (M) w37 := (fun x h => hM.chg (Chg.refl [] _) x (mr (mr (mr (h)))))
  have hC := hC.trans (Chg.refl [] _) (Ok.nil _ _)
  obtain rfl := Option.some.inj H
  refine rt1 ha rfl rfl ?_
  exact ⟨rfl, hC, hM⟩
 have H := H37
 refine tkpz 0 0 (.int .i64 t3.2) ha (s := hS) (q := fun a ha => ?_)
 refine tkpz 1 0 (.bool (t3.2 == (0 : Int))) ha (s := hS) (q := fun a ha => ?_)
 refine tkpz 2 0 (.bool (t3.2 == (0 : Int))) ha (s := hS) (q := fun a ha => ?_)
 have ha := ha.sel (env' := [(29, .bool (t3.2 == (0 : Int))), (1, .pointer (some ⟨g5, 0, none⟩)), (3, .pointer (some ⟨g13, 0, none⟩)), (4, .int .i64 t11.2), (5, .pointer (some ⟨g21, 0, none⟩)), (6, .int .i64 t19.2), (7, .slice ao33 t32.length cap33)]) (by kernel_rfl)
 rcases Bool.eq_false_or_eq_true (t3.2 == (0 : Int)) with hb38 | hb38
 ·have ha := ha.lit hb38
  have H := ite_t hb38 H
  refine tkz 3 ha (v := .agg (cA .u8 8 t3.1).toArray) (y := fun w' hs => ldA_run (cs := (cA .u8 8 t3.1)) ha rfl (by kernel_rfl) (cells_sub (Box.cells (Box.chg z_hBg5 hs (fun h => nomatch h))) (all := (cA .u8 8 t3.1)) [] [] (by kernel_rfl))) (s := hS) (q := fun a ha => ?_)
  refine ac 4 (by kernel_rfl) (by rfl) fun K39 hK39 => ?_
  obtain ⟨t40, H40, H⟩ := bind_some H
  refine cl ha (by rfl) (by kernel_rfl) (by rfl) (by rfl) (by rfl) (community_Text.walk w35 _ hM hG t3.1 k _ H40) ?_
  rintro _ w40 ⟨rfl, hc40, hMn⟩ a ha
  have o1 : Ok [] ([g21] ++ ([g13] ++ ([g5] ++ (M)))) w35.heap.size := Ok.nil _ _
  have o2 : Ok ([g21] ++ ([g13] ++ ([g5] ++ (M)))) ([g21] ++ ([g13] ++ ([g5] ++ (M)))) w35.heap.size := (Ok.refl _ _)
  have hG := hG.chg hc40 o1 o2
  have f33 := f33.chg hc40 o1 o2
  have hBg5 := hBg5.chg hc40 (fun h => nomatch h)
  have hBg13 := hBg13.chg hc40 (fun h => nomatch h)
  have hBg21 := hBg21.chg hc40 (fun h => nomatch h)
  have hM : MS ([g21] ++ ([g13] ++ ([g5] ++ (M)))) w40 := (hM.chg hc40)
  have hC := hC.trans hc40 (Ok.nil _ _)
  have hS := hS.trans hc40 (Ok.nil _ _)
  refine ae hK39 hS ?_; clear hK39 K39
  refine tkpz 5 0 (.bool ((bstr t40).toList == (bstr ([114, 116, 58, 48, 58, 54, 53, 48, 48, 48, 58, 55, 55] : List UInt8)).toList)) ha (s := hS) (q := fun a ha => ?_)
  refine tkpz 6 3 (.bool ((bstr t40).toList == (bstr ([114, 116, 58, 48, 58, 54, 53, 48, 48, 48, 58, 55, 55] : List UInt8)).toList)) ha (s := hS) (q := fun a ha => ?_)
  refine tkpz 7 0 (.bool ((bstr t40).toList == (bstr ([114, 116, 58, 48, 58, 54, 53, 48, 48, 48, 58, 55, 55] : List UInt8)).toList)) ha (s := hS) (q := fun a ha => ?_)
  have ha := ha.sel (env' := [(34, .bool ((bstr t40).toList == (bstr ([114, 116, 58, 48, 58, 54, 53, 48, 48, 48, 58, 55, 55] : List UInt8)).toList)), (1, .pointer (some ⟨g5, 0, none⟩)), (3, .pointer (some ⟨g13, 0, none⟩)), (4, .int .i64 t11.2), (5, .pointer (some ⟨g21, 0, none⟩)), (6, .int .i64 t19.2), (7, .slice ao33 t32.length cap33)]) (by kernel_rfl)
  rcases Bool.eq_false_or_eq_true ((bstr t40).toList == (bstr ([114, 116, 58, 48, 58, 54, 53, 48, 48, 48, 58, 55, 55] : List UInt8)).toList) with hb41 | hb41
  ·have ha := ha.lit hb41
   have H := ite_t hb41 H
   refine tkpz 8 0 (.int .i64 t11.2) ha (s := hS) (q := fun a ha => ?_)
   refine tkpz 9 0 (.bool (t11.2 == (0 : Int))) ha (s := hS) (q := fun a ha => ?_)
   refine tkpz 10 3 (.bool (t11.2 == (0 : Int))) ha (s := hS) (q := fun a ha => ?_)
   refine tkpz 11 0 (.bool (t11.2 == (0 : Int))) ha (s := hS) (q := fun a ha => ?_)
   have ha := ha.sel (env' := [(38, .bool (t11.2 == (0 : Int))), (1, .pointer (some ⟨g5, 0, none⟩)), (3, .pointer (some ⟨g13, 0, none⟩)), (5, .pointer (some ⟨g21, 0, none⟩)), (6, .int .i64 t19.2), (7, .slice ao33 t32.length cap33)]) (by kernel_rfl)
   rcases Bool.eq_false_or_eq_true (t11.2 == (0 : Int)) with hb42 | hb42
   ·have ha := ha.lit hb42
    have H := ite_t hb42 H
    refine tkz 12 ha (v := .agg (cA .u8 8 t11.1).toArray) (y := fun w' hs => ldA_run (cs := (cA .u8 8 t11.1)) ha rfl (by kernel_rfl) (cells_sub (Box.cells (Box.chg z_hBg13 hs (fun h => nomatch h))) (all := (cA .u8 8 t11.1)) [] [] (by kernel_rfl))) (s := hS) (q := fun a ha => ?_)
    refine ac 13 (by kernel_rfl) (by rfl) fun K43 hK43 => ?_
    obtain ⟨t44, H44, H⟩ := bind_some H
    refine cl ha (by rfl) (by kernel_rfl) (by rfl) (by rfl) (by rfl) (community_Text.walk w40 _ hM hG t11.1 k _ H44) ?_
    rintro _ w44 ⟨rfl, hc44, hMn⟩ a ha
    have o1 : Ok [] ([g21] ++ ([g13] ++ ([g5] ++ (M)))) w40.heap.size := Ok.nil _ _
    have o2 : Ok ([g21] ++ ([g13] ++ ([g5] ++ (M)))) ([g21] ++ ([g13] ++ ([g5] ++ (M)))) w40.heap.size := (Ok.refl _ _)
    have hG := hG.chg hc44 o1 o2
    have f33 := f33.chg hc44 o1 o2
    have hBg5 := hBg5.chg hc44 (fun h => nomatch h)
    have hBg13 := hBg13.chg hc44 (fun h => nomatch h)
    have hBg21 := hBg21.chg hc44 (fun h => nomatch h)
    have hM : MS ([g21] ++ ([g13] ++ ([g5] ++ (M)))) w44 := (hM.chg hc44)
    have hC := hC.trans hc44 (Ok.nil _ _)
    have hS := hS.trans hc44 (Ok.nil _ _)
    refine ae hK43 hS ?_; clear hK43 K43
    refine tkpz 14 0 (.bool ((bstr t44).toList == (bstr ([105, 109, 112, 111, 114, 116, 58, 49, 48, 46, 48, 46, 48, 46, 49, 58, 51] : List UInt8)).toList)) ha (s := hS) (q := fun a ha => ?_)
    refine tkpz 15 3 (.bool ((bstr t44).toList == (bstr ([105, 109, 112, 111, 114, 116, 58, 49, 48, 46, 48, 46, 48, 46, 49, 58, 51] : List UInt8)).toList)) ha (s := hS) (q := fun a ha => ?_)
    refine tkpz 16 0 (.bool ((bstr t44).toList == (bstr ([105, 109, 112, 111, 114, 116, 58, 49, 48, 46, 48, 46, 48, 46, 49, 58, 51] : List UInt8)).toList)) ha (s := hS) (q := fun a ha => ?_)
    have ha := ha.sel (env' := [(43, .bool ((bstr t44).toList == (bstr ([105, 109, 112, 111, 114, 116, 58, 49, 48, 46, 48, 46, 48, 46, 49, 58, 51] : List UInt8)).toList)), (1, .pointer (some ⟨g5, 0, none⟩)), (5, .pointer (some ⟨g21, 0, none⟩)), (6, .int .i64 t19.2), (7, .slice ao33 t32.length cap33)]) (by kernel_rfl)
    rcases Bool.eq_false_or_eq_true ((bstr t44).toList == (bstr ([105, 109, 112, 111, 114, 116, 58, 49, 48, 46, 48, 46, 48, 46, 49, 58, 51] : List UInt8)).toList) with hb45 | hb45
    ·have ha := ha.lit hb45
     have H := ite_t hb45 H
     refine tkpz 17 0 (.int .i64 t19.2) ha (s := hS) (q := fun a ha => ?_)
     refine tkpz 18 0 (.bool (t19.2 == (0 : Int))) ha (s := hS) (q := fun a ha => ?_)
     refine tkpz 19 3 (.bool (t19.2 == (0 : Int))) ha (s := hS) (q := fun a ha => ?_)
     refine tkpz 20 0 (.bool (t19.2 == (0 : Int))) ha (s := hS) (q := fun a ha => ?_)
     have ha := ha.sel (env' := [(47, .bool (t19.2 == (0 : Int))), (1, .pointer (some ⟨g5, 0, none⟩)), (5, .pointer (some ⟨g21, 0, none⟩)), (7, .slice ao33 t32.length cap33)]) (by kernel_rfl)
     rcases Bool.eq_false_or_eq_true (t19.2 == (0 : Int)) with hb46 | hb46
     ·have ha := ha.lit hb46
      have H := ite_t hb46 H
      refine tkz 21 ha (v := .agg (cA .u8 8 t19.1).toArray) (y := fun w' hs => ldA_run (cs := (cA .u8 8 t19.1)) ha rfl (by kernel_rfl) (cells_sub (Box.cells (Box.chg z_hBg21 hs (fun h => nomatch h))) (all := (cA .u8 8 t19.1)) [] [] (by kernel_rfl))) (s := hS) (q := fun a ha => ?_)
      refine ac 22 (by kernel_rfl) (by rfl) fun K47 hK47 => ?_
      obtain ⟨t48, H48, H⟩ := bind_some H
      refine cl ha (by rfl) (by kernel_rfl) (by rfl) (by rfl) (by rfl) (community_Text.walk w44 _ hM hG t19.1 k _ H48) ?_
      rintro _ w48 ⟨rfl, hc48, hMn⟩ a ha
      have o1 : Ok [] ([g21] ++ ([g13] ++ ([g5] ++ (M)))) w44.heap.size := Ok.nil _ _
      have o2 : Ok ([g21] ++ ([g13] ++ ([g5] ++ (M)))) ([g21] ++ ([g13] ++ ([g5] ++ (M)))) w44.heap.size := (Ok.refl _ _)
      have hG := hG.chg hc48 o1 o2
      have f33 := f33.chg hc48 o1 o2
      have hBg5 := hBg5.chg hc48 (fun h => nomatch h)
      have hBg13 := hBg13.chg hc48 (fun h => nomatch h)
      have hBg21 := hBg21.chg hc48 (fun h => nomatch h)
      have hM : MS ([g21] ++ ([g13] ++ ([g5] ++ (M)))) w48 := (hM.chg hc48)
      have hC := hC.trans hc48 (Ok.nil _ _)
      have hS := hS.trans hc48 (Ok.nil _ _)
      refine ae hK47 hS ?_; clear hK47 K47
      refine tkpz 23 0 (.bool ((bstr t48).toList == (bstr ([115, 111, 117, 114, 99, 101, 58, 54, 53, 48, 48, 48] : List UInt8)).toList)) ha (s := hS) (q := fun a ha => ?_)
      refine tkpz 24 3 (.bool ((bstr t48).toList == (bstr ([115, 111, 117, 114, 99, 101, 58, 54, 53, 48, 48, 48] : List UInt8)).toList)) ha (s := hS) (q := fun a ha => ?_)
      refine tkpz 25 0 (.bool ((bstr t48).toList == (bstr ([115, 111, 117, 114, 99, 101, 58, 54, 53, 48, 48, 48] : List UInt8)).toList)) ha (s := hS) (q := fun a ha => ?_)
      have ha := ha.sel (env' := [(52, .bool ((bstr t48).toList == (bstr ([115, 111, 117, 114, 99, 101, 58, 54, 53, 48, 48, 48] : List UInt8)).toList)), (1, .pointer (some ⟨g5, 0, none⟩)), (7, .slice ao33 t32.length cap33)]) (by kernel_rfl)
      rcases Bool.eq_false_or_eq_true ((bstr t48).toList == (bstr ([115, 111, 117, 114, 99, 101, 58, 54, 53, 48, 48, 48] : List UInt8)).toList) with hb49 | hb49
      ·have ha := ha.lit hb49
       have H := ite_t hb49 H
       refine tkpz 26 0 (.slice ao33 t32.length cap33) ha (s := hS) (q := fun a ha => ?_)
       refine tkpz 27 0 (.int .i64 (t32.length : Int)) ha (s := hS) (q := fun a ha => ?_)
       refine tkpz 28 0 (.bool ((t32.length : Int) == (2 : Int))) ha (s := hS) (q := fun a ha => ?_)
       refine tkpz 29 3 (.bool ((t32.length : Int) == (2 : Int))) ha (s := hS) (q := fun a ha => ?_)
       refine tkpz 30 0 (.bool ((t32.length : Int) == (2 : Int))) ha (s := hS) (q := fun a ha => ?_)
       have ha := ha.sel (env' := [(57, .bool ((t32.length : Int) == (2 : Int))), (1, .pointer (some ⟨g5, 0, none⟩)), (7, .slice ao33 t32.length cap33)]) (by kernel_rfl)
       rcases Bool.eq_false_or_eq_true ((t32.length : Int) == (2 : Int)) with hb50 | hb50
       ·have ha := ha.lit hb50
        have H := ite_t hb50 H
        refine tkpz 31 0 (.slice ao33 t32.length cap33) ha (s := hS) (q := fun a ha => ?_)
        obtain ⟨⟨hx51, hx51'⟩, H⟩ := ite_some H
        obtain ⟨ge52, oe530, cs54, hx51eq, hn57, hR55, hE56⟩ := RSl.elem z_f33 (Int.toNat (0 : Int)) (by omega)
        rw [rd_get] at hR55
        obtain rfl := hR55
        have hE56 : ∀ j v, (cA .u8 8 (rd t32 (0 : Int)))[j]? = some v → w32.cell? ⟨ge52, (oe530 + (Int.toNat (0 : Int)) * (rArr .u8 8).sz) + j, none⟩ = some v := hE56
        refine tkz 32 ha (v := .pointer (some ⟨ge52, (oe530 + (Int.toNat (0 : Int)) * (rArr .u8 8).sz), none⟩)) (y := fun w' _ => ix_run (r := (rArr .u8 8)) (T := 27) ha (by kernel_rfl) (by kernel_rfl) (by rfl) (by rfl) hx51eq hx51 hx51') (s := hS) (q := fun a ha => ?_)
        refine tkz 33 ha (v := .agg (cA .u8 8 (rd t32 (0 : Int))).toArray) (y := fun w' hs => ldA_run (cs := (cA .u8 8 (rd t32 (0 : Int)))) ha rfl (by kernel_rfl) (cells_sub (fun j v hv => cell_keep hs okS hn57 (hE56 j v hv)) (all := (cA .u8 8 (rd t32 (0 : Int)))) [] [] (by kernel_rfl))) (s := hS) (q := fun a ha => ?_)
        refine tkz 34 ha (v := .agg (cA .u8 8 t3.1).toArray) (y := fun w' hs => ldA_run (cs := (cA .u8 8 t3.1)) ha rfl (by kernel_rfl) (cells_sub (Box.cells (Box.chg z_hBg5 hs (fun h => nomatch h))) (all := (cA .u8 8 t3.1)) [] [] (by kernel_rfl))) (s := hS) (q := fun a ha => ?_)
        refine tkz 35 ha (v := .bool (eqA 8 (rd t32 (0 : Int)) t3.1)) (y := fun w' hs => eqs_run (r := (eqA 8 (rd t32 (0 : Int)) t3.1)) (m := 9) ha rfl rfl (by kernel_rfl) rfl (by kernel_rfl) w') (s := hS) (q := fun a ha => ?_)
        refine tkpz 36 3 (.bool (eqA 8 (rd t32 (0 : Int)) t3.1)) ha (s := hS) (q := fun a ha => ?_)
        refine tkpz 37 0 (.bool (eqA 8 (rd t32 (0 : Int)) t3.1)) ha (s := hS) (q := fun a ha => ?_)
        have ha := ha.sel (env' := [(64, .bool (eqA 8 (rd t32 (0 : Int)) t3.1)), (1, .pointer (some ⟨g5, 0, none⟩)), (7, .slice ao33 t32.length cap33)]) (by kernel_rfl)
        rcases Bool.eq_false_or_eq_true ((eqA 8 (rd t32 (0 : Int)) t3.1)) with hb58 | hb58
        ·have ha := ha.lit hb58
         have H := ite_t hb58 H
         refine tkpz 38 0 (.slice ao33 t32.length cap33) ha (s := hS) (q := fun a ha => ?_)
         refine tkz 39 ha (v := .agg (cA .u8 8 t3.1).toArray) (y := fun w' hs => ldA_run (cs := (cA .u8 8 t3.1)) ha rfl (by kernel_rfl) (cells_sub (Box.cells (Box.chg z_hBg5 hs (fun h => nomatch h))) (all := (cA .u8 8 t3.1)) [] [] (by kernel_rfl))) (s := hS) (q := fun a ha => ?_)
         refine ac 40 (by kernel_rfl) (by rfl) fun K59 hK59 => ?_
         refine bslA (vals := ([.agg (cA .u8 8 t3.1).toArray] : List Value)) (T := 27) (z := .agg (cA .u8 8 (List.replicate 8 (0 : Int))).toArray) ha rfl (by kernel_rfl) rfl (by kernel_rfl) (s := 8) (by kernel_rfl) rfl rfl (fun w => by kernel_rfl) (by kernel_rfl) rfl rfl rfl fun a w60 g61 hN62 ha => ?_
         have hN62 := (show New _ _ _ (.cells (((cA .u8 8 t3.1) ++ ([] : List Value))).toArray 27 (0, 0)) from hN62)
         have o1 : Ok [] ([g21] ++ ([g13] ++ ([g5] ++ (M)))) w48.heap.size := Ok.nil _ _
         have o2 : Ok ([g61] ++ ([g21] ++ ([g13] ++ ([g5] ++ (M))))) ([g21] ++ ([g13] ++ ([g5] ++ (M)))) w48.heap.size := (Ok.app (hN62.ok _) (Ok.refl _ _))
         have hG := hG.chg hN62.chg o1 o2
         have f33 := f33.chg hN62.chg o1 o2
         have hBg5 := hBg5.chg hN62.chg (fun h => nomatch h)
         have hBg13 := hBg13.chg hN62.chg (fun h => nomatch h)
         have hBg21 := hBg21.chg hN62.chg (fun h => nomatch h)
         have p_iD000063_i23 : ∀ x ∈ [g61], x ∉ ([g21]) := fun x hx hy => absurd (hM x (ml hy)) (Nat.not_lt.2 ((hN62.ge1) x hx))
         have p_iD000063_i15 : ∀ x ∈ [g61], x ∉ ([g13]) := fun x hx hy => absurd (hM x (mr (ml hy))) (Nat.not_lt.2 ((hN62.ge1) x hx))
         have p_iD000063_i7 : ∀ x ∈ [g61], x ∉ ([g5]) := fun x hx hy => absurd (hM x (mr (mr (ml hy)))) (Nat.not_lt.2 ((hN62.ge1) x hx))
         have p_iD000063_M : ∀ x ∈ [g61], x ∉ M := fun x hx hy => absurd (hM x (mr (mr (mr (hy))))) (Nat.not_lt.2 ((hN62.ge1) x hx))
         have e_iD000063 : ∀ x ∈ [g61], w.heap.size ≤ x := fun x hx => Nat.le_trans hC.size ((hN62.ge1) x hx)
         have hM : MS ([g61] ++ ([g21] ++ ([g13] ++ ([g5] ++ (M))))) w60 := (MS.app hN62.ms (hM.chg hN62.chg))
         have hC := hC.trans hN62.chg (Ok.nil _ _)
         have d_iD000063 : Ok ([g61]) [] w32.heap.size := fun x hx => .inr (Nat.le_trans hS.size ((hN62.ge1) x hx))
         have hS := hS.trans hN62.chg (Ok.nil _ _)
         have f64 : Own (rArr .u8 8) 27 w60 ([g61] ++ ([g21] ++ ([g13] ++ ([g5] ++ (M))))) (some ⟨g61, 0, none⟩) 1 ([t3.1] : List (List Int)) := hN62.own ⟨(cA .u8 8 t3.1), _, rfl, rfl, rfl⟩ (Nat.le_of_ble_eq_true rfl)
         refine ae hK59 hS ?_; clear hK59 K59
         refine ac 41 (by kernel_rfl) (by rfl) fun K65 hK65 => ?_
         have fz := f64.toRSl (M' := [g21] ++ ([g13] ++ ([g5] ++ (M)))) (fun _ h => .inl (mr (h))) (fun x hx hm => (List.mem_append.1 hm).elim (fun h => p_iD000063_i23 x hx h) (fun h => (List.mem_append.1 h).elim (fun h => p_iD000063_i15 x hx h) (fun h => (List.mem_append.1 h).elim (fun h => p_iD000063_i7 x hx h) (fun h => p_iD000063_M x hx h))))
         have o1 : Ok [] ([g61] ++ ([g21] ++ ([g13] ++ ([g5] ++ (M))))) w60.heap.size := Ok.nil _ _
         have o2 : Ok ([g21] ++ ([g13] ++ ([g5] ++ (M)))) ([g61] ++ ([g21] ++ ([g13] ++ ([g5] ++ (M))))) w60.heap.size := (fun _ h => .inl (mr (h)))
         have hG := hG.chg (Chg.refl [] _) o1 o2
         have f33 := f33.chg (Chg.refl [] _) o1 o2
         have hBg5 := hBg5.chg (Chg.refl [] _) (fun h => nomatch h)
         have hBg13 := hBg13.chg (Chg.refl [] _) (fun h => nomatch h)
         have hBg21 := hBg21.chg (Chg.refl [] _) (fun h => nomatch h)
         have hM : MS ([g21] ++ ([g13] ++ ([g5] ++ (M)))) w60 := (fun x h => hM.chg (Chg.refl [] _) x (mr (h)))
         have hC := hC.trans (Chg.refl [] _) (Ok.nil _ _)
         have hS := hS.trans (Chg.refl [] _) (Ok.nil _ _)
         have f64 := fz
         obtain ⟨t66, H66, H⟩ := bind_some H
         refine cl ha (by rfl) (by kernel_rfl) (by rfl) (by rfl) (by rfl) (community_Meet.walk w60 _ hM t32 ao33 cap33 f33 ([t3.1] : List (List Int)) (some ⟨g61, 0, none⟩) 1 f64 k _ H66) ?_
         rintro _ w66 ⟨rfl, hc66, hMn⟩ a ha
         have o1 : Ok [] ([g21] ++ ([g13] ++ ([g5] ++ (M)))) w60.heap.size := Ok.nil _ _
         have o2 : Ok ([g21] ++ ([g13] ++ ([g5] ++ (M)))) ([g21] ++ ([g13] ++ ([g5] ++ (M)))) w60.heap.size := (Ok.refl _ _)
         have hG := hG.chg hc66 o1 o2
         have f33 := f33.chg hc66 o1 o2
         have f64 := f64.chg hc66 o1 o2
         have hBg5 := hBg5.chg hc66 (fun h => nomatch h)
         have hBg13 := hBg13.chg hc66 (fun h => nomatch h)
         have hBg21 := hBg21.chg hc66 (fun h => nomatch h)
         have hM : MS ([g21] ++ ([g13] ++ ([g5] ++ (M)))) w66 := (hM.chg hc66)
         have hC := hC.trans hc66 (Ok.nil _ _)
         have hS := hS.trans hc66 (Ok.nil _ _)
         refine ae hK65 hS ?_; clear hK65 K65
         refine tkpz 42 3 (.bool t66) ha (s := hS) (q := fun a ha => ?_)
         refine tkpz 43 0 (.bool t66) ha (s := hS) (q := fun a ha => ?_)
         have ha := ha.sel (env' := [(70, .bool t66)]) (by kernel_rfl)
         rcases Bool.eq_false_or_eq_true (t66) with hb67 | hb67
         ·have ha := ha.lit hb67
          have H := ite_t hb67 H
          refine ac 44 (by kernel_rfl) (by rfl) fun K68 hK68 => ?_
          refine opk (v := .agg (cA .u8 8 ([(0 : Int), (9 : Int), (0 : Int), (0 : Int), (0 : Int), (0 : Int), (0 : Int), (0 : Int)] : List Int)).toArray) ha rfl rfl rfl rfl rfl (fun w => by kernel_rfl) fun a ha => ?_
          refine ae hK68 hS ?_; clear hK68 K68
          refine ac 45 (by kernel_rfl) (by rfl) fun K69 hK69 => ?_
          obtain ⟨t70, H70, H⟩ := bind_some H
          refine cl ha (by rfl) (by kernel_rfl) (by rfl) (by rfl) (by rfl) (community_Kind.walk w66 _ hM ([(0 : Int), (9 : Int), (0 : Int), (0 : Int), (0 : Int), (0 : Int), (0 : Int), (0 : Int)] : List Int) _ H70) ?_
          rintro _ w70 ⟨rfl, hc70, hMn⟩ a ha
          have o1 : Ok [] ([g21] ++ ([g13] ++ ([g5] ++ (M)))) w66.heap.size := Ok.nil _ _
          have o2 : Ok ([g21] ++ ([g13] ++ ([g5] ++ (M)))) ([g21] ++ ([g13] ++ ([g5] ++ (M)))) w66.heap.size := (Ok.refl _ _)
          have hG := hG.chg hc70 o1 o2
          have hBg5 := hBg5.chg hc70 (fun h => nomatch h)
          have hBg13 := hBg13.chg hc70 (fun h => nomatch h)
          have hBg21 := hBg21.chg hc70 (fun h => nomatch h)
          have hM : MS ([g21] ++ ([g13] ++ ([g5] ++ (M)))) w70 := (hM.chg hc70)
          have hC := hC.trans hc70 (Ok.nil _ _)
          have hS := hS.trans hc70 (Ok.nil _ _)
          refine ae hK69 hS ?_; clear hK69 K69
          refine tkpz 46 0 (.bool (t70 == (0 : Int))) ha (s := hS) (q := fun a ha => ?_)
          refine tkpz 47 3 (.bool (t70 == (0 : Int))) ha (s := hS) (q := fun a ha => ?_)
          refine tkpz 48 0 (.bool (t70 == (0 : Int))) ha (s := hS) (q := fun a ha => ?_)
          refine dn (by kernel_rfl) ?_
          obtain rfl := Option.some.inj H
          exact J37 _ _ (ha.sel (by kernel_rfl)) hBg5 hBg13 hBg21 hG hC hM
         ·have ha := ha.lit hb67
          have H := ite_f hb67 H
          refine tkoz 44 ha (s := hS) (q := fun a ha => ?_)
          refine tkoz 45 ha (s := hS) (q := fun a ha => ?_)
          refine tkoz 46 ha (s := hS) (q := fun a ha => ?_)
          refine tkpz 47 4 (.bool false) ha (s := hS) (q := fun a ha => ?_)
          refine tkpz 48 0 (.bool false) ha (s := hS) (q := fun a ha => ?_)
          refine dn (by kernel_rfl) ?_
          obtain rfl := Option.some.inj H
          exact J37 _ _ (ha.sel (by kernel_rfl)) hBg5 hBg13 hBg21 hG hC hM
        ·have ha := ha.lit hb58
         have H := ite_f hb58 H
         refine tkoz 38 ha (s := hS) (q := fun a ha => ?_)
         refine tkoz 39 ha (s := hS) (q := fun a ha => ?_)
         refine tkoz 40 ha (s := hS) (q := fun a ha => ?_)
         refine tkoz 41 ha (s := hS) (q := fun a ha => ?_)
         refine tkpz 42 4 (.bool false) ha (s := hS) (q := fun a ha => ?_)
         refine tkpz 43 0 (.bool false) ha (s := hS) (q := fun a ha => ?_)
         refine tkoz 44 ha (s := hS) (q := fun a ha => ?_)
         refine tkoz 45 ha (s := hS) (q := fun a ha => ?_)
         refine tkoz 46 ha (s := hS) (q := fun a ha => ?_)
         refine tkpz 47 4 (.bool false) ha (s := hS) (q := fun a ha => ?_)
         refine tkpz 48 0 (.bool false) ha (s := hS) (q := fun a ha => ?_)
         refine dn (by kernel_rfl) ?_
         obtain rfl := Option.some.inj H
         exact J37 _ _ (ha.sel (by kernel_rfl)) hBg5 hBg13 hBg21 hG hC hM
       ·have ha := ha.lit hb50
        have H := ite_f hb50 H
        refine tkoz 31 ha (s := hS) (q := fun a ha => ?_)
        refine tkoz 32 ha (s := hS) (q := fun a ha => ?_)
        refine tkoz 33 ha (s := hS) (q := fun a ha => ?_)
        refine tkoz 34 ha (s := hS) (q := fun a ha => ?_)
        refine tkoz 35 ha (s := hS) (q := fun a ha => ?_)
        refine tkpz 36 4 (.bool false) ha (s := hS) (q := fun a ha => ?_)
        refine tkpz 37 0 (.bool false) ha (s := hS) (q := fun a ha => ?_)
        refine tkoz 38 ha (s := hS) (q := fun a ha => ?_)
        refine tkoz 39 ha (s := hS) (q := fun a ha => ?_)
        refine tkoz 40 ha (s := hS) (q := fun a ha => ?_)
        refine tkoz 41 ha (s := hS) (q := fun a ha => ?_)
        refine tkpz 42 4 (.bool false) ha (s := hS) (q := fun a ha => ?_)
        refine tkpz 43 0 (.bool false) ha (s := hS) (q := fun a ha => ?_)
        refine tkoz 44 ha (s := hS) (q := fun a ha => ?_)
        refine tkoz 45 ha (s := hS) (q := fun a ha => ?_)
        refine tkoz 46 ha (s := hS) (q := fun a ha => ?_)
        refine tkpz 47 4 (.bool false) ha (s := hS) (q := fun a ha => ?_)
        refine tkpz 48 0 (.bool false) ha (s := hS) (q := fun a ha => ?_)
        refine dn (by kernel_rfl) ?_
        obtain rfl := Option.some.inj H
        exact J37 _ _ (ha.sel (by kernel_rfl)) hBg5 hBg13 hBg21 hG hC hM
      ·have ha := ha.lit hb49
       have H := ite_f hb49 H
       refine tkoz 26 ha (s := hS) (q := fun a ha => ?_)
       refine tkoz 27 ha (s := hS) (q := fun a ha => ?_)
       refine tkoz 28 ha (s := hS) (q := fun a ha => ?_)
       refine tkpz 29 4 (.bool false) ha (s := hS) (q := fun a ha => ?_)
       refine tkpz 30 0 (.bool false) ha (s := hS) (q := fun a ha => ?_)
       refine tkoz 31 ha (s := hS) (q := fun a ha => ?_)
       refine tkoz 32 ha (s := hS) (q := fun a ha => ?_)
       refine tkoz 33 ha (s := hS) (q := fun a ha => ?_)
       refine tkoz 34 ha (s := hS) (q := fun a ha => ?_)
       refine tkoz 35 ha (s := hS) (q := fun a ha => ?_)
       refine tkpz 36 4 (.bool false) ha (s := hS) (q := fun a ha => ?_)
       refine tkpz 37 0 (.bool false) ha (s := hS) (q := fun a ha => ?_)
       refine tkoz 38 ha (s := hS) (q := fun a ha => ?_)
       refine tkoz 39 ha (s := hS) (q := fun a ha => ?_)
       refine tkoz 40 ha (s := hS) (q := fun a ha => ?_)
       refine tkoz 41 ha (s := hS) (q := fun a ha => ?_)
       refine tkpz 42 4 (.bool false) ha (s := hS) (q := fun a ha => ?_)
       refine tkpz 43 0 (.bool false) ha (s := hS) (q := fun a ha => ?_)
       refine tkoz 44 ha (s := hS) (q := fun a ha => ?_)
       refine tkoz 45 ha (s := hS) (q := fun a ha => ?_)
       refine tkoz 46 ha (s := hS) (q := fun a ha => ?_)
       refine tkpz 47 4 (.bool false) ha (s := hS) (q := fun a ha => ?_)
       refine tkpz 48 0 (.bool false) ha (s := hS) (q := fun a ha => ?_)
       refine dn (by kernel_rfl) ?_
       obtain rfl := Option.some.inj H
       exact J37 _ _ (ha.sel (by kernel_rfl)) hBg5 hBg13 hBg21 hG hC hM
     ·have ha := ha.lit hb46
      have H := ite_f hb46 H
      refine tkoz 21 ha (s := hS) (q := fun a ha => ?_)
      refine tkoz 22 ha (s := hS) (q := fun a ha => ?_)
      refine tkoz 23 ha (s := hS) (q := fun a ha => ?_)
      refine tkpz 24 4 (.bool false) ha (s := hS) (q := fun a ha => ?_)
      refine tkpz 25 0 (.bool false) ha (s := hS) (q := fun a ha => ?_)
      refine tkoz 26 ha (s := hS) (q := fun a ha => ?_)
      refine tkoz 27 ha (s := hS) (q := fun a ha => ?_)
      refine tkoz 28 ha (s := hS) (q := fun a ha => ?_)
      refine tkpz 29 4 (.bool false) ha (s := hS) (q := fun a ha => ?_)
      refine tkpz 30 0 (.bool false) ha (s := hS) (q := fun a ha => ?_)
      refine tkoz 31 ha (s := hS) (q := fun a ha => ?_)
      refine tkoz 32 ha (s := hS) (q := fun a ha => ?_)
      refine tkoz 33 ha (s := hS) (q := fun a ha => ?_)
      refine tkoz 34 ha (s := hS) (q := fun a ha => ?_)
      refine tkoz 35 ha (s := hS) (q := fun a ha => ?_)
      refine tkpz 36 4 (.bool false) ha (s := hS) (q := fun a ha => ?_)
      refine tkpz 37 0 (.bool false) ha (s := hS) (q := fun a ha => ?_)
      refine tkoz 38 ha (s := hS) (q := fun a ha => ?_)
      refine tkoz 39 ha (s := hS) (q := fun a ha => ?_)
      refine tkoz 40 ha (s := hS) (q := fun a ha => ?_)
      refine tkoz 41 ha (s := hS) (q := fun a ha => ?_)
      refine tkpz 42 4 (.bool false) ha (s := hS) (q := fun a ha => ?_)
      refine tkpz 43 0 (.bool false) ha (s := hS) (q := fun a ha => ?_)
      refine tkoz 44 ha (s := hS) (q := fun a ha => ?_)
      refine tkoz 45 ha (s := hS) (q := fun a ha => ?_)
      refine tkoz 46 ha (s := hS) (q := fun a ha => ?_)
      refine tkpz 47 4 (.bool false) ha (s := hS) (q := fun a ha => ?_)
      refine tkpz 48 0 (.bool false) ha (s := hS) (q := fun a ha => ?_)
      refine dn (by kernel_rfl) ?_
      obtain rfl := Option.some.inj H
      exact J37 _ _ (ha.sel (by kernel_rfl)) hBg5 hBg13 hBg21 hG hC hM
    ·have ha := ha.lit hb45
     have H := ite_f hb45 H
     refine tkoz 17 ha (s := hS) (q := fun a ha => ?_)
     refine tkoz 18 ha (s := hS) (q := fun a ha => ?_)
     refine tkpz 19 4 (.bool false) ha (s := hS) (q := fun a ha => ?_)
     refine tkpz 20 0 (.bool false) ha (s := hS) (q := fun a ha => ?_)
     refine tkoz 21 ha (s := hS) (q := fun a ha => ?_)
     refine tkoz 22 ha (s := hS) (q := fun a ha => ?_)
     refine tkoz 23 ha (s := hS) (q := fun a ha => ?_)
     refine tkpz 24 4 (.bool false) ha (s := hS) (q := fun a ha => ?_)
     refine tkpz 25 0 (.bool false) ha (s := hS) (q := fun a ha => ?_)
     refine tkoz 26 ha (s := hS) (q := fun a ha => ?_)
     refine tkoz 27 ha (s := hS) (q := fun a ha => ?_)
     refine tkoz 28 ha (s := hS) (q := fun a ha => ?_)
     refine tkpz 29 4 (.bool false) ha (s := hS) (q := fun a ha => ?_)
     refine tkpz 30 0 (.bool false) ha (s := hS) (q := fun a ha => ?_)
     refine tkoz 31 ha (s := hS) (q := fun a ha => ?_)
     refine tkoz 32 ha (s := hS) (q := fun a ha => ?_)
     refine tkoz 33 ha (s := hS) (q := fun a ha => ?_)
     refine tkoz 34 ha (s := hS) (q := fun a ha => ?_)
     refine tkoz 35 ha (s := hS) (q := fun a ha => ?_)
     refine tkpz 36 4 (.bool false) ha (s := hS) (q := fun a ha => ?_)
     refine tkpz 37 0 (.bool false) ha (s := hS) (q := fun a ha => ?_)
     refine tkoz 38 ha (s := hS) (q := fun a ha => ?_)
     refine tkoz 39 ha (s := hS) (q := fun a ha => ?_)
     refine tkoz 40 ha (s := hS) (q := fun a ha => ?_)
     refine tkoz 41 ha (s := hS) (q := fun a ha => ?_)
     refine tkpz 42 4 (.bool false) ha (s := hS) (q := fun a ha => ?_)
     refine tkpz 43 0 (.bool false) ha (s := hS) (q := fun a ha => ?_)
     refine tkoz 44 ha (s := hS) (q := fun a ha => ?_)
     refine tkoz 45 ha (s := hS) (q := fun a ha => ?_)
     refine tkoz 46 ha (s := hS) (q := fun a ha => ?_)
     refine tkpz 47 4 (.bool false) ha (s := hS) (q := fun a ha => ?_)
     refine tkpz 48 0 (.bool false) ha (s := hS) (q := fun a ha => ?_)
     refine dn (by kernel_rfl) ?_
     obtain rfl := Option.some.inj H
     exact J37 _ _ (ha.sel (by kernel_rfl)) hBg5 hBg13 hBg21 hG hC hM
   ·have ha := ha.lit hb42
    have H := ite_f hb42 H
    refine tkoz 12 ha (s := hS) (q := fun a ha => ?_)
    refine tkoz 13 ha (s := hS) (q := fun a ha => ?_)
    refine tkoz 14 ha (s := hS) (q := fun a ha => ?_)
    refine tkpz 15 4 (.bool false) ha (s := hS) (q := fun a ha => ?_)
    refine tkpz 16 0 (.bool false) ha (s := hS) (q := fun a ha => ?_)
    refine tkoz 17 ha (s := hS) (q := fun a ha => ?_)
    refine tkoz 18 ha (s := hS) (q := fun a ha => ?_)
    refine tkpz 19 4 (.bool false) ha (s := hS) (q := fun a ha => ?_)
    refine tkpz 20 0 (.bool false) ha (s := hS) (q := fun a ha => ?_)
    refine tkoz 21 ha (s := hS) (q := fun a ha => ?_)
    refine tkoz 22 ha (s := hS) (q := fun a ha => ?_)
    refine tkoz 23 ha (s := hS) (q := fun a ha => ?_)
    refine tkpz 24 4 (.bool false) ha (s := hS) (q := fun a ha => ?_)
    refine tkpz 25 0 (.bool false) ha (s := hS) (q := fun a ha => ?_)
    refine tkoz 26 ha (s := hS) (q := fun a ha => ?_)
    refine tkoz 27 ha (s := hS) (q := fun a ha => ?_)
    refine tkoz 28 ha (s := hS) (q := fun a ha => ?_)
    refine tkpz 29 4 (.bool false) ha (s := hS) (q := fun a ha => ?_)
    refine tkpz 30 0 (.bool false) ha (s := hS) (q := fun a ha => ?_)
    refine tkoz 31 ha (s := hS) (q := fun a ha => ?_)
    refine tkoz 32 ha (s := hS) (q := fun a ha => ?_)
    refine tkoz 33 ha (s := hS) (q := fun a ha => ?_)
    refine tkoz 34 ha (s := hS) (q := fun a ha => ?_)
    refine tkoz 35 ha (s := hS) (q := fun a ha => ?_)
    refine tkpz 36 4 (.bool false) ha (s := hS) (q := fun a ha => ?_)
    refine tkpz 37 0 (.bool false) ha (s := hS) (q := fun a ha => ?_)
    refine tkoz 38 ha (s := hS) (q := fun a ha => ?_)
    refine tkoz 39 ha (s := hS) (q := fun a ha => ?_)
    refine tkoz 40 ha (s := hS) (q := fun a ha => ?_)
    refine tkoz 41 ha (s := hS) (q := fun a ha => ?_)
    refine tkpz 42 4 (.bool false) ha (s := hS) (q := fun a ha => ?_)
    refine tkpz 43 0 (.bool false) ha (s := hS) (q := fun a ha => ?_)
    refine tkoz 44 ha (s := hS) (q := fun a ha => ?_)
    refine tkoz 45 ha (s := hS) (q := fun a ha => ?_)
    refine tkoz 46 ha (s := hS) (q := fun a ha => ?_)
    refine tkpz 47 4 (.bool false) ha (s := hS) (q := fun a ha => ?_)
    refine tkpz 48 0 (.bool false) ha (s := hS) (q := fun a ha => ?_)
    refine dn (by kernel_rfl) ?_
    obtain rfl := Option.some.inj H
    exact J37 _ _ (ha.sel (by kernel_rfl)) hBg5 hBg13 hBg21 hG hC hM
  ·have ha := ha.lit hb41
   have H := ite_f hb41 H
   refine tkoz 8 ha (s := hS) (q := fun a ha => ?_)
   refine tkoz 9 ha (s := hS) (q := fun a ha => ?_)
   refine tkpz 10 4 (.bool false) ha (s := hS) (q := fun a ha => ?_)
   refine tkpz 11 0 (.bool false) ha (s := hS) (q := fun a ha => ?_)
   refine tkoz 12 ha (s := hS) (q := fun a ha => ?_)
   refine tkoz 13 ha (s := hS) (q := fun a ha => ?_)
   refine tkoz 14 ha (s := hS) (q := fun a ha => ?_)
   refine tkpz 15 4 (.bool false) ha (s := hS) (q := fun a ha => ?_)
   refine tkpz 16 0 (.bool false) ha (s := hS) (q := fun a ha => ?_)
   refine tkoz 17 ha (s := hS) (q := fun a ha => ?_)
   refine tkoz 18 ha (s := hS) (q := fun a ha => ?_)
   refine tkpz 19 4 (.bool false) ha (s := hS) (q := fun a ha => ?_)
   refine tkpz 20 0 (.bool false) ha (s := hS) (q := fun a ha => ?_)
   refine tkoz 21 ha (s := hS) (q := fun a ha => ?_)
   refine tkoz 22 ha (s := hS) (q := fun a ha => ?_)
   refine tkoz 23 ha (s := hS) (q := fun a ha => ?_)
   refine tkpz 24 4 (.bool false) ha (s := hS) (q := fun a ha => ?_)
   refine tkpz 25 0 (.bool false) ha (s := hS) (q := fun a ha => ?_)
   refine tkoz 26 ha (s := hS) (q := fun a ha => ?_)
   refine tkoz 27 ha (s := hS) (q := fun a ha => ?_)
   refine tkoz 28 ha (s := hS) (q := fun a ha => ?_)
   refine tkpz 29 4 (.bool false) ha (s := hS) (q := fun a ha => ?_)
   refine tkpz 30 0 (.bool false) ha (s := hS) (q := fun a ha => ?_)
   refine tkoz 31 ha (s := hS) (q := fun a ha => ?_)
   refine tkoz 32 ha (s := hS) (q := fun a ha => ?_)
   refine tkoz 33 ha (s := hS) (q := fun a ha => ?_)
   refine tkoz 34 ha (s := hS) (q := fun a ha => ?_)
   refine tkoz 35 ha (s := hS) (q := fun a ha => ?_)
   refine tkpz 36 4 (.bool false) ha (s := hS) (q := fun a ha => ?_)
   refine tkpz 37 0 (.bool false) ha (s := hS) (q := fun a ha => ?_)
   refine tkoz 38 ha (s := hS) (q := fun a ha => ?_)
   refine tkoz 39 ha (s := hS) (q := fun a ha => ?_)
   refine tkoz 40 ha (s := hS) (q := fun a ha => ?_)
   refine tkoz 41 ha (s := hS) (q := fun a ha => ?_)
   refine tkpz 42 4 (.bool false) ha (s := hS) (q := fun a ha => ?_)
   refine tkpz 43 0 (.bool false) ha (s := hS) (q := fun a ha => ?_)
   refine tkoz 44 ha (s := hS) (q := fun a ha => ?_)
   refine tkoz 45 ha (s := hS) (q := fun a ha => ?_)
   refine tkoz 46 ha (s := hS) (q := fun a ha => ?_)
   refine tkpz 47 4 (.bool false) ha (s := hS) (q := fun a ha => ?_)
   refine tkpz 48 0 (.bool false) ha (s := hS) (q := fun a ha => ?_)
   refine dn (by kernel_rfl) ?_
   obtain rfl := Option.some.inj H
   exact J37 _ _ (ha.sel (by kernel_rfl)) hBg5 hBg13 hBg21 hG hC hM
 ·have ha := ha.lit hb38
  have H := ite_f hb38 H
  refine tkoz 3 ha (s := hS) (q := fun a ha => ?_)
  refine tkoz 4 ha (s := hS) (q := fun a ha => ?_)
  refine tkoz 5 ha (s := hS) (q := fun a ha => ?_)
  refine tkpz 6 4 (.bool false) ha (s := hS) (q := fun a ha => ?_)
  refine tkpz 7 0 (.bool false) ha (s := hS) (q := fun a ha => ?_)
  refine tkoz 8 ha (s := hS) (q := fun a ha => ?_)
  refine tkoz 9 ha (s := hS) (q := fun a ha => ?_)
  refine tkpz 10 4 (.bool false) ha (s := hS) (q := fun a ha => ?_)
  refine tkpz 11 0 (.bool false) ha (s := hS) (q := fun a ha => ?_)
  refine tkoz 12 ha (s := hS) (q := fun a ha => ?_)
  refine tkoz 13 ha (s := hS) (q := fun a ha => ?_)
  refine tkoz 14 ha (s := hS) (q := fun a ha => ?_)
  refine tkpz 15 4 (.bool false) ha (s := hS) (q := fun a ha => ?_)
  refine tkpz 16 0 (.bool false) ha (s := hS) (q := fun a ha => ?_)
  refine tkoz 17 ha (s := hS) (q := fun a ha => ?_)
  refine tkoz 18 ha (s := hS) (q := fun a ha => ?_)
  refine tkpz 19 4 (.bool false) ha (s := hS) (q := fun a ha => ?_)
  refine tkpz 20 0 (.bool false) ha (s := hS) (q := fun a ha => ?_)
  refine tkoz 21 ha (s := hS) (q := fun a ha => ?_)
  refine tkoz 22 ha (s := hS) (q := fun a ha => ?_)
  refine tkoz 23 ha (s := hS) (q := fun a ha => ?_)
  refine tkpz 24 4 (.bool false) ha (s := hS) (q := fun a ha => ?_)
  refine tkpz 25 0 (.bool false) ha (s := hS) (q := fun a ha => ?_)
  refine tkoz 26 ha (s := hS) (q := fun a ha => ?_)
  refine tkoz 27 ha (s := hS) (q := fun a ha => ?_)
  refine tkoz 28 ha (s := hS) (q := fun a ha => ?_)
  refine tkpz 29 4 (.bool false) ha (s := hS) (q := fun a ha => ?_)
  refine tkpz 30 0 (.bool false) ha (s := hS) (q := fun a ha => ?_)
  refine tkoz 31 ha (s := hS) (q := fun a ha => ?_)
  refine tkoz 32 ha (s := hS) (q := fun a ha => ?_)
  refine tkoz 33 ha (s := hS) (q := fun a ha => ?_)
  refine tkoz 34 ha (s := hS) (q := fun a ha => ?_)
  refine tkoz 35 ha (s := hS) (q := fun a ha => ?_)
  refine tkpz 36 4 (.bool false) ha (s := hS) (q := fun a ha => ?_)
  refine tkpz 37 0 (.bool false) ha (s := hS) (q := fun a ha => ?_)
  refine tkoz 38 ha (s := hS) (q := fun a ha => ?_)
  refine tkoz 39 ha (s := hS) (q := fun a ha => ?_)
  refine tkoz 40 ha (s := hS) (q := fun a ha => ?_)
  refine tkoz 41 ha (s := hS) (q := fun a ha => ?_)
  refine tkpz 42 4 (.bool false) ha (s := hS) (q := fun a ha => ?_)
  refine tkpz 43 0 (.bool false) ha (s := hS) (q := fun a ha => ?_)
  refine tkoz 44 ha (s := hS) (q := fun a ha => ?_)
  refine tkoz 45 ha (s := hS) (q := fun a ha => ?_)
  refine tkoz 46 ha (s := hS) (q := fun a ha => ?_)
  refine tkpz 47 4 (.bool false) ha (s := hS) (q := fun a ha => ?_)
  refine tkpz 48 0 (.bool false) ha (s := hS) (q := fun a ha => ?_)
  refine dn (by kernel_rfl) ?_
  obtain rfl := Option.some.inj H
  exact J37 _ _ (ha.sel (by kernel_rfl)) hBg5 hBg13 hBg21 hG hC hM
def vineryref03_widths.f (a0 : Int) : Option (Int × Int) := (if (a0 == (0 : Int)) = true then some (((2 : Int) : Int), ((4 : Int) : Int)) else (if (if (a0 == (1 : Int)) = true then true else (a0 == (2 : Int))) = true then some (((4 : Int) : Int), ((2 : Int) : Int)) else some (((0 : Int) : Int), ((0 : Int) : Int))))
set_option maxRecDepth 100000 in
theorem vineryref03_widths.walk (w : World) (M : List Nat) (hM : MS M w) (a0 : Int) (r : Int × Int) (H : vineryref03_widths.f a0 = some r) :
    To Tryz.prog 80 [.int .i64 a0] w fun v w' => v = .tuple #[.int .i64 r.1, .int .i64 r.2] ∧ Chg [] w w' ∧ MS (M) w' := by
 unfold vineryref03_widths.f at H
 refine ent Tryz.func80 rfl [(0, .int .i64 a0)] rfl (by rfl) fun a ha => ?_
 have hC : Chg [] w w := Chg.refl _ _
 refine wp_seq_k fun K1 hK1 => ?_
 refine wp_region_lit ?_
 refine seg ha 2 [(0, .int .i64 a0)] (by kernel_rfl) fun a ha => ?_
 refine hK1 _ _ ?_; try clear hK1 K1
 refine wp_seq_k fun K2 hK2 => ?_
 refine wp_seq_k fun K3 hK3 => ?_
 refine wp_region_lit ?_
 refine seg ha 2 [(0, .int .i64 a0), (5, .bool (a0 == (0 : Int)))] (by kernel_rfl) fun a ha => ?_
 refine hK3 _ _ ?_; try clear hK3 K3
 refine cnd ha rfl (fun hc4 => ?_) (fun hc4 => ?_)
 ·have H := ite_t hc4 H
  refine wp_seq_k fun K5 hK5 => ?_
  refine wp_region_lit ?_
  refine seg ha 2 [(2, .int .i64 (2 : Int)), (3, .int .i64 (4 : Int))] (by kernel_rfl) fun a ha => ?_
  refine hK5 _ _ ?_; try clear hK5 K5
  refine wp_ret ?_
  try simp only [Exit.then, Exit.inBlock]
  obtain rfl := Option.some.inj H
  refine rt2 ha rfl rfl rfl ?_
  exact ⟨rfl, hC, hM⟩
 ·have H := ite_f hc4 H
  refine wp_skip ?_
  refine hK2 _ _ ?_; try clear hK2 K2
  refine wp_seq_k fun K6 hK6 => ?_
  refine wp_seq_k fun K7 hK7 => ?_
  refine wp_region_lit ?_
  refine seg ha 6 [(11, .bool (if (a0 == (1 : Int)) = true then true else (a0 == (2 : Int))))] (by kernel_rfl) fun a ha => ?_
  refine hK7 _ _ ?_; try clear hK7 K7
  refine cnd ha rfl (fun hc8 => ?_) (fun hc8 => ?_)
  ·have H := ite_t hc8 H
   refine wp_seq_k fun K9 hK9 => ?_
   refine wp_region_lit ?_
   refine seg ha 2 [(2, .int .i64 (4 : Int)), (3, .int .i64 (2 : Int))] (by kernel_rfl) fun a ha => ?_
   refine hK9 _ _ ?_; try clear hK9 K9
   refine wp_ret ?_
   try simp only [Exit.then, Exit.inBlock]
   obtain rfl := Option.some.inj H
   refine rt2 ha rfl rfl rfl ?_
   exact ⟨rfl, hC, hM⟩
  ·have H := ite_f hc8 H
   refine wp_skip ?_
   refine hK6 _ _ ?_; try clear hK6 K6
   refine wp_seq_k fun K10 hK10 => ?_
   refine wp_region_lit ?_
   refine seg ha 2 [(2, .int .i64 (0 : Int)), (3, .int .i64 (0 : Int))] (by kernel_rfl) fun a ha => ?_
   refine hK10 _ _ ?_; try clear hK10 K10
   refine wp_ret ?_
   try simp only [Exit.then, Exit.inBlock]
   obtain rfl := Option.some.inj H
   refine rt2 ha rfl rfl rfl ?_
   exact ⟨rfl, hC, hM⟩
def vineryref01_Bytes.l0 (a0 : Int) : Nat → (List Int) → Int → Option (List Int)
  | 0, _, _ => none
  | kk + 1, x7, x8 => (if (decide (x8 ≥ (0 : Int))) = true then (if 0 ≤ (IntKind.i64.wrap ((8 : Int) * x8)) then (if (x7.length + ([IntKind.u8.wrap (Int.fdiv a0 (2 ^ (min (Int.toNat (IntKind.i64.wrap ((8 : Int) * x8))) IntKind.i64.bits)))] : List Int).length) * 1 ≤ 140737488355328 then vineryref01_Bytes.l0 a0 kk (x7 ++ ([IntKind.u8.wrap (Int.fdiv a0 (2 ^ (min (Int.toNat (IntKind.i64.wrap ((8 : Int) * x8))) IntKind.i64.bits)))] : List Int)) (IntKind.i64.wrap (x8 - (1 : Int))) else none) else none) else some (x7 : List Int))
def vineryref01_Bytes.f (k : Nat) (a0 : Int) (a1 : Int) : Option (List Int) := (vineryref01_Bytes.l0 a0 k ([] : List Int) (IntKind.i64.wrap (a1 - (1 : Int)))).bind fun s5 => some ((s5 : List Int))
set_option maxRecDepth 100000 in
theorem vineryref01_Bytes.walk (w : World) (M : List Nat) (hM : MS M w) (a0 : Int) (a1 : Int) (k : Nat) (r : List Int) (H : vineryref01_Bytes.f k a0 a1 = some r) :
    To Tryz.prog 45 [.int .i64 a0, .int .i64 a1] w fun v w' => ∃ (ao25 : Option Addr) (cap25 : Nat), v = .slice ao25 r.length cap25 ∧ (Own (rInt .u8) 5 w' (blkL ao25 ++ (M)) ao25 cap25 r) ∧ (∀ x ∈ blkL ao25, w.heap.size ≤ x) ∧ Chg [] w w' ∧ MS (blkL ao25 ++ (M)) w' := by
 unfold vineryref01_Bytes.f at H
 refine ent Tryz.func45 rfl [(0, .int .i64 a0), (1, .int .i64 a1)] rfl (by rfl) fun a ha => ?_
 have hC : Chg [] w w := Chg.refl _ _
 refine wp_seq_k fun K1 hK1 => ?_
 refine wp_region_lit ?_
 refine seg ha 1 [(0, .int .i64 a0), (1, .int .i64 a1)] (by kernel_rfl) fun a ha => ?_
 refine hK1 _ _ ?_; try clear hK1 K1
 refine wp_seq_k fun K2 hK2 => ?_
 refine wp_region_lit ?_
 refine seg ha 1 [(0, .int .i64 a0), (1, .int .i64 a1), (5, .slice none 0 0)] (by kernel_rfl) fun a ha => ?_
 refine hK2 _ _ ?_; try clear hK2 K2
 refine wp_seq_k fun K3 hK3 => ?_
 refine wp_seq_k fun K4 hK4 => ?_
 refine wp_region_lit ?_
 refine seg ha 3 [(0, .int .i64 a0), (5, .slice none 0 0), (6, .int .i64 (IntKind.i64.wrap (a1 - (1 : Int))))] (by kernel_rfl) fun a ha => ?_
 refine hK4 _ _ ?_; try clear hK4 K4
 refine wp_block ?_
 obtain ⟨s5, H5, H⟩ := bind_some H
 have J5 : ∀ (a : Act) (wx5 : World) (ao9 : Option Addr) (cap9 : Nat), Has a Tryz.f45.ntmps [(5, .slice ao9 s5.length cap9)] → (Own (rInt .u8) 5 wx5 (blkL ao9 ++ (M)) ao9 cap9 s5) → (∀ x ∈ blkL ao9, w.heap.size ≤ x) → (∀ x ∈ blkL ao9, x ∉ M) → (Chg [] w wx5) → (MS (blkL ao9 ++ (M)) wx5) → K3 a wx5 := by
  intro a wx5 ao9 cap9 ha f9 e_i9 p_i9_M hC hM
  refine hK3 _ _ ?_; try clear hK3 K3
  refine wp_seq_k fun K10 hK10 => ?_
  refine wp_region_lit ?_
  refine seg ha 2 [(4, .slice ao9 s5.length cap9)] (by kernel_rfl) fun a ha => ?_
  refine hK10 _ _ ?_; try clear hK10 K10
  refine wp_ret ?_
  try simp only [Exit.then, Exit.inBlock]
  obtain rfl := Option.some.inj H
  refine rt1 ha rfl rfl ?_
  exact ⟨ao9, cap9, rfl, f9, e_i9, hC, hM⟩
 have Hc5 := H
 have H := H5
 refine wp_loop_ghost (fun kk a w5 => ∃ (x7 : List Int) (x8 : Int) (ao6 : Option Addr) (cap6 : Nat), vineryref01_Bytes.l0 a0 kk x7 x8 = some s5 ∧ Has a Tryz.f45.ntmps [(0, .int .i64 a0), (5, .slice ao6 x7.length cap6), (6, .int .i64 x8)] ∧ (Own (rInt .u8) 5 w5 (blkL ao6 ++ (M)) ao6 cap6 x7) ∧ (∀ x ∈ blkL ao6, w.heap.size ≤ x) ∧ (∀ x ∈ blkL ao6, x ∉ M) ∧ (Chg [] w w5) ∧ (MS (blkL ao6 ++ (M)) w5)) k ?_ ?_
 ·skip
  have p_z11_M : ∀ x ∈ blkL none, x ∉ M := fun x hx hy => absurd (hM x (hy)) (Nat.not_lt.2 ((fun _ h => nomatch h) x hx))
  have e_z11 : ∀ x ∈ blkL none, w.heap.size ≤ x := fun x hx => Nat.le_trans hC.size ((fun _ h => nomatch h) x hx)
  have hM : MS (blkL none ++ (M)) w := (MS.app (fun _ h => nomatch h) (hM.chg (Chg.refl [] _)))
  have hC := hC.trans (Chg.refl [] _) (Ok.nil _ _)
  exact ⟨([] : List Int), IntKind.i64.wrap (a1 - (1 : Int)), none, 0, H, (ha.sel (by kernel_rfl)), Own.nil, e_z11, p_z11_M, hC, hM⟩
 ·rintro kk a w5 ⟨x7, x8, ao6, cap6, H, ha, f6, e_i6, p_i6_M, hC, hM⟩
  obtain _ | kk := kk
  ·exact nomatch (show none = some _ from H)
  rw [vineryref01_Bytes.l0] at H
  refine wp_seq_k fun K12 hK12 => ?_
  refine wp_seq_k fun K13 hK13 => ?_
  refine wp_region_lit ?_
  refine seg ha 2 [(0, .int .i64 a0), (5, .slice ao6 x7.length cap6), (6, .int .i64 x8), (10, .bool (decide (x8 ≥ (0 : Int))))] (by kernel_rfl) fun a ha => ?_
  refine hK13 _ _ ?_; try clear hK13 K13
  refine cnd ha rfl (fun hc14 => ?_) (fun hc14 => ?_)
  ·have H := ite_t hc14 H
   refine wp_skip ?_
   refine hK12 _ _ ?_; try clear hK12 K12
   refine wp_seq_k fun K15 hK15 => ?_
   refine wp_block ?_
   refine wp_region_lit ?_
   refine seg ha 4 [(0, .int .i64 a0), (6, .int .i64 x8), (13, .slice ao6 x7.length cap6), (14, .int .i64 a0), (16, .int .i64 (IntKind.i64.wrap ((8 : Int) * x8)))] (by kernel_rfl) fun a ha => ?_
   obtain ⟨hx16, H⟩ := ite_some H
   refine hop (v := .int .i64 (Int.fdiv a0 (2 ^ (min (Int.toNat (IntKind.i64.wrap ((8 : Int) * x8))) IntKind.i64.bits)))) (w' := w5) ha rfl rfl rfl (shr_run ha (by rfl) (by rfl) hx16 _) fun a ha => ?_
   refine seg ha 1 [(0, .int .i64 a0), (6, .int .i64 x8), (13, .slice ao6 x7.length cap6), (18, .int .u8 (IntKind.u8.wrap (Int.fdiv a0 (2 ^ (min (Int.toNat (IntKind.i64.wrap ((8 : Int) * x8))) IntKind.i64.bits)))))] (by kernel_rfl) fun a ha => ?_
   refine bsl (vals := ([.int .u8 (IntKind.u8.wrap (Int.fdiv a0 (2 ^ (min (Int.toNat (IntKind.i64.wrap ((8 : Int) * x8))) IntKind.i64.bits))))] : List Value)) (T := 5) ha rfl (([.int .u8 (IntKind.u8.wrap (Int.fdiv a0 (2 ^ (min (Int.toNat (IntKind.i64.wrap ((8 : Int) * x8))) IntKind.i64.bits))))] : List Value) ++ ([] : List Value)) (fun w => by kernel_rfl) rfl rfl rfl fun a w17 g18 hN19 ha => ?_
   have o1 : Ok [] (blkL ao6 ++ (M)) w5.heap.size := Ok.nil _ _
   have o2 : Ok ([g18] ++ (blkL ao6 ++ (M))) (blkL ao6 ++ (M)) w5.heap.size := (Ok.app (hN19.ok _) (Ok.refl _ _))
   have f6 := f6.chg hN19.chg o1 o2 (fun _ _ h => nomatch h) (fun _ h => mr (ml h))
   have p_i20_i6 : ∀ x ∈ [g18], x ∉ (blkL ao6) := fun x hx hy => absurd (hM x (ml hy)) (Nat.not_lt.2 ((hN19.ge1) x hx))
   have p_i20_M : ∀ x ∈ [g18], x ∉ M := fun x hx hy => absurd (hM x (mr (hy))) (Nat.not_lt.2 ((hN19.ge1) x hx))
   have e_i20 : ∀ x ∈ [g18], w.heap.size ≤ x := fun x hx => Nat.le_trans hC.size ((hN19.ge1) x hx)
   have hM : MS ([g18] ++ (blkL ao6 ++ (M))) w17 := (MS.app hN19.ms (hM.chg hN19.chg))
   have hC := hC.trans hN19.chg (Ok.nil _ _)
   have f21 : Own (rInt .u8) 5 w17 ([g18] ++ (blkL ao6 ++ (M))) (some ⟨g18, 0, none⟩) 1 ([IntKind.u8.wrap (Int.fdiv a0 (2 ^ (min (Int.toNat (IntKind.i64.wrap ((8 : Int) * x8))) IntKind.i64.bits)))] : List Int) := hN19.own ⟨([.int .u8 (IntKind.u8.wrap (Int.fdiv a0 (2 ^ (min (Int.toNat (IntKind.i64.wrap ((8 : Int) * x8))) IntKind.i64.bits))))] : List Value), _, rfl, rfl, rfl⟩ (Nat.le_of_ble_eq_true rfl)
   obtain ⟨hx22, H⟩ := ite_some H
   refine app (r := (rInt .u8)) (xs := x7) (ys := ([IntKind.u8.wrap (Int.fdiv a0 (2 ^ (min (Int.toNat (IntKind.i64.wrap ((8 : Int) * x8))) IntKind.i64.bits)))] : List Int)) ha (ElemT.mk' (bytes := 1) (by kernel_rfl)) rfl rfl rfl rfl rfl f6 f21.src hx22 (by decide) fun a w23 ao24 cap24 hO24 hc24 hk24 hl24 ha => ?_
   have o1 : Ok (blkL ao6) ([g18] ++ (blkL ao6 ++ (M))) w17.heap.size := (fun _ h => .inl (mr (ml h)))
   have o2 : Ok (blkL ao24 ++ ([g18] ++ (M))) ([g18] ++ (blkL ao6 ++ (M))) w17.heap.size := (Ok.app (Ok.to hk24 (fun _ h => mr (ml h))) (Ok.app (fun _ h => .inl (ml h)) (fun _ h => .inl (mr (mr (h))))))
   have f21 := f21.chg hc24 o1 o2 p_i20_i6 (fun _ h => mr (ml h))
   have p_i24_i20 : ∀ x ∈ blkL ao24, x ∉ ([g18]) := fun x hx hy => (hk24 x hx).elim (fun h => (fun x hx hy => p_i20_i6 x hy hx) x h hy) (fun h => absurd (hM x (ml hy)) (Nat.not_lt.2 h))
   have p_i24_M : ∀ x ∈ blkL ao24, x ∉ M := fun x hx hy => (hk24 x hx).elim (fun h => p_i6_M x h hy) (fun h => absurd (hM x (mr (mr (hy)))) (Nat.not_lt.2 h))
   have e_i24 : ∀ x ∈ blkL ao24, w.heap.size ≤ x := fun x hx => (hk24 x hx).elim (e_i6 x) (Nat.le_trans hC.size)
   have hM : MS (blkL ao24 ++ ([g18] ++ (M))) w23 := (MS.app hl24 (MS.app (fun x h => hM.chg hc24 x (ml h)) (fun x h => hM.chg hc24 x (mr (mr (h))))))
   have hC := hC.trans hc24 (fun x h => .inr (e_i6 x h))
   have f24 := hO24.chg (M' := blkL ao24 ++ ([g18] ++ (M))) (Chg.refl [] _) (Ok.nil _ _) (Ok.app (fun _ h => .inl (ml h)) (Ok.to (Ok.app (fun _ h => .inl (ml h)) (fun _ h => .inl (mr (mr (h))))) (fun _ h => mr h))) (fun _ _ h => nomatch h) (fun _ h => ml h)
   refine seg ha 1 [(0, .int .i64 a0), (5, .slice ao24 (x7 ++ ([IntKind.u8.wrap (Int.fdiv a0 (2 ^ (min (Int.toNat (IntKind.i64.wrap ((8 : Int) * x8))) IntKind.i64.bits)))] : List Int)).length cap24), (6, .int .i64 x8)] (by kernel_rfl) fun a ha => ?_
   refine hK15 _ _ ?_; try clear hK15 K15
   refine wp_region_lit ?_
   refine seg ha 3 [(0, .int .i64 a0), (5, .slice ao24 (x7 ++ ([IntKind.u8.wrap (Int.fdiv a0 (2 ^ (min (Int.toNat (IntKind.i64.wrap ((8 : Int) * x8))) IntKind.i64.bits)))] : List Int)).length cap24), (6, .int .i64 (IntKind.i64.wrap (x8 - (1 : Int))))] (by kernel_rfl) fun a ha => ?_
   have o1 : Ok [] (blkL ao24 ++ ([g18] ++ (M))) w23.heap.size := Ok.nil _ _
   have o2 : Ok (blkL ao24 ++ (M)) (blkL ao24 ++ ([g18] ++ (M))) w23.heap.size := (Ok.app (fun _ h => .inl (ml h)) (fun _ h => .inl (mr (mr (h)))))
   have f24 := f24.chg (Chg.refl [] _) o1 o2 (fun _ _ h => nomatch h) (fun _ h => ml h)
   have hM : MS (blkL ao24 ++ (M)) w23 := (MS.app (fun x h => hM.chg (Chg.refl [] _) x (ml h)) (fun x h => hM.chg (Chg.refl [] _) x (mr (mr (h)))))
   have hC := hC.trans (Chg.refl [] _) (Ok.nil _ _)
   exact ⟨kk, Nat.lt_succ_self _, ⟨(x7 ++ ([IntKind.u8.wrap (Int.fdiv a0 (2 ^ (min (Int.toNat (IntKind.i64.wrap ((8 : Int) * x8))) IntKind.i64.bits)))] : List Int)), IntKind.i64.wrap (x8 - (1 : Int)), ao24, cap24, H, (ha.sel (by kernel_rfl)), f24, e_i24, p_i24_M, hC, hM⟩⟩
  ·have H := ite_f hc14 H
   refine wp_exit ?_
   simp only [Exit.then, Exit.inBlock, ↓reduceIte, Nat.reduceEqDiff]
   obtain rfl := Option.some.inj H
   exact J5 _ _ ao6 cap6 (ha.sel (by kernel_rfl)) f6 e_i6 p_i6_M hC hM
def vineryref03_Of.l0 (a0 : List Int) : Nat → Int → (List Int) → Option (List Int)
  | 0, _, _ => none
  | kk + 1, x15, x16 => (if (if (decide (x15 < (8 : Int))) = true then (decide (x15 < (a0.length : Int))) else false) = true then (if 0 ≤ x15 ∧ x15 < (a0.length : Int) then (if 0 ≤ x15 ∧ x15 < (8 : Int) then vineryref03_Of.l0 a0 kk (IntKind.i64.wrap (x15 + (1 : Int))) ((arL 8 x16).set (Int.toNat x15) (rd a0 x15)) else none) else none) else some (x16 : List Int))
def vineryref03_Of.f (k : Nat) (a0 : List Int) : Option (List Int) := (vineryref03_Of.l0 a0 k (0 : Int) (List.replicate 8 (0 : Int))).bind fun s14 => some ((s14 : List Int))
set_option maxRecDepth 100000 in
theorem vineryref03_Of.walk (w : World) (M : List Nat) (hM : MS M w) (a0 : List Int) (ao1 : Option Addr) (cap1 : Nat) (f1 : RSl (rInt .u8) 5 w M ao1 cap1 a0) (k : Nat) (r : List Int) (H : vineryref03_Of.f k a0 = some r) :
    To Tryz.prog 72 [.slice ao1 a0.length cap1] w fun v w' => v = .agg (cA .u8 8 r).toArray ∧ Chg [] w w' ∧ MS (M) w' := by
 unfold vineryref03_Of.f at H
 refine ent Tryz.func72 rfl [(0, .slice ao1 a0.length cap1)] rfl (by rfl) fun a ha => ?_
 have hC : Chg [] w w := Chg.refl _ _
 refine wp_seq_k fun K2 hK2 => ?_
 refine wp_region_lit ?_
 refine al (cs := (cA .u8 8 (List.replicate 8 (0 : Int)))) (z := .agg (cA .u8 8 (List.replicate 8 (0 : Int))).toArray) ha (fun w => by kernel_rfl) rfl rfl rfl rfl fun a w3 g4 hN5 ha => ?_
 have o1 : Ok [] (M) w.heap.size := Ok.nil _ _
 have o2 : Ok ([g4] ++ (M)) (M) w.heap.size := (Ok.app (hN5.ok _) (Ok.refl _ _))
 have f1 := f1.chg hN5.chg o1 o2
 have p_i6_M : ∀ x ∈ [g4], x ∉ M := fun x hx hy => absurd (hM x (hy)) (Nat.not_lt.2 ((hN5.ge1) x hx))
 have e_i6 : ∀ x ∈ [g4], w.heap.size ≤ x := fun x hx => Nat.le_trans hC.size ((hN5.ge1) x hx)
 have hM : MS ([g4] ++ (M)) w3 := (MS.app hN5.ms (hM.chg hN5.chg))
 have hC := hC.trans hN5.chg (Ok.nil _ _)
 have hBg4 : Box w3 g4 (cA .u8 8 (List.replicate 8 (0 : Int))) := hN5.box
 refine hK2 _ _ ?_; try clear hK2 K2
 refine wp_seq_k fun K7 hK7 => ?_
 refine wp_region_lit ?_
 refine al (cs := (cA .u8 8 (List.replicate 8 (0 : Int)))) (z := .agg (cA .u8 8 (List.replicate 8 (0 : Int))).toArray) ha (fun w => by kernel_rfl) rfl rfl rfl rfl fun a w8 g9 hN10 ha => ?_
 have o1 : Ok [] ([g4] ++ (M)) w3.heap.size := Ok.nil _ _
 have o2 : Ok ([g9] ++ ([g4] ++ (M))) ([g4] ++ (M)) w3.heap.size := (Ok.app (hN10.ok _) (Ok.refl _ _))
 have f1 := f1.chg hN10.chg o1 o2
 have hBg4 := hBg4.chg hN10.chg (fun h => nomatch h)
 have p_i11_i6 : ∀ x ∈ [g9], x ∉ ([g4]) := fun x hx hy => absurd (hM x (ml hy)) (Nat.not_lt.2 ((hN10.ge1) x hx))
 have p_i11_M : ∀ x ∈ [g9], x ∉ M := fun x hx hy => absurd (hM x (mr (hy))) (Nat.not_lt.2 ((hN10.ge1) x hx))
 have e_i11 : ∀ x ∈ [g9], w.heap.size ≤ x := fun x hx => Nat.le_trans hC.size ((hN10.ge1) x hx)
 have hM : MS ([g9] ++ ([g4] ++ (M))) w8 := (MS.app hN10.ms (hM.chg hN10.chg))
 have hC := hC.trans hN10.chg (Ok.nil _ _)
 have hBg9 : Box w8 g9 (cA .u8 8 (List.replicate 8 (0 : Int))) := hN10.box
 refine hK7 _ _ ?_; try clear hK7 K7
 refine wp_seq_k fun K12 hK12 => ?_
 refine wp_seq_k fun K13 hK13 => ?_
 refine wp_region_lit ?_
 refine seg ha 1 [(0, .slice ao1 a0.length cap1), (2, .pointer (some ⟨g4, 0, none⟩)), (3, .pointer (some ⟨g9, 0, none⟩)), (4, .int .i64 (0 : Int))] (by kernel_rfl) fun a ha => ?_
 refine hK13 _ _ ?_; try clear hK13 K13
 refine wp_block ?_
 obtain ⟨s14, H14, H⟩ := bind_some H
 have J14 : ∀ (a : Act) (wx14 : World), Has a Tryz.f72.ntmps [(2, .pointer (some ⟨g4, 0, none⟩)), (3, .pointer (some ⟨g9, 0, none⟩))] → (Box wx14 g4 (cA .u8 8 (List.replicate 8 (0 : Int)))) → (Box wx14 g9 (cA .u8 8 s14)) → (Chg [] w wx14) → (MS ([g9] ++ ([g4] ++ (M))) wx14) → K12 a wx14 := by
  intro a wx14 ha hBg4 hBg9 hC hM
  refine hK12 _ _ ?_; try clear hK12 K12
  refine wp_seq_k fun K17 hK17 => ?_
  refine wp_region_lit ?_
  refine ldA (cs := (cA .u8 8 s14)) ha rfl (by kernel_rfl) rfl rfl rfl (cells_sub (Box.cells hBg9) (all := (cA .u8 8 s14)) [] [] (by kernel_rfl)) fun a ha => ?_
  refine stA (l := (cA .u8 8 s14)) ha rfl rfl rfl (by kernel_rfl) rfl rfl hBg4 rfl fun a w18 ha hb2 hc19 _ => ?_
  have hBg9 := hBg9.chg hc19 (p_i11_i6 g9 (by simp))
  have hM : MS ([g9] ++ ([g4] ++ (M))) w18 := (hM.chg hc19)
  have hC := hC.trans hc19 (fun x h => .inr (e_i6 x h))
  have hBg4 : Box w18 g4 (cA .u8 8 s14) := hb2
  refine hK17 _ _ ?_; try clear hK17 K17
  refine wp_ret ?_
  try simp only [Exit.then, Exit.inBlock]
  have hBg4 := hBg4.chg (Chg.refl [] _) (fun h => nomatch h)
  have hBg9 := hBg9.chg (Chg.refl [] _) (fun h => nomatch h)
  have hM : MS (M) w18 := (fun x h => hM.chg (Chg.refl [] _) x (mr (mr (h))))
  have hC := hC.trans (Chg.refl [] _) (Ok.nil _ _)
  obtain rfl := Option.some.inj H
  refine rtr ha (res1 rfl (roA ha rfl hBg4 (by kernel_rfl))) ?_
  exact ⟨rfl, hC, hM⟩
 have Hc14 := H
 have H := H14
 refine wp_loop_ghost (fun kk a w14 => ∃ (x15 : Int) (x16 : List Int), vineryref03_Of.l0 a0 kk x15 x16 = some s14 ∧ Has a Tryz.f72.ntmps [(0, .slice ao1 a0.length cap1), (2, .pointer (some ⟨g4, 0, none⟩)), (3, .pointer (some ⟨g9, 0, none⟩)), (4, .int .i64 x15)] ∧ (RSl (rInt .u8) 5 w14 ([g9] ++ ([g4] ++ (M))) ao1 cap1 a0) ∧ (Box w14 g4 (cA .u8 8 (List.replicate 8 (0 : Int)))) ∧ (Box w14 g9 (cA .u8 8 x16)) ∧ (Chg [] w w14) ∧ (MS ([g9] ++ ([g4] ++ (M))) w14)) k ?_ ?_
 ·skip
  exact ⟨(0 : Int), (List.replicate 8 (0 : Int)), H, (ha.sel (by kernel_rfl)), f1, hBg4, hBg9, hC, hM⟩
 ·rintro kk a w14 ⟨x15, x16, H, ha, f1, hBg4, hBg9, hC, hM⟩
  obtain _ | kk := kk
  ·exact nomatch (show none = some _ from H)
  rw [vineryref03_Of.l0] at H
  refine wp_seq_k fun K20 hK20 => ?_
  refine wp_seq_k fun K21 hK21 => ?_
  refine wp_region_lit ?_
  refine seg ha 8 [(0, .slice ao1 a0.length cap1), (2, .pointer (some ⟨g4, 0, none⟩)), (3, .pointer (some ⟨g9, 0, none⟩)), (4, .int .i64 x15), (12, .bool (if (decide (x15 < (8 : Int))) = true then (decide (x15 < (a0.length : Int))) else false))] (by kernel_rfl) fun a ha => ?_
  refine hK21 _ _ ?_; try clear hK21 K21
  refine cnd ha rfl (fun hc22 => ?_) (fun hc22 => ?_)
  ·have H := ite_t hc22 H
   refine wp_skip ?_
   refine hK20 _ _ ?_; try clear hK20 K20
   refine wp_seq_k fun K23 hK23 => ?_
   refine wp_block ?_
   refine wp_region_lit ?_
   refine seg ha 3 [(0, .slice ao1 a0.length cap1), (2, .pointer (some ⟨g4, 0, none⟩)), (3, .pointer (some ⟨g9, 0, none⟩)), (4, .int .i64 x15), (15, .int .i64 x15), (16, .slice ao1 a0.length cap1), (17, .int .i64 x15)] (by kernel_rfl) fun a ha => ?_
   obtain ⟨⟨hx24, hx24'⟩, H⟩ := ite_some H
   refine ix (r := (rInt .u8)) ha (by kernel_rfl) (by kernel_rfl) rfl rfl rfl rfl rfl f1 hx24 hx24' fun a ge25 oe26 cs27 hn30 hR28 hE29 ha => ?_
   rw [rd_get] at hR28
   obtain rfl := hR28
   have hE29 : ∀ j v, ([.int .u8 (rd a0 x15)] : List Value)[j]? = some v → w14.cell? ⟨ge25, oe26 + j, none⟩ = some v := hE29
   refine ld ha rfl (by kernel_rfl) rfl rfl rfl (hE29 0 (.int .u8 (rd a0 x15)) (by kernel_rfl)) fun a ha => ?_
   obtain ⟨⟨hx31, hx31'⟩, H⟩ := ite_some H
   have hi31 : (Int.toNat x15) < 8 := by omega
   refine hop (v := .pointer (some ⟨g9, 0 + (Int.toNat x15), none⟩)) (w' := w14) ha rfl rfl rfl (ixA_run (T := 5) (N := 8) (g := g9) (o' := 0) (k := .i64) (i := x15) ha (by kernel_rfl) (by kernel_rfl) (by rfl) (by rfl) hx31 hx31' _) fun a ha => ?_
   refine st (o' := 0 + (Int.toNat x15)) ha rfl rfl rfl (by kernel_rfl) rfl rfl hBg9 (arr_lt (k := .u8) (m := 8) (x := x16) ([] : List Value) ([] : List Value) (by kernel_rfl) hi31) fun a w32 ha hb2 hc33 _ => ?_
   have o1 : Ok [g9] ([g9] ++ ([g4] ++ (M))) w14.heap.size := (fun _ h => .inl (ml h))
   have o2 : Ok ([g9] ++ ([g4] ++ (M))) ([g9] ++ ([g4] ++ (M))) w14.heap.size := (Ok.refl _ _)
   have f1 := f1.chg hc33 o1 o2
   have hBg4 := hBg4.chg hc33 ((fun x (hx : x ∈ [g4]) (hy : x ∈ [g9]) => p_i11_i6 x hy hx) g4 (by simp))
   have hM : MS ([g9] ++ ([g4] ++ (M))) w32 := (hM.chg hc33)
   have hC := hC.trans hc33 (fun x h => .inr (e_i11 x h))
   have hBg9 : Box w32 g9 (cA .u8 8 ((arL 8 x16).set (Int.toNat x15) (rd a0 x15))) := Box.setA (k := .u8) (m := 8) (x := x16) ([] : List Value) ([] : List Value) hb2 (by kernel_rfl) hi31 (by kernel_rfl)
   refine hK23 _ _ ?_; try clear hK23 K23
   refine wp_region_lit ?_
   refine seg ha 3 [(0, .slice ao1 a0.length cap1), (2, .pointer (some ⟨g4, 0, none⟩)), (3, .pointer (some ⟨g9, 0, none⟩)), (4, .int .i64 (IntKind.i64.wrap (x15 + (1 : Int))))] (by kernel_rfl) fun a ha => ?_
   exact ⟨kk, Nat.lt_succ_self _, ⟨IntKind.i64.wrap (x15 + (1 : Int)), ((arL 8 x16).set (Int.toNat x15) (rd a0 x15)), H, (ha.sel (by kernel_rfl)), f1, hBg4, hBg9, hC, hM⟩⟩
  ·have H := ite_f hc22 H
   refine wp_exit ?_
   simp only [Exit.then, Exit.inBlock, ↓reduceIte, Nat.reduceEqDiff]
   obtain rfl := Option.some.inj H
   exact J14 _ _ (ha.sel (by kernel_rfl)) hBg4 hBg9 hC hM
def vineryref03_Make.f (k : Nat) (a0 : Int) (a1 : Int) (a2 : Int) : Option (List Int × Int) := (vineryref03_widths.f a0).bind fun t7 => (if (t7.1 == (0 : Int)) = true then some ((([(0 : Int), (0 : Int), (0 : Int), (0 : Int), (0 : Int), (0 : Int), (0 : Int), (0 : Int)] : List Int) : List Int), ((1 : Int) : Int)) else ((if (decide (a1 < (0 : Int))) = true then some (true : Bool) else (if (decide (a2 < (0 : Int))) = true then some (true : Bool) else (if 0 ≤ (IntKind.i64.wrap ((8 : Int) * t7.1)) then (if (decide (a1 ≥ (IntKind.i64.wrap ((1 : Int) * 2 ^ (min (Int.toNat (IntKind.i64.wrap ((8 : Int) * t7.1))) IntKind.i64.bits))))) = true then some (true : Bool) else (if 0 ≤ (IntKind.i64.wrap ((8 : Int) * t7.2)) then some (decide (a2 ≥ (IntKind.i64.wrap ((1 : Int) * 2 ^ (min (Int.toNat (IntKind.i64.wrap ((8 : Int) * t7.2))) IntKind.i64.bits)))) : Bool) else none)) else none)))).bind fun s16 => (if s16 = true then some ((([(0 : Int), (0 : Int), (0 : Int), (0 : Int), (0 : Int), (0 : Int), (0 : Int), (0 : Int)] : List Int) : List Int), ((5 : Int) : Int)) else (vineryref01_Bytes.f k a0 (2 : Int)).bind fun t22 => (vineryref01_Bytes.f k a1 t7.1).bind fun t24 => (if (t22.length + t24.length) * 1 ≤ 140737488355328 then (vineryref01_Bytes.f k a2 t7.2).bind fun t30 => (if ((t22 ++ t24).length + t30.length) * 1 ≤ 140737488355328 then (vineryref03_Of.f k ((t22 ++ t24) ++ t30)).bind fun t35 => some ((t35 : List Int), ((0 : Int) : Int)) else none) else none)))
set_option maxRecDepth 100000 in
theorem vineryref03_Make.walk (w : World) (M : List Nat) (hM : MS M w) (a0 : Int) (a1 : Int) (a2 : Int) (k : Nat) (r : List Int × Int) (H : vineryref03_Make.f k a0 a1 a2 = some r) :
    To Tryz.prog 42 [.int .i64 a0, .int .i64 a1, .int .i64 a2] w fun v w' => v = .tuple #[.agg (cA .u8 8 r.1).toArray, .int .i64 r.2] ∧ Chg [] w w' ∧ MS (M) w' := by
 unfold vineryref03_Make.f at H
 refine ent Tryz.func42 rfl [(0, .int .i64 a0), (1, .int .i64 a1), (2, .int .i64 a2)] rfl (by rfl) fun a ha => ?_
 have hC : Chg [] w w := Chg.refl _ _
 refine wp_seq_k fun K1 hK1 => ?_
 refine wp_region_lit ?_
 refine al (cs := (cA .u8 8 (List.replicate 8 (0 : Int)))) (z := .agg (cA .u8 8 (List.replicate 8 (0 : Int))).toArray) ha (fun w => by kernel_rfl) rfl rfl rfl rfl fun a w2 g3 hN4 ha => ?_
 have p_i5_M : ∀ x ∈ [g3], x ∉ M := fun x hx hy => absurd (hM x (hy)) (Nat.not_lt.2 ((hN4.ge1) x hx))
 have e_i5 : ∀ x ∈ [g3], w.heap.size ≤ x := fun x hx => Nat.le_trans hC.size ((hN4.ge1) x hx)
 have hM : MS ([g3] ++ (M)) w2 := (MS.app hN4.ms (hM.chg hN4.chg))
 have hC := hC.trans hN4.chg (Ok.nil _ _)
 have hBg3 : Box w2 g3 (cA .u8 8 (List.replicate 8 (0 : Int))) := hN4.box
 refine seg ha 1 [(0, .int .i64 a0), (1, .int .i64 a1), (2, .int .i64 a2), (6, .pointer (some ⟨g3, 0, none⟩))] (by kernel_rfl) fun a ha => ?_
 refine hK1 _ _ ?_; try clear hK1 K1
 refine wp_seq_k fun K6 hK6 => ?_
 refine wp_region_lit ?_
 refine seg ha 1 [(0, .int .i64 a0), (1, .int .i64 a1), (2, .int .i64 a2), (6, .pointer (some ⟨g3, 0, none⟩)), (12, .int .i64 a0)] (by kernel_rfl) fun a ha => ?_
 obtain ⟨t7, H7, H⟩ := bind_some H
 refine cl ha (by rfl) (by kernel_rfl) (by rfl) (by rfl) (by rfl) (vineryref03_widths.walk w2 _ hM a0 _ H7) ?_
 rintro _ w7 ⟨rfl, hc7, hMn⟩ a ha
 have hBg3 := hBg3.chg hc7 (fun h => nomatch h)
 have hM : MS ([g3] ++ (M)) w7 := (hM.chg hc7)
 have hC := hC.trans hc7 (Ok.nil _ _)
 refine seg ha 5 [(0, .int .i64 a0), (1, .int .i64 a1), (2, .int .i64 a2), (6, .pointer (some ⟨g3, 0, none⟩)), (8, .int .i64 t7.1), (9, .int .i64 t7.2)] (by kernel_rfl) fun a ha => ?_
 refine hK6 _ _ ?_; try clear hK6 K6
 refine wp_seq_k fun K8 hK8 => ?_
 refine wp_seq_k fun K9 hK9 => ?_
 refine wp_region_lit ?_
 refine seg ha 2 [(0, .int .i64 a0), (1, .int .i64 a1), (2, .int .i64 a2), (6, .pointer (some ⟨g3, 0, none⟩)), (8, .int .i64 t7.1), (9, .int .i64 t7.2), (17, .bool (t7.1 == (0 : Int)))] (by kernel_rfl) fun a ha => ?_
 refine hK9 _ _ ?_; try clear hK9 K9
 refine cnd ha rfl (fun hc10 => ?_) (fun hc10 => ?_)
 ·have H := ite_t hc10 H
  refine wp_seq_k fun K11 hK11 => ?_
  refine wp_region_lit ?_
  refine opk (v := .agg (cA .u8 8 ([(0 : Int), (0 : Int), (0 : Int), (0 : Int), (0 : Int), (0 : Int), (0 : Int), (0 : Int)] : List Int)).toArray) ha rfl rfl rfl rfl rfl (fun w => by kernel_rfl) fun a ha => ?_
  refine stA (l := (cA .u8 8 ([(0 : Int), (0 : Int), (0 : Int), (0 : Int), (0 : Int), (0 : Int), (0 : Int), (0 : Int)] : List Int))) ha rfl rfl rfl (by kernel_rfl) rfl rfl hBg3 rfl fun a w12 ha hb2 hc13 _ => ?_
  have hM : MS ([g3] ++ (M)) w12 := (hM.chg hc13)
  have hC := hC.trans hc13 (fun x h => .inr (e_i5 x h))
  have hBg3 : Box w12 g3 (cA .u8 8 ([(0 : Int), (0 : Int), (0 : Int), (0 : Int), (0 : Int), (0 : Int), (0 : Int), (0 : Int)] : List Int)) := hb2
  refine seg ha 1 [(6, .pointer (some ⟨g3, 0, none⟩)), (7, .int .i64 (1 : Int))] (by kernel_rfl) fun a ha => ?_
  refine hK11 _ _ ?_; try clear hK11 K11
  refine wp_ret ?_
  try simp only [Exit.then, Exit.inBlock]
  have hBg3 := hBg3.chg (Chg.refl [] _) (fun h => nomatch h)
  have hM : MS (M) w12 := (fun x h => hM.chg (Chg.refl [] _) x (mr (h)))
  have hC := hC.trans (Chg.refl [] _) (Ok.nil _ _)
  obtain rfl := Option.some.inj H
  refine rtr ha (res2 rfl (roA ha rfl hBg3 (by kernel_rfl)) (roT ha rfl)) ?_
  exact ⟨rfl, hC, hM⟩
 ·have H := ite_f hc10 H
  refine wp_skip ?_
  refine hK8 _ _ ?_; try clear hK8 K8
  refine wp_seq_k fun K14 hK14 => ?_
  refine wp_seq_k fun K15 hK15 => ?_
  refine wp_region_lit ?_
  obtain ⟨s16, H16, H⟩ := bind_some H
  have J16 : ∀ (a : Act) (w16 : World), Has a Tryz.f42.ntmps [(0, .int .i64 a0), (1, .int .i64 a1), (2, .int .i64 a2), (6, .pointer (some ⟨g3, 0, none⟩)), (8, .int .i64 t7.1), (9, .int .i64 t7.2), (38, .bool s16)] → (Box w16 g3 (cA .u8 8 (List.replicate 8 (0 : Int)))) → (Chg [] w w16) → (MS ([g3] ++ (M)) w16) → K15 a w16 := by
   intro a w16 ha hBg3 hC hM
   refine hK15 _ _ ?_; try clear hK15 K15
   refine cnd ha rfl (fun hc17 => ?_) (fun hc17 => ?_)
   ·have H := ite_t hc17 H
    refine wp_seq_k fun K18 hK18 => ?_
    refine wp_region_lit ?_
    refine opk (v := .agg (cA .u8 8 ([(0 : Int), (0 : Int), (0 : Int), (0 : Int), (0 : Int), (0 : Int), (0 : Int), (0 : Int)] : List Int)).toArray) ha rfl rfl rfl rfl rfl (fun w => by kernel_rfl) fun a ha => ?_
    refine stA (l := (cA .u8 8 ([(0 : Int), (0 : Int), (0 : Int), (0 : Int), (0 : Int), (0 : Int), (0 : Int), (0 : Int)] : List Int))) ha rfl rfl rfl (by kernel_rfl) rfl rfl hBg3 rfl fun a w19 ha hb2 hc20 _ => ?_
    have hM : MS ([g3] ++ (M)) w19 := (hM.chg hc20)
    have hC := hC.trans hc20 (fun x h => .inr (e_i5 x h))
    have hBg3 : Box w19 g3 (cA .u8 8 ([(0 : Int), (0 : Int), (0 : Int), (0 : Int), (0 : Int), (0 : Int), (0 : Int), (0 : Int)] : List Int)) := hb2
    refine seg ha 1 [(6, .pointer (some ⟨g3, 0, none⟩)), (7, .int .i64 (5 : Int))] (by kernel_rfl) fun a ha => ?_
    refine hK18 _ _ ?_; try clear hK18 K18
    refine wp_ret ?_
    try simp only [Exit.then, Exit.inBlock]
    have hBg3 := hBg3.chg (Chg.refl [] _) (fun h => nomatch h)
    have hM : MS (M) w19 := (fun x h => hM.chg (Chg.refl [] _) x (mr (h)))
    have hC := hC.trans (Chg.refl [] _) (Ok.nil _ _)
    obtain rfl := Option.some.inj H
    refine rtr ha (res2 rfl (roA ha rfl hBg3 (by kernel_rfl)) (roT ha rfl)) ?_
    exact ⟨rfl, hC, hM⟩
   ·have H := ite_f hc17 H
    refine wp_skip ?_
    refine hK14 _ _ ?_; try clear hK14 K14
    refine wp_seq_k fun K21 hK21 => ?_
    refine wp_region_lit ?_
    refine seg ha 1 [(1, .int .i64 a1), (2, .int .i64 a2), (6, .pointer (some ⟨g3, 0, none⟩)), (8, .int .i64 t7.1), (9, .int .i64 t7.2), (40, .int .i64 a0)] (by kernel_rfl) fun a ha => ?_
    obtain ⟨t22, H22, H⟩ := bind_some H
    refine cl ha (by rfl) (by kernel_rfl) (by rfl) (by rfl) (by rfl) (vineryref01_Bytes.walk w16 _ hM a0 (2 : Int) k _ H22) ?_
    rintro _ w22 ⟨ao23, cap23, rfl, f23, ne_i23, hc22, hMn⟩ a ha
    have hBg3 := hBg3.chg hc22 (fun h => nomatch h)
    have p_i23_i5 : ∀ x ∈ blkL ao23, x ∉ ([g3]) := fun x hx hy => absurd (hM x (ml hy)) (Nat.not_lt.2 (ne_i23 x hx))
    have p_i23_M : ∀ x ∈ blkL ao23, x ∉ M := fun x hx hy => absurd (hM x (mr (hy))) (Nat.not_lt.2 (ne_i23 x hx))
    have e_i23 : ∀ x ∈ blkL ao23, w.heap.size ≤ x := fun x hx => Nat.le_trans hC.size (ne_i23 x hx)
    have hM : MS (blkL ao23 ++ ([g3] ++ (M))) w22 := (MS.app (fun x h => hMn x (ml h)) (hM.chg hc22))
    have hC := hC.trans hc22 (Ok.nil _ _)
    refine seg ha 2 [(2, .int .i64 a2), (6, .pointer (some ⟨g3, 0, none⟩)), (9, .int .i64 t7.2), (41, .slice ao23 t22.length cap23), (42, .int .i64 a1), (43, .int .i64 t7.1)] (by kernel_rfl) fun a ha => ?_
    obtain ⟨t24, H24, H⟩ := bind_some H
    refine cl ha (by rfl) (by kernel_rfl) (by rfl) (by rfl) (by rfl) (vineryref01_Bytes.walk w22 _ hM a1 t7.1 k _ H24) ?_
    rintro _ w24 ⟨ao25, cap25, rfl, f25, ne_i25, hc24, hMn⟩ a ha
    have o1 : Ok [] (blkL ao23 ++ ([g3] ++ (M))) w22.heap.size := Ok.nil _ _
    have o2 : Ok (blkL ao25 ++ (blkL ao23 ++ ([g3] ++ (M)))) (blkL ao23 ++ ([g3] ++ (M))) w22.heap.size := (Ok.app (fun x h => .inr (ne_i25 x h)) (Ok.refl _ _))
    have f23 := f23.chg hc24 o1 o2 (fun _ _ h => nomatch h) (fun _ h => mr (ml h))
    have hBg3 := hBg3.chg hc24 (fun h => nomatch h)
    have p_i25_i23 : ∀ x ∈ blkL ao25, x ∉ (blkL ao23) := fun x hx hy => absurd (hM x (ml hy)) (Nat.not_lt.2 (ne_i25 x hx))
    have p_i25_i5 : ∀ x ∈ blkL ao25, x ∉ ([g3]) := fun x hx hy => absurd (hM x (mr (ml hy))) (Nat.not_lt.2 (ne_i25 x hx))
    have p_i25_M : ∀ x ∈ blkL ao25, x ∉ M := fun x hx hy => absurd (hM x (mr (mr (hy)))) (Nat.not_lt.2 (ne_i25 x hx))
    have e_i25 : ∀ x ∈ blkL ao25, w.heap.size ≤ x := fun x hx => Nat.le_trans hC.size (ne_i25 x hx)
    have hM : MS (blkL ao25 ++ (blkL ao23 ++ ([g3] ++ (M)))) w24 := (MS.app (fun x h => hMn x (ml h)) (hM.chg hc24))
    have hC := hC.trans hc24 (Ok.nil _ _)
    obtain ⟨hx26, H⟩ := ite_some H
    refine app (r := (rInt .u8)) (xs := t22) (ys := t24) ha (ElemT.mk' (bytes := 1) (by kernel_rfl)) rfl rfl rfl rfl rfl f23 f25.src hx26 (by decide) fun a w27 ao28 cap28 hO28 hc28 hk28 hl28 ha => ?_
    have o1 : Ok (blkL ao23) (blkL ao25 ++ (blkL ao23 ++ ([g3] ++ (M)))) w24.heap.size := (fun _ h => .inl (mr (ml h)))
    have o2 : Ok (blkL ao28 ++ (blkL ao25 ++ ([g3] ++ (M)))) (blkL ao25 ++ (blkL ao23 ++ ([g3] ++ (M)))) w24.heap.size := (Ok.app (Ok.to hk28 (fun _ h => mr (ml h))) (Ok.app (fun _ h => .inl (ml h)) (fun _ h => .inl (mr (mr (h))))))
    have f25 := f25.chg hc28 o1 o2 p_i25_i23 (fun _ h => mr (ml h))
    have hBg3 := hBg3.chg hc28 ((fun x (hx : x ∈ [g3]) (hy : x ∈ blkL ao23) => p_i23_i5 x hy hx) g3 (by simp))
    have p_i28_i25 : ∀ x ∈ blkL ao28, x ∉ (blkL ao25) := fun x hx hy => (hk28 x hx).elim (fun h => (fun x hx hy => p_i25_i23 x hy hx) x h hy) (fun h => absurd (hM x (ml hy)) (Nat.not_lt.2 h))
    have p_i28_i5 : ∀ x ∈ blkL ao28, x ∉ ([g3]) := fun x hx hy => (hk28 x hx).elim (fun h => p_i23_i5 x h hy) (fun h => absurd (hM x (mr (mr (ml hy)))) (Nat.not_lt.2 h))
    have p_i28_M : ∀ x ∈ blkL ao28, x ∉ M := fun x hx hy => (hk28 x hx).elim (fun h => p_i23_M x h hy) (fun h => absurd (hM x (mr (mr (mr (hy))))) (Nat.not_lt.2 h))
    have e_i28 : ∀ x ∈ blkL ao28, w.heap.size ≤ x := fun x hx => (hk28 x hx).elim (e_i23 x) (Nat.le_trans hC.size)
    have hM : MS (blkL ao28 ++ (blkL ao25 ++ ([g3] ++ (M)))) w27 := (MS.app hl28 (MS.app (fun x h => hM.chg hc28 x (ml h)) (fun x h => hM.chg hc28 x (mr (mr (h))))))
    have hC := hC.trans hc28 (fun x h => .inr (e_i23 x h))
    have f28 := hO28.chg (M' := blkL ao28 ++ (blkL ao25 ++ ([g3] ++ (M)))) (Chg.refl [] _) (Ok.nil _ _) (Ok.app (fun _ h => .inl (ml h)) (Ok.to (Ok.app (fun _ h => .inl (ml h)) (fun _ h => .inl (mr (mr (h))))) (fun _ h => mr h))) (fun _ _ h => nomatch h) (fun _ h => ml h)
    refine seg ha 1 [(2, .int .i64 a2), (6, .pointer (some ⟨g3, 0, none⟩)), (9, .int .i64 t7.2), (10, .slice ao28 (t22 ++ t24).length cap28)] (by kernel_rfl) fun a ha => ?_
    refine hK21 _ _ ?_; try clear hK21 K21
    refine wp_seq_k fun K29 hK29 => ?_
    refine wp_region_lit ?_
    refine seg ha 3 [(6, .pointer (some ⟨g3, 0, none⟩)), (46, .slice ao28 (t22 ++ t24).length cap28), (47, .int .i64 a2), (48, .int .i64 t7.2)] (by kernel_rfl) fun a ha => ?_
    obtain ⟨t30, H30, H⟩ := bind_some H
    refine cl ha (by rfl) (by kernel_rfl) (by rfl) (by rfl) (by rfl) (vineryref01_Bytes.walk w27 _ hM a2 t7.2 k _ H30) ?_
    rintro _ w30 ⟨ao31, cap31, rfl, f31, ne_i31, hc30, hMn⟩ a ha
    have o1 : Ok [] (blkL ao28 ++ (blkL ao25 ++ ([g3] ++ (M)))) w27.heap.size := Ok.nil _ _
    have o2 : Ok (blkL ao31 ++ (blkL ao28 ++ (blkL ao25 ++ ([g3] ++ (M))))) (blkL ao28 ++ (blkL ao25 ++ ([g3] ++ (M)))) w27.heap.size := (Ok.app (fun x h => .inr (ne_i31 x h)) (Ok.refl _ _))
    have f28 := f28.chg hc30 o1 o2 (fun _ _ h => nomatch h) (fun _ h => mr (ml h))
    have hBg3 := hBg3.chg hc30 (fun h => nomatch h)
    have p_i31_i28 : ∀ x ∈ blkL ao31, x ∉ (blkL ao28) := fun x hx hy => absurd (hM x (ml hy)) (Nat.not_lt.2 (ne_i31 x hx))
    have p_i31_i25 : ∀ x ∈ blkL ao31, x ∉ (blkL ao25) := fun x hx hy => absurd (hM x (mr (ml hy))) (Nat.not_lt.2 (ne_i31 x hx))
    have p_i31_i5 : ∀ x ∈ blkL ao31, x ∉ ([g3]) := fun x hx hy => absurd (hM x (mr (mr (ml hy)))) (Nat.not_lt.2 (ne_i31 x hx))
    have p_i31_M : ∀ x ∈ blkL ao31, x ∉ M := fun x hx hy => absurd (hM x (mr (mr (mr (hy))))) (Nat.not_lt.2 (ne_i31 x hx))
    have e_i31 : ∀ x ∈ blkL ao31, w.heap.size ≤ x := fun x hx => Nat.le_trans hC.size (ne_i31 x hx)
    have hM : MS (blkL ao31 ++ (blkL ao28 ++ (blkL ao25 ++ ([g3] ++ (M))))) w30 := (MS.app (fun x h => hMn x (ml h)) (hM.chg hc30))
    have hC := hC.trans hc30 (Ok.nil _ _)
    obtain ⟨hx32, H⟩ := ite_some H
    refine app (r := (rInt .u8)) (xs := (t22 ++ t24)) (ys := t30) ha (ElemT.mk' (bytes := 1) (by kernel_rfl)) rfl rfl rfl rfl rfl f28 f31.src hx32 (by decide) fun a w33 ao34 cap34 hO34 hc34 hk34 hl34 ha => ?_
    have o1 : Ok (blkL ao28) (blkL ao31 ++ (blkL ao28 ++ (blkL ao25 ++ ([g3] ++ (M))))) w30.heap.size := (fun _ h => .inl (mr (ml h)))
    have o2 : Ok (blkL ao34 ++ (blkL ao31 ++ (blkL ao25 ++ ([g3] ++ (M))))) (blkL ao31 ++ (blkL ao28 ++ (blkL ao25 ++ ([g3] ++ (M))))) w30.heap.size := (Ok.app (Ok.to hk34 (fun _ h => mr (ml h))) (Ok.app (fun _ h => .inl (ml h)) (fun _ h => .inl (mr (mr (h))))))
    have f31 := f31.chg hc34 o1 o2 p_i31_i28 (fun _ h => mr (ml h))
    have hBg3 := hBg3.chg hc34 ((fun x (hx : x ∈ [g3]) (hy : x ∈ blkL ao28) => p_i28_i5 x hy hx) g3 (by simp))
    have p_i34_i31 : ∀ x ∈ blkL ao34, x ∉ (blkL ao31) := fun x hx hy => (hk34 x hx).elim (fun h => (fun x hx hy => p_i31_i28 x hy hx) x h hy) (fun h => absurd (hM x (ml hy)) (Nat.not_lt.2 h))
    have p_i34_i25 : ∀ x ∈ blkL ao34, x ∉ (blkL ao25) := fun x hx hy => (hk34 x hx).elim (fun h => p_i28_i25 x h hy) (fun h => absurd (hM x (mr (mr (ml hy)))) (Nat.not_lt.2 h))
    have p_i34_i5 : ∀ x ∈ blkL ao34, x ∉ ([g3]) := fun x hx hy => (hk34 x hx).elim (fun h => p_i28_i5 x h hy) (fun h => absurd (hM x (mr (mr (mr (ml hy))))) (Nat.not_lt.2 h))
    have p_i34_M : ∀ x ∈ blkL ao34, x ∉ M := fun x hx hy => (hk34 x hx).elim (fun h => p_i28_M x h hy) (fun h => absurd (hM x (mr (mr (mr (mr (hy)))))) (Nat.not_lt.2 h))
    have e_i34 : ∀ x ∈ blkL ao34, w.heap.size ≤ x := fun x hx => (hk34 x hx).elim (e_i28 x) (Nat.le_trans hC.size)
    have hM : MS (blkL ao34 ++ (blkL ao31 ++ (blkL ao25 ++ ([g3] ++ (M))))) w33 := (MS.app hl34 (MS.app (fun x h => hM.chg hc34 x (ml h)) (fun x h => hM.chg hc34 x (mr (mr (h))))))
    have hC := hC.trans hc34 (fun x h => .inr (e_i28 x h))
    have f34 := hO34.chg (M' := blkL ao34 ++ (blkL ao31 ++ (blkL ao25 ++ ([g3] ++ (M))))) (Chg.refl [] _) (Ok.nil _ _) (Ok.app (fun _ h => .inl (ml h)) (Ok.to (Ok.app (fun _ h => .inl (ml h)) (fun _ h => .inl (mr (mr (h))))) (fun _ h => mr h))) (fun _ _ h => nomatch h) (fun _ h => ml h)
    have hML : MS (blkL ao31 ++ (blkL ao25 ++ ([g3] ++ (M)))) w33 := MS.rest hM (fun _ h => (List.mem_append.1 h).elim (fun h => mr (ml h)) (fun h => (List.mem_append.1 h).elim (fun h => mr (mr (ml h))) (fun h => (List.mem_append.1 h).elim (fun h => mr (mr (mr (ml h)))) (fun h => mr (mr (mr (mr (h))))))))
    have oL : Ok (blkL ao31 ++ (blkL ao25 ++ ([g3] ++ (M)))) (blkL ao34 ++ (blkL ao31 ++ (blkL ao25 ++ ([g3] ++ (M))))) w33.heap.size := (fun _ h => .inl (mr (h)))
    obtain ⟨t35, H35, H⟩ := bind_some H
    refine cl ha (by rfl) (by kernel_rfl) (by rfl) (by rfl) (by rfl) (vineryref03_Of.walk w33 _ hML ((t22 ++ t24) ++ t30) ao34 cap34 (Own.toRSl (M' := blkL ao31 ++ (blkL ao25 ++ ([g3] ++ (M)))) f34 oL (fun x hx hm => (List.mem_append.1 hm).elim (fun h => p_i34_i31 x hx h) (fun h => (List.mem_append.1 h).elim (fun h => p_i34_i25 x hx h) (fun h => (List.mem_append.1 h).elim (fun h => p_i34_i5 x hx h) (fun h => p_i34_M x hx h))))) k _ H35) ?_
    rintro _ w35 ⟨rfl, hc35, hMn⟩ a ha
    have o1 : Ok [] (blkL ao34 ++ (blkL ao31 ++ (blkL ao25 ++ ([g3] ++ (M))))) w33.heap.size := Ok.nil _ _
    have o2 : Ok (blkL ao34 ++ (blkL ao31 ++ (blkL ao25 ++ ([g3] ++ (M))))) (blkL ao34 ++ (blkL ao31 ++ (blkL ao25 ++ ([g3] ++ (M))))) w33.heap.size := (Ok.refl _ _)
    have f34 := f34.chg hc35 o1 o2 (fun _ _ h => nomatch h) (fun _ h => ml h)
    have hBg3 := hBg3.chg hc35 (fun h => nomatch h)
    have hM : MS (blkL ao34 ++ (blkL ao31 ++ (blkL ao25 ++ ([g3] ++ (M))))) w35 := (hM.chg hc35)
    have hC := hC.trans hc35 (Ok.nil _ _)
    refine stA (l := (cA .u8 8 t35)) ha rfl rfl rfl (by kernel_rfl) rfl rfl hBg3 rfl fun a w36 ha hb2 hc37 _ => ?_
    have hM : MS (blkL ao34 ++ (blkL ao31 ++ (blkL ao25 ++ ([g3] ++ (M))))) w36 := (hM.chg hc37)
    have hC := hC.trans hc37 (fun x h => .inr (e_i5 x h))
    have hBg3 : Box w36 g3 (cA .u8 8 t35) := hb2
    refine seg ha 1 [(6, .pointer (some ⟨g3, 0, none⟩)), (7, .int .i64 (0 : Int))] (by kernel_rfl) fun a ha => ?_
    refine hK29 _ _ ?_; try clear hK29 K29
    refine wp_ret ?_
    try simp only [Exit.then, Exit.inBlock]
    have hBg3 := hBg3.chg (Chg.refl [] _) (fun h => nomatch h)
    have hM : MS (M) w36 := (fun x h => hM.chg (Chg.refl [] _) x (mr (mr (mr (mr (h))))))
    have hC := hC.trans (Chg.refl [] _) (Ok.nil _ _)
    obtain rfl := Option.some.inj H
    refine rtr ha (res2 rfl (roA ha rfl hBg3 (by kernel_rfl)) (roT ha rfl)) ?_
    exact ⟨rfl, hC, hM⟩
  have H := H16
  refine seg ha 3 [(21, .bool (decide (a1 < (0 : Int)))), (0, .int .i64 a0), (1, .int .i64 a1), (2, .int .i64 a2), (6, .pointer (some ⟨g3, 0, none⟩)), (8, .int .i64 t7.1), (9, .int .i64 t7.2)] (by kernel_rfl) fun a ha => ?_
  rcases Bool.eq_false_or_eq_true (decide (a1 < (0 : Int))) with hb38 | hb38
  ·have ha := ha.lit hb38
   have H := ite_t hb38 H
   refine sgh ha 17 [1, 1, 3, 0, 1, 1, 1, 1, 1, 3, 0, 1, 1, 1, 1, 1, 3] [(0, .int .i64 a0), (1, .int .i64 a1), (2, .int .i64 a2), (6, .pointer (some ⟨g3, 0, none⟩)), (8, .int .i64 t7.1), (9, .int .i64 t7.2), (38, .bool true)] (by kernel_rfl) fun a ha => ?_
   obtain rfl := Option.some.inj H
   exact J16 _ _ (ha.sel (by kernel_rfl)) hBg3 hC hM
  ·have ha := ha.lit hb38
   have H := ite_f hb38 H
   refine sgh ha 4 [2, 2, 4, 0] [(25, .bool (decide (a2 < (0 : Int)))), (0, .int .i64 a0), (1, .int .i64 a1), (2, .int .i64 a2), (6, .pointer (some ⟨g3, 0, none⟩)), (8, .int .i64 t7.1), (9, .int .i64 t7.2)] (by kernel_rfl) fun a ha => ?_
   rcases Bool.eq_false_or_eq_true (decide (a2 < (0 : Int))) with hb39 | hb39
   ·have ha := ha.lit hb39
    have H := ite_t hb39 H
    refine sgh ha 13 [1, 1, 1, 1, 1, 3, 0, 1, 1, 1, 1, 1, 3] [(0, .int .i64 a0), (1, .int .i64 a1), (2, .int .i64 a2), (6, .pointer (some ⟨g3, 0, none⟩)), (8, .int .i64 t7.1), (9, .int .i64 t7.2), (38, .bool true)] (by kernel_rfl) fun a ha => ?_
    obtain rfl := Option.some.inj H
    exact J16 _ _ (ha.sel (by kernel_rfl)) hBg3 hC hM
   ·have ha := ha.lit hb39
    have H := ite_f hb39 H
    refine sgh ha 3 [2, 2, 2] [(0, .int .i64 a0), (1, .int .i64 a1), (2, .int .i64 a2), (6, .pointer (some ⟨g3, 0, none⟩)), (8, .int .i64 t7.1), (9, .int .i64 t7.2), (25, .bool false), (26, .int .i64 a1), (28, .int .i64 (IntKind.i64.wrap ((8 : Int) * t7.1)))] (by kernel_rfl) fun a ha => ?_
    obtain ⟨hx40, H⟩ := ite_some H
    refine hop (v := .int .i64 (IntKind.i64.wrap ((1 : Int) * 2 ^ (min (Int.toNat (IntKind.i64.wrap ((8 : Int) * t7.1))) IntKind.i64.bits)))) (w' := w7) ha rfl rfl rfl (shl_run ha (by rfl) (by rfl) hx40 _) fun a ha => ?_
    refine sgh ha 3 [2, 4, 0] [(32, .bool (decide (a1 ≥ (IntKind.i64.wrap ((1 : Int) * 2 ^ (min (Int.toNat (IntKind.i64.wrap ((8 : Int) * t7.1))) IntKind.i64.bits)))))), (0, .int .i64 a0), (1, .int .i64 a1), (2, .int .i64 a2), (6, .pointer (some ⟨g3, 0, none⟩)), (8, .int .i64 t7.1), (9, .int .i64 t7.2)] (by kernel_rfl) fun a ha => ?_
    rcases Bool.eq_false_or_eq_true (decide (a1 ≥ (IntKind.i64.wrap ((1 : Int) * 2 ^ (min (Int.toNat (IntKind.i64.wrap ((8 : Int) * t7.1))) IntKind.i64.bits))))) with hb41 | hb41
    ·have ha := ha.lit hb41
     have H := ite_t hb41 H
     refine sgh ha 6 [1, 1, 1, 1, 1, 3] [(0, .int .i64 a0), (1, .int .i64 a1), (2, .int .i64 a2), (6, .pointer (some ⟨g3, 0, none⟩)), (8, .int .i64 t7.1), (9, .int .i64 t7.2), (38, .bool true)] (by kernel_rfl) fun a ha => ?_
     obtain rfl := Option.some.inj H
     exact J16 _ _ (ha.sel (by kernel_rfl)) hBg3 hC hM
    ·have ha := ha.lit hb41
     have H := ite_f hb41 H
     refine sgh ha 3 [2, 2, 2] [(0, .int .i64 a0), (1, .int .i64 a1), (2, .int .i64 a2), (6, .pointer (some ⟨g3, 0, none⟩)), (8, .int .i64 t7.1), (9, .int .i64 t7.2), (32, .bool false), (33, .int .i64 a2), (35, .int .i64 (IntKind.i64.wrap ((8 : Int) * t7.2)))] (by kernel_rfl) fun a ha => ?_
     obtain ⟨hx42, H⟩ := ite_some H
     refine hop (v := .int .i64 (IntKind.i64.wrap ((1 : Int) * 2 ^ (min (Int.toNat (IntKind.i64.wrap ((8 : Int) * t7.2))) IntKind.i64.bits)))) (w' := w7) ha rfl rfl rfl (shl_run ha (by rfl) (by rfl) hx42 _) fun a ha => ?_
     refine sgh ha 2 [2, 4] [(0, .int .i64 a0), (1, .int .i64 a1), (2, .int .i64 a2), (6, .pointer (some ⟨g3, 0, none⟩)), (8, .int .i64 t7.1), (9, .int .i64 t7.2), (38, .bool (decide (a2 ≥ (IntKind.i64.wrap ((1 : Int) * 2 ^ (min (Int.toNat (IntKind.i64.wrap ((8 : Int) * t7.2))) IntKind.i64.bits))))))] (by kernel_rfl) fun a ha => ?_
     obtain rfl := Option.some.inj H
     exact J16 _ _ (ha.sel (by kernel_rfl)) hBg3 hC hM
def vineryref04_of.l0 (a0 : List Int) : Nat → Int → (List Int) → Option (List Int)
  | 0, _, _ => none
  | kk + 1, x15, x16 => (if (if (decide (x15 < (8 : Int))) = true then (decide (x15 < (a0.length : Int))) else false) = true then (if 0 ≤ x15 ∧ x15 < (a0.length : Int) then (if 0 ≤ x15 ∧ x15 < (8 : Int) then vineryref04_of.l0 a0 kk (IntKind.i64.wrap (x15 + (1 : Int))) ((arL 8 x16).set (Int.toNat x15) (rd a0 x15)) else none) else none) else some (x16 : List Int))
def vineryref04_of.f (k : Nat) (a0 : List Int) : Option (List Int) := (vineryref04_of.l0 a0 k (0 : Int) (List.replicate 8 (0 : Int))).bind fun s14 => some ((s14 : List Int))
set_option maxRecDepth 100000 in
theorem vineryref04_of.walk (w : World) (M : List Nat) (hM : MS M w) (a0 : List Int) (ao1 : Option Addr) (cap1 : Nat) (f1 : RSl (rInt .u8) 5 w M ao1 cap1 a0) (k : Nat) (r : List Int) (H : vineryref04_of.f k a0 = some r) :
    To Tryz.prog 43 [.slice ao1 a0.length cap1] w fun v w' => v = .agg (cA .u8 8 r).toArray ∧ Chg [] w w' ∧ MS (M) w' := by
 unfold vineryref04_of.f at H
 refine ent Tryz.func43 rfl [(0, .slice ao1 a0.length cap1)] rfl (by rfl) fun a ha => ?_
 have hC : Chg [] w w := Chg.refl _ _
 refine wp_seq_k fun K2 hK2 => ?_
 refine wp_region_lit ?_
 refine al (cs := (cA .u8 8 (List.replicate 8 (0 : Int)))) (z := .agg (cA .u8 8 (List.replicate 8 (0 : Int))).toArray) ha (fun w => by kernel_rfl) rfl rfl rfl rfl fun a w3 g4 hN5 ha => ?_
 have o1 : Ok [] (M) w.heap.size := Ok.nil _ _
 have o2 : Ok ([g4] ++ (M)) (M) w.heap.size := (Ok.app (hN5.ok _) (Ok.refl _ _))
 have f1 := f1.chg hN5.chg o1 o2
 have p_i6_M : ∀ x ∈ [g4], x ∉ M := fun x hx hy => absurd (hM x (hy)) (Nat.not_lt.2 ((hN5.ge1) x hx))
 have e_i6 : ∀ x ∈ [g4], w.heap.size ≤ x := fun x hx => Nat.le_trans hC.size ((hN5.ge1) x hx)
 have hM : MS ([g4] ++ (M)) w3 := (MS.app hN5.ms (hM.chg hN5.chg))
 have hC := hC.trans hN5.chg (Ok.nil _ _)
 have hBg4 : Box w3 g4 (cA .u8 8 (List.replicate 8 (0 : Int))) := hN5.box
 refine hK2 _ _ ?_; try clear hK2 K2
 refine wp_seq_k fun K7 hK7 => ?_
 refine wp_region_lit ?_
 refine al (cs := (cA .u8 8 (List.replicate 8 (0 : Int)))) (z := .agg (cA .u8 8 (List.replicate 8 (0 : Int))).toArray) ha (fun w => by kernel_rfl) rfl rfl rfl rfl fun a w8 g9 hN10 ha => ?_
 have o1 : Ok [] ([g4] ++ (M)) w3.heap.size := Ok.nil _ _
 have o2 : Ok ([g9] ++ ([g4] ++ (M))) ([g4] ++ (M)) w3.heap.size := (Ok.app (hN10.ok _) (Ok.refl _ _))
 have f1 := f1.chg hN10.chg o1 o2
 have hBg4 := hBg4.chg hN10.chg (fun h => nomatch h)
 have p_i11_i6 : ∀ x ∈ [g9], x ∉ ([g4]) := fun x hx hy => absurd (hM x (ml hy)) (Nat.not_lt.2 ((hN10.ge1) x hx))
 have p_i11_M : ∀ x ∈ [g9], x ∉ M := fun x hx hy => absurd (hM x (mr (hy))) (Nat.not_lt.2 ((hN10.ge1) x hx))
 have e_i11 : ∀ x ∈ [g9], w.heap.size ≤ x := fun x hx => Nat.le_trans hC.size ((hN10.ge1) x hx)
 have hM : MS ([g9] ++ ([g4] ++ (M))) w8 := (MS.app hN10.ms (hM.chg hN10.chg))
 have hC := hC.trans hN10.chg (Ok.nil _ _)
 have hBg9 : Box w8 g9 (cA .u8 8 (List.replicate 8 (0 : Int))) := hN10.box
 refine hK7 _ _ ?_; try clear hK7 K7
 refine wp_seq_k fun K12 hK12 => ?_
 refine wp_seq_k fun K13 hK13 => ?_
 refine wp_region_lit ?_
 refine seg ha 1 [(0, .slice ao1 a0.length cap1), (2, .pointer (some ⟨g4, 0, none⟩)), (3, .pointer (some ⟨g9, 0, none⟩)), (4, .int .i64 (0 : Int))] (by kernel_rfl) fun a ha => ?_
 refine hK13 _ _ ?_; try clear hK13 K13
 refine wp_block ?_
 obtain ⟨s14, H14, H⟩ := bind_some H
 have J14 : ∀ (a : Act) (wx14 : World), Has a Tryz.f43.ntmps [(2, .pointer (some ⟨g4, 0, none⟩)), (3, .pointer (some ⟨g9, 0, none⟩))] → (Box wx14 g4 (cA .u8 8 (List.replicate 8 (0 : Int)))) → (Box wx14 g9 (cA .u8 8 s14)) → (Chg [] w wx14) → (MS ([g9] ++ ([g4] ++ (M))) wx14) → K12 a wx14 := by
  intro a wx14 ha hBg4 hBg9 hC hM
  refine hK12 _ _ ?_; try clear hK12 K12
  refine wp_seq_k fun K17 hK17 => ?_
  refine wp_region_lit ?_
  refine ldA (cs := (cA .u8 8 s14)) ha rfl (by kernel_rfl) rfl rfl rfl (cells_sub (Box.cells hBg9) (all := (cA .u8 8 s14)) [] [] (by kernel_rfl)) fun a ha => ?_
  refine stA (l := (cA .u8 8 s14)) ha rfl rfl rfl (by kernel_rfl) rfl rfl hBg4 rfl fun a w18 ha hb2 hc19 _ => ?_
  have hBg9 := hBg9.chg hc19 (p_i11_i6 g9 (by simp))
  have hM : MS ([g9] ++ ([g4] ++ (M))) w18 := (hM.chg hc19)
  have hC := hC.trans hc19 (fun x h => .inr (e_i6 x h))
  have hBg4 : Box w18 g4 (cA .u8 8 s14) := hb2
  refine hK17 _ _ ?_; try clear hK17 K17
  refine wp_ret ?_
  try simp only [Exit.then, Exit.inBlock]
  have hBg4 := hBg4.chg (Chg.refl [] _) (fun h => nomatch h)
  have hBg9 := hBg9.chg (Chg.refl [] _) (fun h => nomatch h)
  have hM : MS (M) w18 := (fun x h => hM.chg (Chg.refl [] _) x (mr (mr (h))))
  have hC := hC.trans (Chg.refl [] _) (Ok.nil _ _)
  obtain rfl := Option.some.inj H
  refine rtr ha (res1 rfl (roA ha rfl hBg4 (by kernel_rfl))) ?_
  exact ⟨rfl, hC, hM⟩
 have Hc14 := H
 have H := H14
 refine wp_loop_ghost (fun kk a w14 => ∃ (x15 : Int) (x16 : List Int), vineryref04_of.l0 a0 kk x15 x16 = some s14 ∧ Has a Tryz.f43.ntmps [(0, .slice ao1 a0.length cap1), (2, .pointer (some ⟨g4, 0, none⟩)), (3, .pointer (some ⟨g9, 0, none⟩)), (4, .int .i64 x15)] ∧ (RSl (rInt .u8) 5 w14 ([g9] ++ ([g4] ++ (M))) ao1 cap1 a0) ∧ (Box w14 g4 (cA .u8 8 (List.replicate 8 (0 : Int)))) ∧ (Box w14 g9 (cA .u8 8 x16)) ∧ (Chg [] w w14) ∧ (MS ([g9] ++ ([g4] ++ (M))) w14)) k ?_ ?_
 ·skip
  exact ⟨(0 : Int), (List.replicate 8 (0 : Int)), H, (ha.sel (by kernel_rfl)), f1, hBg4, hBg9, hC, hM⟩
 ·rintro kk a w14 ⟨x15, x16, H, ha, f1, hBg4, hBg9, hC, hM⟩
  obtain _ | kk := kk
  ·exact nomatch (show none = some _ from H)
  rw [vineryref04_of.l0] at H
  refine wp_seq_k fun K20 hK20 => ?_
  refine wp_seq_k fun K21 hK21 => ?_
  refine wp_region_lit ?_
  refine seg ha 8 [(0, .slice ao1 a0.length cap1), (2, .pointer (some ⟨g4, 0, none⟩)), (3, .pointer (some ⟨g9, 0, none⟩)), (4, .int .i64 x15), (12, .bool (if (decide (x15 < (8 : Int))) = true then (decide (x15 < (a0.length : Int))) else false))] (by kernel_rfl) fun a ha => ?_
  refine hK21 _ _ ?_; try clear hK21 K21
  refine cnd ha rfl (fun hc22 => ?_) (fun hc22 => ?_)
  ·have H := ite_t hc22 H
   refine wp_skip ?_
   refine hK20 _ _ ?_; try clear hK20 K20
   refine wp_seq_k fun K23 hK23 => ?_
   refine wp_block ?_
   refine wp_region_lit ?_
   refine seg ha 3 [(0, .slice ao1 a0.length cap1), (2, .pointer (some ⟨g4, 0, none⟩)), (3, .pointer (some ⟨g9, 0, none⟩)), (4, .int .i64 x15), (15, .int .i64 x15), (16, .slice ao1 a0.length cap1), (17, .int .i64 x15)] (by kernel_rfl) fun a ha => ?_
   obtain ⟨⟨hx24, hx24'⟩, H⟩ := ite_some H
   refine ix (r := (rInt .u8)) ha (by kernel_rfl) (by kernel_rfl) rfl rfl rfl rfl rfl f1 hx24 hx24' fun a ge25 oe26 cs27 hn30 hR28 hE29 ha => ?_
   rw [rd_get] at hR28
   obtain rfl := hR28
   have hE29 : ∀ j v, ([.int .u8 (rd a0 x15)] : List Value)[j]? = some v → w14.cell? ⟨ge25, oe26 + j, none⟩ = some v := hE29
   refine ld ha rfl (by kernel_rfl) rfl rfl rfl (hE29 0 (.int .u8 (rd a0 x15)) (by kernel_rfl)) fun a ha => ?_
   obtain ⟨⟨hx31, hx31'⟩, H⟩ := ite_some H
   have hi31 : (Int.toNat x15) < 8 := by omega
   refine hop (v := .pointer (some ⟨g9, 0 + (Int.toNat x15), none⟩)) (w' := w14) ha rfl rfl rfl (ixA_run (T := 5) (N := 8) (g := g9) (o' := 0) (k := .i64) (i := x15) ha (by kernel_rfl) (by kernel_rfl) (by rfl) (by rfl) hx31 hx31' _) fun a ha => ?_
   refine st (o' := 0 + (Int.toNat x15)) ha rfl rfl rfl (by kernel_rfl) rfl rfl hBg9 (arr_lt (k := .u8) (m := 8) (x := x16) ([] : List Value) ([] : List Value) (by kernel_rfl) hi31) fun a w32 ha hb2 hc33 _ => ?_
   have o1 : Ok [g9] ([g9] ++ ([g4] ++ (M))) w14.heap.size := (fun _ h => .inl (ml h))
   have o2 : Ok ([g9] ++ ([g4] ++ (M))) ([g9] ++ ([g4] ++ (M))) w14.heap.size := (Ok.refl _ _)
   have f1 := f1.chg hc33 o1 o2
   have hBg4 := hBg4.chg hc33 ((fun x (hx : x ∈ [g4]) (hy : x ∈ [g9]) => p_i11_i6 x hy hx) g4 (by simp))
   have hM : MS ([g9] ++ ([g4] ++ (M))) w32 := (hM.chg hc33)
   have hC := hC.trans hc33 (fun x h => .inr (e_i11 x h))
   have hBg9 : Box w32 g9 (cA .u8 8 ((arL 8 x16).set (Int.toNat x15) (rd a0 x15))) := Box.setA (k := .u8) (m := 8) (x := x16) ([] : List Value) ([] : List Value) hb2 (by kernel_rfl) hi31 (by kernel_rfl)
   refine hK23 _ _ ?_; try clear hK23 K23
   refine wp_region_lit ?_
   refine seg ha 3 [(0, .slice ao1 a0.length cap1), (2, .pointer (some ⟨g4, 0, none⟩)), (3, .pointer (some ⟨g9, 0, none⟩)), (4, .int .i64 (IntKind.i64.wrap (x15 + (1 : Int))))] (by kernel_rfl) fun a ha => ?_
   exact ⟨kk, Nat.lt_succ_self _, ⟨IntKind.i64.wrap (x15 + (1 : Int)), ((arL 8 x16).set (Int.toNat x15) (rd a0 x15)), H, (ha.sel (by kernel_rfl)), f1, hBg4, hBg9, hC, hM⟩⟩
  ·have H := ite_f hc22 H
   refine wp_exit ?_
   simp only [Exit.then, Exit.inBlock, ↓reduceIte, Nat.reduceEqDiff]
   obtain rfl := Option.some.inj H
   exact J14 _ _ (ha.sel (by kernel_rfl)) hBg4 hBg9 hC hM
def vineryref04_Target.f (k : Nat) (a0 : Int) (a1 : Int) (a2 : Int) : Option (List Int × Int) := (vineryref03_Make.f k a0 a1 a2).bind fun t7 => (if (t7.2 != (0 : Int)) = true then some ((([(0 : Int), (0 : Int), (0 : Int), (0 : Int), (0 : Int), (0 : Int), (0 : Int), (0 : Int)] : List Int) : List Int), (t7.2 : Int)) else (if 0 ≤ (2 : Int) ∧ (2 : Int) ≤ (8 : Int) ∧ (8 : Int) ≤ (8 : Int) then (if (([IntKind.u8.wrap a0, (2 : Int)] : List Int).length + (((arL 8 t7.1).take (Int.toNat (8 : Int))).drop (Int.toNat (2 : Int))).length) * 1 ≤ 140737488355328 then (vineryref04_of.f k (([IntKind.u8.wrap a0, (2 : Int)] : List Int) ++ (((arL 8 t7.1).take (Int.toNat (8 : Int))).drop (Int.toNat (2 : Int))))).bind fun t31 => some ((t31 : List Int), ((0 : Int) : Int)) else none) else none))
set_option maxRecDepth 100000 in
theorem vineryref04_Target.walk (w : World) (M : List Nat) (hM : MS M w) (a0 : Int) (a1 : Int) (a2 : Int) (k : Nat) (r : List Int × Int) (H : vineryref04_Target.f k a0 a1 a2 = some r) :
    To Tryz.prog 12 [.int .i64 a0, .int .i64 a1, .int .i64 a2] w fun v w' => v = .tuple #[.agg (cA .u8 8 r.1).toArray, .int .i64 r.2] ∧ Chg [] w w' ∧ MS (M) w' := by
 unfold vineryref04_Target.f at H
 refine ent Tryz.func12 rfl [(0, .int .i64 a0), (1, .int .i64 a1), (2, .int .i64 a2)] rfl (by rfl) fun a ha => ?_
 have hC : Chg [] w w := Chg.refl _ _
 refine wp_seq_k fun K1 hK1 => ?_
 refine wp_region_lit ?_
 refine al (cs := (cA .u8 8 (List.replicate 8 (0 : Int)))) (z := .agg (cA .u8 8 (List.replicate 8 (0 : Int))).toArray) ha (fun w => by kernel_rfl) rfl rfl rfl rfl fun a w2 g3 hN4 ha => ?_
 have p_i5_M : ∀ x ∈ [g3], x ∉ M := fun x hx hy => absurd (hM x (hy)) (Nat.not_lt.2 ((hN4.ge1) x hx))
 have e_i5 : ∀ x ∈ [g3], w.heap.size ≤ x := fun x hx => Nat.le_trans hC.size ((hN4.ge1) x hx)
 have hM : MS ([g3] ++ (M)) w2 := (MS.app hN4.ms (hM.chg hN4.chg))
 have hC := hC.trans hN4.chg (Ok.nil _ _)
 have hBg3 : Box w2 g3 (cA .u8 8 (List.replicate 8 (0 : Int))) := hN4.box
 refine seg ha 1 [(0, .int .i64 a0), (1, .int .i64 a1), (2, .int .i64 a2), (6, .pointer (some ⟨g3, 0, none⟩))] (by kernel_rfl) fun a ha => ?_
 refine hK1 _ _ ?_; try clear hK1 K1
 refine wp_seq_k fun K6 hK6 => ?_
 refine wp_region_lit ?_
 refine seg ha 3 [(0, .int .i64 a0), (6, .pointer (some ⟨g3, 0, none⟩)), (11, .int .i64 a0), (12, .int .i64 a1), (13, .int .i64 a2)] (by kernel_rfl) fun a ha => ?_
 obtain ⟨t7, H7, H⟩ := bind_some H
 refine cl ha (by rfl) (by kernel_rfl) (by rfl) (by rfl) (by rfl) (vineryref03_Make.walk w2 _ hM a0 a1 a2 k _ H7) ?_
 rintro _ w7 ⟨rfl, hc7, hMn⟩ a ha
 have hBg3 := hBg3.chg hc7 (fun h => nomatch h)
 have hM : MS ([g3] ++ (M)) w7 := (hM.chg hc7)
 have hC := hC.trans hc7 (Ok.nil _ _)
 refine seg ha 3 [(0, .int .i64 a0), (6, .pointer (some ⟨g3, 0, none⟩)), (15, .agg (cA .u8 8 t7.1).toArray), (16, .int .i64 t7.2)] (by kernel_rfl) fun a ha => ?_
 refine al (cs := (cA .u8 8 (List.replicate 8 (0 : Int)))) (z := .agg (cA .u8 8 (List.replicate 8 (0 : Int))).toArray) ha (fun w => by kernel_rfl) rfl rfl rfl rfl fun a w8 g9 hN10 ha => ?_
 have hBg3 := hBg3.chg hN10.chg (fun h => nomatch h)
 have p_i11_i5 : ∀ x ∈ [g9], x ∉ ([g3]) := fun x hx hy => absurd (hM x (ml hy)) (Nat.not_lt.2 ((hN10.ge1) x hx))
 have p_i11_M : ∀ x ∈ [g9], x ∉ M := fun x hx hy => absurd (hM x (mr (hy))) (Nat.not_lt.2 ((hN10.ge1) x hx))
 have e_i11 : ∀ x ∈ [g9], w.heap.size ≤ x := fun x hx => Nat.le_trans hC.size ((hN10.ge1) x hx)
 have hM : MS ([g9] ++ ([g3] ++ (M))) w8 := (MS.app hN10.ms (hM.chg hN10.chg))
 have hC := hC.trans hN10.chg (Ok.nil _ _)
 have hBg9 : Box w8 g9 (cA .u8 8 (List.replicate 8 (0 : Int))) := hN10.box
 refine stA (l := (cA .u8 8 t7.1)) ha rfl rfl rfl (by kernel_rfl) rfl rfl hBg9 rfl fun a w12 ha hb2 hc13 _ => ?_
 have hBg3 := hBg3.chg hc13 ((fun x (hx : x ∈ [g3]) (hy : x ∈ [g9]) => p_i11_i5 x hy hx) g3 (by simp))
 have hM : MS ([g9] ++ ([g3] ++ (M))) w12 := (hM.chg hc13)
 have hC := hC.trans hc13 (fun x h => .inr (e_i11 x h))
 have hBg9 : Box w12 g9 (cA .u8 8 t7.1) := hb2
 refine seg ha 1 [(0, .int .i64 a0), (6, .pointer (some ⟨g3, 0, none⟩)), (8, .pointer (some ⟨g9, 0, none⟩)), (9, .int .i64 t7.2)] (by kernel_rfl) fun a ha => ?_
 refine hK6 _ _ ?_; try clear hK6 K6
 refine wp_seq_k fun K14 hK14 => ?_
 refine wp_seq_k fun K15 hK15 => ?_
 refine wp_region_lit ?_
 refine seg ha 2 [(0, .int .i64 a0), (6, .pointer (some ⟨g3, 0, none⟩)), (8, .pointer (some ⟨g9, 0, none⟩)), (9, .int .i64 t7.2), (18, .bool (t7.2 != (0 : Int)))] (by kernel_rfl) fun a ha => ?_
 refine hK15 _ _ ?_; try clear hK15 K15
 refine cnd ha rfl (fun hc16 => ?_) (fun hc16 => ?_)
 ·have H := ite_t hc16 H
  refine wp_seq_k fun K17 hK17 => ?_
  refine wp_region_lit ?_
  refine opk (v := .agg (cA .u8 8 ([(0 : Int), (0 : Int), (0 : Int), (0 : Int), (0 : Int), (0 : Int), (0 : Int), (0 : Int)] : List Int)).toArray) ha rfl rfl rfl rfl rfl (fun w => by kernel_rfl) fun a ha => ?_
  refine seg ha 1 [(6, .pointer (some ⟨g3, 0, none⟩)), (19, .agg (cA .u8 8 ([(0 : Int), (0 : Int), (0 : Int), (0 : Int), (0 : Int), (0 : Int), (0 : Int), (0 : Int)] : List Int)).toArray), (20, .int .i64 t7.2)] (by kernel_rfl) fun a ha => ?_
  refine stA (l := (cA .u8 8 ([(0 : Int), (0 : Int), (0 : Int), (0 : Int), (0 : Int), (0 : Int), (0 : Int), (0 : Int)] : List Int))) ha rfl rfl rfl (by kernel_rfl) rfl rfl hBg3 rfl fun a w18 ha hb2 hc19 _ => ?_
  have hBg9 := hBg9.chg hc19 (p_i11_i5 g9 (by simp))
  have hM : MS ([g9] ++ ([g3] ++ (M))) w18 := (hM.chg hc19)
  have hC := hC.trans hc19 (fun x h => .inr (e_i5 x h))
  have hBg3 : Box w18 g3 (cA .u8 8 ([(0 : Int), (0 : Int), (0 : Int), (0 : Int), (0 : Int), (0 : Int), (0 : Int), (0 : Int)] : List Int)) := hb2
  refine seg ha 1 [(6, .pointer (some ⟨g3, 0, none⟩)), (7, .int .i64 t7.2)] (by kernel_rfl) fun a ha => ?_
  refine hK17 _ _ ?_; try clear hK17 K17
  refine wp_ret ?_
  try simp only [Exit.then, Exit.inBlock]
  have hBg3 := hBg3.chg (Chg.refl [] _) (fun h => nomatch h)
  have hBg9 := hBg9.chg (Chg.refl [] _) (fun h => nomatch h)
  have hM : MS (M) w18 := (fun x h => hM.chg (Chg.refl [] _) x (mr (mr (h))))
  have hC := hC.trans (Chg.refl [] _) (Ok.nil _ _)
  obtain rfl := Option.some.inj H
  refine rtr ha (res2 rfl (roA ha rfl hBg3 (by kernel_rfl)) (roT ha rfl)) ?_
  exact ⟨rfl, hC, hM⟩
 ·have H := ite_f hc16 H
  refine wp_skip ?_
  refine hK14 _ _ ?_; try clear hK14 K14
  refine wp_seq_k fun K20 hK20 => ?_
  refine wp_region_lit ?_
  refine seg ha 2 [(6, .pointer (some ⟨g3, 0, none⟩)), (8, .pointer (some ⟨g9, 0, none⟩)), (22, .int .u8 (IntKind.u8.wrap a0))] (by kernel_rfl) fun a ha => ?_
  refine bsl (vals := ([.int .u8 (IntKind.u8.wrap a0), .int .u8 (2 : Int)] : List Value)) (T := 5) ha rfl (([.int .u8 (IntKind.u8.wrap a0)] : List Value) ++ (([.int .u8 (2 : Int)] : List Value) ++ ([] : List Value))) (fun w => by kernel_rfl) rfl rfl rfl fun a w21 g22 hN23 ha => ?_
  have hBg3 := hBg3.chg hN23.chg (fun h => nomatch h)
  have hBg9 := hBg9.chg hN23.chg (fun h => nomatch h)
  have p_i24_i11 : ∀ x ∈ [g22], x ∉ ([g9]) := fun x hx hy => absurd (hM x (ml hy)) (Nat.not_lt.2 ((hN23.ge1) x hx))
  have p_i24_i5 : ∀ x ∈ [g22], x ∉ ([g3]) := fun x hx hy => absurd (hM x (mr (ml hy))) (Nat.not_lt.2 ((hN23.ge1) x hx))
  have p_i24_M : ∀ x ∈ [g22], x ∉ M := fun x hx hy => absurd (hM x (mr (mr (hy)))) (Nat.not_lt.2 ((hN23.ge1) x hx))
  have e_i24 : ∀ x ∈ [g22], w.heap.size ≤ x := fun x hx => Nat.le_trans hC.size ((hN23.ge1) x hx)
  have hM : MS ([g22] ++ ([g9] ++ ([g3] ++ (M)))) w21 := (MS.app hN23.ms (hM.chg hN23.chg))
  have hC := hC.trans hN23.chg (Ok.nil _ _)
  have f25 : Own (rInt .u8) 5 w21 ([g22] ++ ([g9] ++ ([g3] ++ (M)))) (some ⟨g22, 0, none⟩) 2 ([IntKind.u8.wrap a0, (2 : Int)] : List Int) := hN23.own ⟨([.int .u8 (IntKind.u8.wrap a0)] : List Value), _, rfl, rfl, ⟨([.int .u8 (2 : Int)] : List Value), _, rfl, rfl, rfl⟩⟩ (Nat.le_of_ble_eq_true rfl)
  have fw26 : RSl (rInt .u8) 5 w21 (butL g9 w21) (some ⟨g9, 0, none⟩) 8 (arL 8 t7.1) := RSl.ofA ([] : List Value) ([] : List Value) (Box.cells hBg9) butL_self (by kernel_rfl) rfl
  obtain ⟨⟨hx27, hx27', hx27''⟩, H⟩ := ite_some H
  obtain ⟨ao27, cap27, f27, hr27⟩ := slA_run (kk := .u8) (T := 5) (N := 8) (g := g9) (o' := 0) (xs := (arL 8 t7.1)) (t := 56) (lo := (Option.some (Operand.const (Value.int IntKind.i64 2)))) (hi := Option.none) (l := (2 : Int)) (h := (8 : Int)) (dd := some 24) (ty := 36) (pos := "ref.go:26") (af := #[]) (gd := Option.none) ha (by kernel_rfl) (by kernel_rfl) (x := (Operand.tmp 8)) rfl (arL_length _ _) rfl rfl fw26 hx27 hx27' (by rw [arL_length]; exact hx27'')
  refine hop (v := .slice ao27 (((arL 8 t7.1).take (Int.toNat (8 : Int))).drop (Int.toNat (2 : Int))).length cap27) (w' := w21) ha rfl rfl rfl (hr27 _) fun a ha => ?_
  obtain ⟨hx28, H⟩ := ite_some H
  refine app (r := (rInt .u8)) (xs := ([IntKind.u8.wrap a0, (2 : Int)] : List Int)) (ys := (((arL 8 t7.1).take (Int.toNat (8 : Int))).drop (Int.toNat (2 : Int)))) ha (ElemT.mk' (bytes := 1) (by kernel_rfl)) rfl rfl rfl rfl rfl f25 f27.src hx28 (by decide) fun a w29 ao30 cap30 hO30 hc30 hk30 hl30 ha => ?_
  have f27 := f27.chg (M' := butL g9 w29) hc30 (butL_ok (fun x hx0 e0 => (fun x (hx : x ∈ [g9]) (hy : x ∈ [g22]) => p_i24_i11 x hy hx) x (by rw [e0]; exact List.mem_singleton.2 rfl) hx0)) butL_chg
  have hBg3 := hBg3.chg hc30 ((fun x (hx : x ∈ [g3]) (hy : x ∈ [g22]) => p_i24_i5 x hy hx) g3 (by simp))
  have hBg9 := hBg9.chg hc30 ((fun x (hx : x ∈ [g9]) (hy : x ∈ [g22]) => p_i24_i11 x hy hx) g9 (by simp))
  have p_i30_i11 : ∀ x ∈ blkL ao30, x ∉ ([g9]) := fun x hx hy => (hk30 x hx).elim (fun h => p_i24_i11 x h hy) (fun h => absurd (hM x (mr (ml hy))) (Nat.not_lt.2 h))
  have p_i30_i5 : ∀ x ∈ blkL ao30, x ∉ ([g3]) := fun x hx hy => (hk30 x hx).elim (fun h => p_i24_i5 x h hy) (fun h => absurd (hM x (mr (mr (ml hy)))) (Nat.not_lt.2 h))
  have p_i30_M : ∀ x ∈ blkL ao30, x ∉ M := fun x hx hy => (hk30 x hx).elim (fun h => p_i24_M x h hy) (fun h => absurd (hM x (mr (mr (mr (hy))))) (Nat.not_lt.2 h))
  have e_i30 : ∀ x ∈ blkL ao30, w.heap.size ≤ x := fun x hx => (hk30 x hx).elim (e_i24 x) (Nat.le_trans hC.size)
  have hM : MS (blkL ao30 ++ ([g9] ++ ([g3] ++ (M)))) w29 := (MS.app hl30 (fun x h => hM.chg hc30 x (mr (h))))
  have hC := hC.trans hc30 (fun x h => .inr (e_i24 x h))
  have f30 := hO30.chg (M' := blkL ao30 ++ ([g9] ++ ([g3] ++ (M)))) (Chg.refl [] _) (Ok.nil _ _) (Ok.app (fun _ h => .inl (ml h)) (Ok.to (fun _ h => .inl (mr (h))) (fun _ h => mr h))) (fun _ _ h => nomatch h) (fun _ h => ml h)
  have hML : MS ([g9] ++ ([g3] ++ (M))) w29 := MS.rest hM (fun _ h => (List.mem_append.1 h).elim (fun h => mr (ml h)) (fun h => (List.mem_append.1 h).elim (fun h => mr (mr (ml h))) (fun h => mr (mr (mr (h))))))
  have oL : Ok ([g9] ++ ([g3] ++ (M))) (blkL ao30 ++ ([g9] ++ ([g3] ++ (M)))) w29.heap.size := (fun _ h => .inl (mr (h)))
  obtain ⟨t31, H31, H⟩ := bind_some H
  refine cl ha (by rfl) (by kernel_rfl) (by rfl) (by rfl) (by rfl) (vineryref04_of.walk w29 _ hML (([IntKind.u8.wrap a0, (2 : Int)] : List Int) ++ (((arL 8 t7.1).take (Int.toNat (8 : Int))).drop (Int.toNat (2 : Int)))) ao30 cap30 (Own.toRSl (M' := [g9] ++ ([g3] ++ (M))) f30 oL (fun x hx hm => (List.mem_append.1 hm).elim (fun h => p_i30_i11 x hx h) (fun h => (List.mem_append.1 h).elim (fun h => p_i30_i5 x hx h) (fun h => p_i30_M x hx h)))) k _ H31) ?_
  rintro _ w31 ⟨rfl, hc31, hMn⟩ a ha
  have o1 : Ok [] (blkL ao30 ++ ([g9] ++ ([g3] ++ (M)))) w29.heap.size := Ok.nil _ _
  have o2 : Ok (blkL ao30 ++ ([g9] ++ ([g3] ++ (M)))) (blkL ao30 ++ ([g9] ++ ([g3] ++ (M)))) w29.heap.size := (Ok.refl _ _)
  have f30 := f30.chg hc31 o1 o2 (fun _ _ h => nomatch h) (fun _ h => ml h)
  have hBg3 := hBg3.chg hc31 (fun h => nomatch h)
  have hBg9 := hBg9.chg hc31 (fun h => nomatch h)
  have hM : MS (blkL ao30 ++ ([g9] ++ ([g3] ++ (M)))) w31 := (hM.chg hc31)
  have hC := hC.trans hc31 (Ok.nil _ _)
  refine stA (l := (cA .u8 8 t31)) ha rfl rfl rfl (by kernel_rfl) rfl rfl hBg3 rfl fun a w32 ha hb2 hc33 _ => ?_
  have hBg9 := hBg9.chg hc33 (p_i11_i5 g9 (by simp))
  have hM : MS (blkL ao30 ++ ([g9] ++ ([g3] ++ (M)))) w32 := (hM.chg hc33)
  have hC := hC.trans hc33 (fun x h => .inr (e_i5 x h))
  have hBg3 : Box w32 g3 (cA .u8 8 t31) := hb2
  refine seg ha 1 [(6, .pointer (some ⟨g3, 0, none⟩)), (7, .int .i64 (0 : Int))] (by kernel_rfl) fun a ha => ?_
  refine hK20 _ _ ?_; try clear hK20 K20
  refine wp_ret ?_
  try simp only [Exit.then, Exit.inBlock]
  have hBg3 := hBg3.chg (Chg.refl [] _) (fun h => nomatch h)
  have hBg9 := hBg9.chg (Chg.refl [] _) (fun h => nomatch h)
  have hM : MS (M) w32 := (fun x h => hM.chg (Chg.refl [] _) x (mr (mr (mr (h)))))
  have hC := hC.trans (Chg.refl [] _) (Ok.nil _ _)
  obtain rfl := Option.some.inj H
  refine rtr ha (res2 rfl (roA ha rfl hBg3 (by kernel_rfl)) (roT ha rfl)) ?_
  exact ⟨rfl, hC, hM⟩
def vineryref02_Right.l0 (a0 : S_api_Addr) : Nat → Int → Option ((Bool) ⊕ (Unit))
  | 0, _ => none
  | kk + 1, x15 => (if (decide (x15 < (16 : Int))) = true then (if 0 ≤ x15 ∧ x15 < (16 : Int) then (if ((ar a0.B (Int.toNat x15)) != (0 : Int)) = true then some (.inl ((false : Bool))) else vineryref02_Right.l0 a0 kk (IntKind.i64.wrap (x15 + (1 : Int)))) else none) else some (.inr (() : Unit)))
def vineryref02_Right.f (k : Nat) (a0 : S_api_Addr) : Option (Bool) := ((if (a0.Size != (0 : Int)) = true then (if (a0.Size != (4 : Int)) = true then some (a0.Size != (16 : Int) : Bool) else some (false : Bool)) else some (false : Bool))).bind fun s9 => (if s9 = true then some ((false : Bool)) else (vineryref02_Right.l0 a0 k a0.Size).bind fun s14 => match s14 with | .inl r => some r | .inr s14' => some ((true : Bool)))
set_option maxRecDepth 100000 in
theorem vineryref02_Right.walk (w : World) (M : List Nat) (hM : MS M w) (a0 : S_api_Addr) (k : Nat) (r : Bool) (H : vineryref02_Right.f k a0 = some r) :
    To Tryz.prog 44 [.agg (cS_api_Addr a0).toArray] w fun v w' => v = .bool r ∧ Chg [] w w' ∧ MS (M) w' := by
 unfold vineryref02_Right.f at H
 refine ent Tryz.func44 rfl [(0, .agg (cS_api_Addr a0).toArray)] rfl (by rfl) fun a ha => ?_
 have hC : Chg [] w w := Chg.refl _ _
 refine wp_seq_k fun K1 hK1 => ?_
 refine wp_region_lit ?_
 refine bx (cs := (cS_api_Addr a0)) ha rfl rfl rfl rfl rfl fun a w2 g3 hN4 ha => ?_
 have hn6 := hN4.notin hM
 have hM : MS (M) w2 := (hM.chg hN4.chg)
 have hC := hC.trans hN4.chg (Ok.nil _ _)
 have hE5 : ∀ j v, (cS_api_Addr a0)[j]? = some v → w2.cell? ⟨g3, 0 + j, none⟩ = some v := Box.cells (New.box hN4)
 refine seg ha 1 [(1, .pointer (some ⟨g3, 0, none⟩))] (by kernel_rfl) fun a ha => ?_
 refine hK1 _ _ ?_; try clear hK1 K1
 refine wp_seq_k fun K7 hK7 => ?_
 refine wp_seq_k fun K8 hK8 => ?_
 refine wp_region_lit ?_
 obtain ⟨s9, H9, H⟩ := bind_some H
 have J9 : ∀ (a : Act) (w9 : World), Has a Tryz.f44.ntmps [(1, .pointer (some ⟨g3, 0, none⟩)), (16, .bool s9)] → (∀ j v, (cS_api_Addr a0)[j]? = some v → w9.cell? ⟨g3, 0 + j, none⟩ = some v) → (g3 ∉ (M)) → (Chg [] w w9) → (MS (M) w9) → K8 a w9 := by
  intro a w9 ha hE5 hn6 hC hM
  refine hK8 _ _ ?_; try clear hK8 K8
  refine cnd ha rfl (fun hc10 => ?_) (fun hc10 => ?_)
  ·have H := ite_t hc10 H
   refine wp_seq_k fun K11 hK11 => ?_
   refine wp_region_lit ?_
   refine seg ha 1 [(2, .bool false)] (by kernel_rfl) fun a ha => ?_
   refine hK11 _ _ ?_; try clear hK11 K11
   refine wp_ret ?_
   try simp only [Exit.then, Exit.inBlock]
   obtain rfl := Option.some.inj H
   refine rt1 ha rfl rfl ?_
   exact ⟨rfl, hC, hM⟩
  ·have H := ite_f hc10 H
   refine wp_skip ?_
   refine hK7 _ _ ?_; try clear hK7 K7
   refine wp_seq_k fun K12 hK12 => ?_
   refine wp_seq_k fun K13 hK13 => ?_
   refine wp_region_lit ?_
   refine seg ha 1 [(1, .pointer (some ⟨g3, 0, none⟩)), (17, .pointer (some ⟨g3, 0, none⟩))] (by kernel_rfl) fun a ha => ?_
   refine ld ha rfl (by kernel_rfl) rfl rfl rfl (hE5 0 (.int .i64 a0.Size) (by kernel_rfl)) fun a ha => ?_
   refine seg ha 1 [(1, .pointer (some ⟨g3, 0, none⟩)), (3, .int .i64 a0.Size)] (by kernel_rfl) fun a ha => ?_
   refine hK13 _ _ ?_; try clear hK13 K13
   refine wp_block ?_
   obtain ⟨s14, H14, H⟩ := bind_some H
   have J14 : ∀ s14' (a : Act) (wx14 : World), s14 = .inr s14' → Has a Tryz.f44.ntmps [] → (Chg [] w wx14) → (MS (M) wx14) → K12 a wx14 := by
    intro s14' a wx14 hs ha hC hM
    subst hs
    refine hK12 _ _ ?_; try clear hK12 K12
    refine wp_seq_k fun K16 hK16 => ?_
    refine wp_region_lit ?_
    refine seg ha 1 [(2, .bool true)] (by kernel_rfl) fun a ha => ?_
    refine hK16 _ _ ?_; try clear hK16 K16
    refine wp_ret ?_
    try simp only [Exit.then, Exit.inBlock]
    obtain rfl := Option.some.inj H
    refine rt1 ha rfl rfl ?_
    exact ⟨rfl, hC, hM⟩
   have Hc14 := H
   have H := H14
   refine wp_loop_ghost (fun kk a w14 => ∃ (x15 : Int), vineryref02_Right.l0 a0 kk x15 = some s14 ∧ Has a Tryz.f44.ntmps [(1, .pointer (some ⟨g3, 0, none⟩)), (3, .int .i64 x15)] ∧ (∀ j v, (cS_api_Addr a0)[j]? = some v → w14.cell? ⟨g3, 0 + j, none⟩ = some v) ∧ (g3 ∉ (M)) ∧ (Chg [] w w14) ∧ (MS (M) w14)) k ?_ ?_
   ·skip
    exact ⟨a0.Size, H, (ha.sel (by kernel_rfl)), hE5, hn6, hC, hM⟩
   ·rintro kk a w14 ⟨x15, H, ha, hE5, hn6, hC, hM⟩
    obtain _ | kk := kk
    ·exact nomatch (show none = some _ from H)
    rw [vineryref02_Right.l0] at H
    refine wp_seq_k fun K17 hK17 => ?_
    refine wp_seq_k fun K18 hK18 => ?_
    refine wp_region_lit ?_
    refine seg ha 2 [(1, .pointer (some ⟨g3, 0, none⟩)), (3, .int .i64 x15), (20, .bool (decide (x15 < (16 : Int))))] (by kernel_rfl) fun a ha => ?_
    refine hK18 _ _ ?_; try clear hK18 K18
    refine cnd ha rfl (fun hc19 => ?_) (fun hc19 => ?_)
    ·have H := ite_t hc19 H
     refine wp_skip ?_
     refine hK17 _ _ ?_; try clear hK17 K17
     refine wp_seq_k fun K20 hK20 => ?_
     refine wp_block ?_
     refine wp_seq_k fun K21 hK21 => ?_
     refine wp_region_lit ?_
     refine seg ha 2 [(1, .pointer (some ⟨g3, 0, none⟩)), (3, .int .i64 x15), (23, .int .i64 x15), (24, .pointer (some ⟨g3, 0 + 1, none⟩))] (by kernel_rfl) fun a ha => ?_
     obtain ⟨⟨hx22, hx22'⟩, H⟩ := ite_some H
     have hE22 : ∀ j v, ([.int .u8 (ar a0.B (Int.toNat x15))] : List Value)[j]? = some v → w14.cell? ⟨g3, (0 + 1 + (Int.toNat x15)) + j, none⟩ = some v := cellA (m := 16) [.int .i64 a0.Size] [] hE5 (by kernel_rfl) (by omega)
     have hn22 := hn6
     refine hop (v := .pointer (some ⟨g3, (0 + 1 + (Int.toNat x15)), none⟩)) (w' := w14) ha rfl rfl rfl (ixA_run (T := 5) (N := 16) (g := g3) (o' := 0 + 1) (k := .i64) (i := x15) ha (by kernel_rfl) (by kernel_rfl) (by rfl) (by rfl) hx22 hx22' _) fun a ha => ?_
     refine ld ha rfl (by kernel_rfl) rfl rfl rfl (hE22 0 (.int .u8 (ar a0.B (Int.toNat x15))) (by kernel_rfl)) fun a ha => ?_
     refine seg ha 1 [(1, .pointer (some ⟨g3, 0, none⟩)), (3, .int .i64 x15), (27, .bool ((ar a0.B (Int.toNat x15)) != (0 : Int)))] (by kernel_rfl) fun a ha => ?_
     refine hK21 _ _ ?_; try clear hK21 K21
     refine cnd ha rfl (fun hc23 => ?_) (fun hc23 => ?_)
     ·have H := ite_t hc23 H
      refine wp_seq_k fun K24 hK24 => ?_
      refine wp_region_lit ?_
      refine seg ha 1 [(2, .bool false)] (by kernel_rfl) fun a ha => ?_
      refine hK24 _ _ ?_; try clear hK24 K24
      refine wp_ret ?_
      try simp only [Exit.then, Exit.inBlock]
      obtain rfl := Option.some.inj H
      have H := (show some _ = some _ from Hc14)
      obtain rfl := Option.some.inj H
      refine rt1 ha rfl rfl ?_
      exact ⟨rfl, hC, hM⟩
     ·have H := ite_f hc23 H
      refine wp_skip ?_
      refine hK20 _ _ ?_; try clear hK20 K20
      refine wp_region_lit ?_
      refine seg ha 3 [(1, .pointer (some ⟨g3, 0, none⟩)), (3, .int .i64 (IntKind.i64.wrap (x15 + (1 : Int))))] (by kernel_rfl) fun a ha => ?_
      exact ⟨kk, Nat.lt_succ_self _, ⟨IntKind.i64.wrap (x15 + (1 : Int)), H, (ha.sel (by kernel_rfl)), hE5, hn6, hC, hM⟩⟩
    ·have H := ite_f hc19 H
     refine wp_exit ?_
     simp only [Exit.then, Exit.inBlock, ↓reduceIte, Nat.reduceEqDiff]
     obtain rfl := Option.some.inj H
     exact J14 _ _ _ rfl (ha.sel (by kernel_rfl)) hC hM
 have H := H9
 refine seg ha 1 [(1, .pointer (some ⟨g3, 0, none⟩)), (4, .pointer (some ⟨g3, 0, none⟩))] (by kernel_rfl) fun a ha => ?_
 refine ld ha rfl (by kernel_rfl) rfl rfl rfl (hE5 0 (.int .i64 a0.Size) (by kernel_rfl)) fun a ha => ?_
 refine seg ha 2 [(7, .bool (a0.Size != (0 : Int))), (1, .pointer (some ⟨g3, 0, none⟩))] (by kernel_rfl) fun a ha => ?_
 rcases Bool.eq_false_or_eq_true (a0.Size != (0 : Int)) with hb25 | hb25
 ·have ha := ha.lit hb25
  have H := ite_t hb25 H
  refine sgh ha 1 [2] [(1, .pointer (some ⟨g3, 0, none⟩)), (7, .bool true), (8, .pointer (some ⟨g3, 0, none⟩))] (by kernel_rfl) fun a ha => ?_
  refine ld ha rfl (by kernel_rfl) rfl rfl rfl (hE5 0 (.int .i64 a0.Size) (by kernel_rfl)) fun a ha => ?_
  refine sgh ha 3 [2, 3, 0] [(12, .bool (a0.Size != (4 : Int))), (1, .pointer (some ⟨g3, 0, none⟩))] (by kernel_rfl) fun a ha => ?_
  rcases Bool.eq_false_or_eq_true (a0.Size != (4 : Int)) with hb26 | hb26
  ·have ha := ha.lit hb26
   have H := ite_t hb26 H
   refine sgh ha 1 [2] [(1, .pointer (some ⟨g3, 0, none⟩)), (12, .bool true), (13, .pointer (some ⟨g3, 0, none⟩))] (by kernel_rfl) fun a ha => ?_
   refine ld ha rfl (by kernel_rfl) rfl rfl rfl (hE5 0 (.int .i64 a0.Size) (by kernel_rfl)) fun a ha => ?_
   refine sgh ha 2 [2, 3] [(1, .pointer (some ⟨g3, 0, none⟩)), (16, .bool (a0.Size != (16 : Int)))] (by kernel_rfl) fun a ha => ?_
   obtain rfl := Option.some.inj H
   exact J9 _ _ (ha.sel (by kernel_rfl)) hE5 hn6 hC hM
  ·have ha := ha.lit hb26
   have H := ite_f hb26 H
   refine sgh ha 4 [1, 1, 1, 4] [(1, .pointer (some ⟨g3, 0, none⟩)), (16, .bool false)] (by kernel_rfl) fun a ha => ?_
   obtain rfl := Option.some.inj H
   exact J9 _ _ (ha.sel (by kernel_rfl)) hE5 hn6 hC hM
 ·have ha := ha.lit hb25
  have H := ite_f hb25 H
  refine sgh ha 9 [1, 1, 1, 4, 0, 1, 1, 1, 4] [(1, .pointer (some ⟨g3, 0, none⟩)), (16, .bool false)] (by kernel_rfl) fun a ha => ?_
  obtain rfl := Option.some.inj H
  exact J9 _ _ (ha.sel (by kernel_rfl)) hE5 hn6 hC hM
def vineryref04_Import.f (k : Nat) (a0 : S_api_Addr) (a1 : Int) : Option (List Int × Int) := (vineryref02_Right.f k a0).bind fun t12 => ((if (!t12) = true then some (true : Bool) else some (a0.Size != (4 : Int) : Bool))).bind fun s15 => (if s15 = true then some ((([(0 : Int), (0 : Int), (0 : Int), (0 : Int), (0 : Int), (0 : Int), (0 : Int), (0 : Int)] : List Int) : List Int), ((1 : Int) : Int)) else (if (if (decide (a1 < (0 : Int))) = true then true else (decide (a1 > (65535 : Int)))) = true then some ((([(0 : Int), (0 : Int), (0 : Int), (0 : Int), (0 : Int), (0 : Int), (0 : Int), (0 : Int)] : List Int) : List Int), ((5 : Int) : Int)) else (if 0 ≤ (0 : Int) ∧ (0 : Int) ≤ (4 : Int) ∧ (4 : Int) ≤ (16 : Int) then (if (([(1 : Int), (11 : Int)] : List Int).length + (((arL 16 a0.B).take (Int.toNat (4 : Int))).drop (Int.toNat (0 : Int))).length) * 1 ≤ 140737488355328 then (vineryref01_Bytes.f k a1 (2 : Int)).bind fun t37 => (if ((([(1 : Int), (11 : Int)] : List Int) ++ (((arL 16 a0.B).take (Int.toNat (4 : Int))).drop (Int.toNat (0 : Int)))).length + t37.length) * 1 ≤ 140737488355328 then (vineryref04_of.f k ((([(1 : Int), (11 : Int)] : List Int) ++ (((arL 16 a0.B).take (Int.toNat (4 : Int))).drop (Int.toNat (0 : Int)))) ++ t37)).bind fun t42 => some ((t42 : List Int), ((0 : Int) : Int)) else none) else none) else none)))
set_option maxRecDepth 100000 in
theorem vineryref04_Import.walk (w : World) (M : List Nat) (hM : MS M w) (a0 : S_api_Addr) (a1 : Int) (k : Nat) (r : List Int × Int) (H : vineryref04_Import.f k a0 a1 = some r) :
    To Tryz.prog 13 [.agg (cS_api_Addr a0).toArray, .int .i64 a1] w fun v w' => v = .tuple #[.agg (cA .u8 8 r.1).toArray, .int .i64 r.2] ∧ Chg [] w w' ∧ MS (M) w' := by
 unfold vineryref04_Import.f at H
 refine ent Tryz.func13 rfl [(0, .agg (cS_api_Addr a0).toArray), (1, .int .i64 a1)] rfl (by rfl) fun a ha => ?_
 have hC : Chg [] w w := Chg.refl _ _
 refine wp_seq_k fun K1 hK1 => ?_
 refine wp_region_lit ?_
 refine bx (cs := (cS_api_Addr a0)) ha rfl rfl rfl rfl rfl fun a w2 g3 hN4 ha => ?_
 have hn6 := hN4.notin hM
 have hM : MS (M) w2 := (hM.chg hN4.chg)
 have hC := hC.trans hN4.chg (Ok.nil _ _)
 have hE5 : ∀ j v, (cS_api_Addr a0)[j]? = some v → w2.cell? ⟨g3, 0 + j, none⟩ = some v := Box.cells (New.box hN4)
 refine al (cs := (cA .u8 8 (List.replicate 8 (0 : Int)))) (z := .agg (cA .u8 8 (List.replicate 8 (0 : Int))).toArray) ha (fun w => by kernel_rfl) rfl rfl rfl rfl fun a w7 g8 hN9 ha => ?_
 have o1 : Ok [] (M) w2.heap.size := Ok.nil _ _
 have o2 : Ok ([g8] ++ (M)) (M) w2.heap.size := (Ok.app (hN9.ok _) (Ok.refl _ _))
 have q_hn6 : g3 ∉ [g8] ++ (M) := fun h => (o2 g3 h).elim hn6 (fun h => absurd (lt_cell (hE5 0 _ rfl)) (Nat.not_lt.2 h))
 have hE5 : ∀ j v, (cS_api_Addr a0)[j]? = some v → w7.cell? ⟨g3, 0 + j, none⟩ = some v := fun j v hv => (cell_keep hN9.chg o1 hn6 (hE5 j v hv))
 have hn6 := q_hn6
 have p_i10_M : ∀ x ∈ [g8], x ∉ M := fun x hx hy => absurd (hM x (hy)) (Nat.not_lt.2 ((hN9.ge1) x hx))
 have e_i10 : ∀ x ∈ [g8], w.heap.size ≤ x := fun x hx => Nat.le_trans hC.size ((hN9.ge1) x hx)
 have hM : MS ([g8] ++ (M)) w7 := (MS.app hN9.ms (hM.chg hN9.chg))
 have hC := hC.trans hN9.chg (Ok.nil _ _)
 have hBg8 : Box w7 g8 (cA .u8 8 (List.replicate 8 (0 : Int))) := hN9.box
 refine seg ha 1 [(1, .int .i64 a1), (2, .pointer (some ⟨g3, 0, none⟩)), (4, .pointer (some ⟨g8, 0, none⟩))] (by kernel_rfl) fun a ha => ?_
 refine hK1 _ _ ?_; try clear hK1 K1
 refine wp_seq_k fun K11 hK11 => ?_
 refine wp_region_lit ?_
 refine ldA (cs := (cS_api_Addr a0)) ha rfl (by kernel_rfl) rfl rfl rfl (cells_sub hE5 (all := (cS_api_Addr a0)) [] [] (by kernel_rfl)) fun a ha => ?_
 obtain ⟨t12, H12, H⟩ := bind_some H
 refine cl ha (by rfl) (by kernel_rfl) (by rfl) (by rfl) (by rfl) (vineryref02_Right.walk w7 _ hM a0 k _ H12) ?_
 rintro _ w12 ⟨rfl, hc12, hMn⟩ a ha
 have o1 : Ok [] ([g8] ++ (M)) w7.heap.size := Ok.nil _ _
 have o2 : Ok ([g8] ++ (M)) ([g8] ++ (M)) w7.heap.size := (Ok.refl _ _)
 have hBg8 := hBg8.chg hc12 (fun h => nomatch h)
 have q_hn6 : g3 ∉ [g8] ++ (M) := fun h => (o2 g3 h).elim hn6 (fun h => absurd (lt_cell (hE5 0 _ rfl)) (Nat.not_lt.2 h))
 have hE5 : ∀ j v, (cS_api_Addr a0)[j]? = some v → w12.cell? ⟨g3, 0 + j, none⟩ = some v := fun j v hv => (cell_keep hc12 o1 hn6 (hE5 j v hv))
 have hn6 := q_hn6
 have hM : MS ([g8] ++ (M)) w12 := (hM.chg hc12)
 have hC := hC.trans hc12 (Ok.nil _ _)
 refine seg ha 1 [(1, .int .i64 a1), (2, .pointer (some ⟨g3, 0, none⟩)), (4, .pointer (some ⟨g8, 0, none⟩)), (6, .bool t12)] (by kernel_rfl) fun a ha => ?_
 refine hK11 _ _ ?_; try clear hK11 K11
 refine wp_seq_k fun K13 hK13 => ?_
 refine wp_seq_k fun K14 hK14 => ?_
 refine wp_region_lit ?_
 obtain ⟨s15, H15, H⟩ := bind_some H
 have J15 : ∀ (a : Act) (w15 : World), Has a Tryz.f13.ntmps [(1, .int .i64 a1), (2, .pointer (some ⟨g3, 0, none⟩)), (4, .pointer (some ⟨g8, 0, none⟩)), (15, .bool s15)] → (Box w15 g8 (cA .u8 8 (List.replicate 8 (0 : Int)))) → (∀ j v, (cS_api_Addr a0)[j]? = some v → w15.cell? ⟨g3, 0 + j, none⟩ = some v) → (g3 ∉ ([g8] ++ (M))) → (Chg [] w w15) → (MS ([g8] ++ (M)) w15) → K14 a w15 := by
  intro a w15 ha hBg8 hE5 hn6 hC hM
  refine hK14 _ _ ?_; try clear hK14 K14
  refine cnd ha rfl (fun hc16 => ?_) (fun hc16 => ?_)
  ·have H := ite_t hc16 H
   refine wp_seq_k fun K17 hK17 => ?_
   refine wp_region_lit ?_
   refine opk (v := .agg (cA .u8 8 ([(0 : Int), (0 : Int), (0 : Int), (0 : Int), (0 : Int), (0 : Int), (0 : Int), (0 : Int)] : List Int)).toArray) ha rfl rfl rfl rfl rfl (fun w => by kernel_rfl) fun a ha => ?_
   refine stA (l := (cA .u8 8 ([(0 : Int), (0 : Int), (0 : Int), (0 : Int), (0 : Int), (0 : Int), (0 : Int), (0 : Int)] : List Int))) ha rfl rfl rfl (by kernel_rfl) rfl rfl hBg8 rfl fun a w18 ha hb2 hc19 _ => ?_
   have hM : MS ([g8] ++ (M)) w18 := (hM.chg hc19)
   have hC := hC.trans hc19 (fun x h => .inr (e_i10 x h))
   have hBg8 : Box w18 g8 (cA .u8 8 ([(0 : Int), (0 : Int), (0 : Int), (0 : Int), (0 : Int), (0 : Int), (0 : Int), (0 : Int)] : List Int)) := hb2
   refine seg ha 1 [(4, .pointer (some ⟨g8, 0, none⟩)), (5, .int .i64 (1 : Int))] (by kernel_rfl) fun a ha => ?_
   refine hK17 _ _ ?_; try clear hK17 K17
   refine wp_ret ?_
   try simp only [Exit.then, Exit.inBlock]
   have hBg8 := hBg8.chg (Chg.refl [] _) (fun h => nomatch h)
   have hM : MS (M) w18 := (fun x h => hM.chg (Chg.refl [] _) x (mr (h)))
   have hC := hC.trans (Chg.refl [] _) (Ok.nil _ _)
   obtain rfl := Option.some.inj H
   refine rtr ha (res2 rfl (roA ha rfl hBg8 (by kernel_rfl)) (roT ha rfl)) ?_
   exact ⟨rfl, hC, hM⟩
  ·have H := ite_f hc16 H
   refine wp_skip ?_
   refine hK13 _ _ ?_; try clear hK13 K13
   refine wp_seq_k fun K20 hK20 => ?_
   refine wp_seq_k fun K21 hK21 => ?_
   refine wp_region_lit ?_
   refine seg ha 6 [(1, .int .i64 a1), (2, .pointer (some ⟨g3, 0, none⟩)), (4, .pointer (some ⟨g8, 0, none⟩)), (22, .bool (if (decide (a1 < (0 : Int))) = true then true else (decide (a1 > (65535 : Int)))))] (by kernel_rfl) fun a ha => ?_
   refine hK21 _ _ ?_; try clear hK21 K21
   refine cnd ha rfl (fun hc22 => ?_) (fun hc22 => ?_)
   ·have H := ite_t hc22 H
    refine wp_seq_k fun K23 hK23 => ?_
    refine wp_region_lit ?_
    refine opk (v := .agg (cA .u8 8 ([(0 : Int), (0 : Int), (0 : Int), (0 : Int), (0 : Int), (0 : Int), (0 : Int), (0 : Int)] : List Int)).toArray) ha rfl rfl rfl rfl rfl (fun w => by kernel_rfl) fun a ha => ?_
    refine stA (l := (cA .u8 8 ([(0 : Int), (0 : Int), (0 : Int), (0 : Int), (0 : Int), (0 : Int), (0 : Int), (0 : Int)] : List Int))) ha rfl rfl rfl (by kernel_rfl) rfl rfl hBg8 rfl fun a w24 ha hb2 hc25 _ => ?_
    have hM : MS ([g8] ++ (M)) w24 := (hM.chg hc25)
    have hC := hC.trans hc25 (fun x h => .inr (e_i10 x h))
    have hBg8 : Box w24 g8 (cA .u8 8 ([(0 : Int), (0 : Int), (0 : Int), (0 : Int), (0 : Int), (0 : Int), (0 : Int), (0 : Int)] : List Int)) := hb2
    refine seg ha 1 [(4, .pointer (some ⟨g8, 0, none⟩)), (5, .int .i64 (5 : Int))] (by kernel_rfl) fun a ha => ?_
    refine hK23 _ _ ?_; try clear hK23 K23
    refine wp_ret ?_
    try simp only [Exit.then, Exit.inBlock]
    have hBg8 := hBg8.chg (Chg.refl [] _) (fun h => nomatch h)
    have hM : MS (M) w24 := (fun x h => hM.chg (Chg.refl [] _) x (mr (h)))
    have hC := hC.trans (Chg.refl [] _) (Ok.nil _ _)
    obtain rfl := Option.some.inj H
    refine rtr ha (res2 rfl (roA ha rfl hBg8 (by kernel_rfl)) (roT ha rfl)) ?_
    exact ⟨rfl, hC, hM⟩
   ·have H := ite_f hc22 H
    refine wp_skip ?_
    refine hK20 _ _ ?_; try clear hK20 K20
    refine wp_seq_k fun K26 hK26 => ?_
    refine wp_region_lit ?_
    refine bsl (vals := ([.int .u8 (1 : Int), .int .u8 (11 : Int)] : List Value)) (T := 5) ha rfl (([.int .u8 (1 : Int)] : List Value) ++ (([.int .u8 (11 : Int)] : List Value) ++ ([] : List Value))) (fun w => by kernel_rfl) rfl rfl rfl fun a w27 g28 hN29 ha => ?_
    have o1 : Ok [] ([g8] ++ (M)) w15.heap.size := Ok.nil _ _
    have o2 : Ok ([g28] ++ ([g8] ++ (M))) ([g8] ++ (M)) w15.heap.size := (Ok.app (hN29.ok _) (Ok.refl _ _))
    have hBg8 := hBg8.chg hN29.chg (fun h => nomatch h)
    have q_hn6 : g3 ∉ [g28] ++ ([g8] ++ (M)) := fun h => (o2 g3 h).elim hn6 (fun h => absurd (lt_cell (hE5 0 _ rfl)) (Nat.not_lt.2 h))
    have hE5 : ∀ j v, (cS_api_Addr a0)[j]? = some v → w27.cell? ⟨g3, 0 + j, none⟩ = some v := fun j v hv => (cell_keep hN29.chg o1 hn6 (hE5 j v hv))
    have hn6 := q_hn6
    have p_i30_i10 : ∀ x ∈ [g28], x ∉ ([g8]) := fun x hx hy => absurd (hM x (ml hy)) (Nat.not_lt.2 ((hN29.ge1) x hx))
    have p_i30_M : ∀ x ∈ [g28], x ∉ M := fun x hx hy => absurd (hM x (mr (hy))) (Nat.not_lt.2 ((hN29.ge1) x hx))
    have e_i30 : ∀ x ∈ [g28], w.heap.size ≤ x := fun x hx => Nat.le_trans hC.size ((hN29.ge1) x hx)
    have hM : MS ([g28] ++ ([g8] ++ (M))) w27 := (MS.app hN29.ms (hM.chg hN29.chg))
    have hC := hC.trans hN29.chg (Ok.nil _ _)
    have f31 : Own (rInt .u8) 5 w27 ([g28] ++ ([g8] ++ (M))) (some ⟨g28, 0, none⟩) 2 ([(1 : Int), (11 : Int)] : List Int) := hN29.own ⟨([.int .u8 (1 : Int)] : List Value), _, rfl, rfl, ⟨([.int .u8 (11 : Int)] : List Value), _, rfl, rfl, rfl⟩⟩ (Nat.le_of_ble_eq_true rfl)
    refine seg ha 1 [(1, .int .i64 a1), (4, .pointer (some ⟨g8, 0, none⟩)), (24, .slice (some ⟨g28, 0, none⟩) ([(1 : Int), (11 : Int)] : List Int).length 2), (25, .pointer (some ⟨g3, 0 + 1, none⟩))] (by kernel_rfl) fun a ha => ?_
    have f32 : RSl (rInt .u8) 5 w27 ([g28] ++ ([g8] ++ (M))) (some ⟨g3, 0 + 1, none⟩) 16 (arL 16 a0.B) := RSl.ofA [.int .i64 a0.Size] [] hE5 hn6 (by kernel_rfl) rfl
    obtain ⟨⟨hx33, hx33', hx33''⟩, H⟩ := ite_some H
    obtain ⟨ao33, cap33, f33, hr33⟩ := slA_run (kk := .u8) (T := 5) (N := 16) (g := g3) (o' := 0 + 1) (xs := (arL 16 a0.B)) (t := 22) (lo := Option.none) (hi := (Option.some (Operand.const (Value.int IntKind.i64 4)))) (l := (0 : Int)) (h := (4 : Int)) (dd := some 26) (ty := 36) (pos := "ref.go:38") (af := #[{ on := 1, ground := Ground.data }]) (gd := Option.none) ha (by kernel_rfl) (by kernel_rfl) (x := (Operand.tmp 25)) rfl (arL_length _ _) rfl rfl f32 hx33 hx33' (by rw [arL_length]; exact hx33'')
    refine hop (v := .slice ao33 (((arL 16 a0.B).take (Int.toNat (4 : Int))).drop (Int.toNat (0 : Int))).length cap33) (w' := w27) ha rfl rfl rfl (hr33 _) fun a ha => ?_
    obtain ⟨hx34, H⟩ := ite_some H
    refine app (r := (rInt .u8)) (xs := ([(1 : Int), (11 : Int)] : List Int)) (ys := (((arL 16 a0.B).take (Int.toNat (4 : Int))).drop (Int.toNat (0 : Int)))) ha (ElemT.mk' (bytes := 1) (by kernel_rfl)) rfl rfl rfl rfl rfl f31 f33.src hx34 (by decide) fun a w35 ao36 cap36 hO36 hc36 hk36 hl36 ha => ?_
    have o1 : Ok [g28] ([g28] ++ ([g8] ++ (M))) w27.heap.size := (fun _ h => .inl (ml h))
    have o2 : Ok (blkL ao36 ++ ([g8] ++ (M))) ([g28] ++ ([g8] ++ (M))) w27.heap.size := (Ok.app (Ok.to hk36 (fun _ h => ml h)) (fun _ h => .inl (mr (h))))
    have f33 := f33.chg hc36 o1 o2
    have hBg8 := hBg8.chg hc36 ((fun x (hx : x ∈ [g8]) (hy : x ∈ [g28]) => p_i30_i10 x hy hx) g8 (by simp))
    have p_i36_i10 : ∀ x ∈ blkL ao36, x ∉ ([g8]) := fun x hx hy => (hk36 x hx).elim (fun h => p_i30_i10 x h hy) (fun h => absurd (hM x (mr (ml hy))) (Nat.not_lt.2 h))
    have p_i36_M : ∀ x ∈ blkL ao36, x ∉ M := fun x hx hy => (hk36 x hx).elim (fun h => p_i30_M x h hy) (fun h => absurd (hM x (mr (mr (hy)))) (Nat.not_lt.2 h))
    have e_i36 : ∀ x ∈ blkL ao36, w.heap.size ≤ x := fun x hx => (hk36 x hx).elim (e_i30 x) (Nat.le_trans hC.size)
    have hM : MS (blkL ao36 ++ ([g8] ++ (M))) w35 := (MS.app hl36 (fun x h => hM.chg hc36 x (mr (h))))
    have hC := hC.trans hc36 (fun x h => .inr (e_i30 x h))
    have f36 := hO36.chg (M' := blkL ao36 ++ ([g8] ++ (M))) (Chg.refl [] _) (Ok.nil _ _) (Ok.app (fun _ h => .inl (ml h)) (Ok.to (fun _ h => .inl (mr (h))) (fun _ h => mr h))) (fun _ _ h => nomatch h) (fun _ h => ml h)
    refine seg ha 1 [(4, .pointer (some ⟨g8, 0, none⟩)), (27, .slice ao36 (([(1 : Int), (11 : Int)] : List Int) ++ (((arL 16 a0.B).take (Int.toNat (4 : Int))).drop (Int.toNat (0 : Int)))).length cap36), (28, .int .i64 a1)] (by kernel_rfl) fun a ha => ?_
    obtain ⟨t37, H37, H⟩ := bind_some H
    refine cl ha (by rfl) (by kernel_rfl) (by rfl) (by rfl) (by rfl) (vineryref01_Bytes.walk w35 _ hM a1 (2 : Int) k _ H37) ?_
    rintro _ w37 ⟨ao38, cap38, rfl, f38, ne_i38, hc37, hMn⟩ a ha
    have o1 : Ok [] (blkL ao36 ++ ([g8] ++ (M))) w35.heap.size := Ok.nil _ _
    have o2 : Ok (blkL ao38 ++ (blkL ao36 ++ ([g8] ++ (M)))) (blkL ao36 ++ ([g8] ++ (M))) w35.heap.size := (Ok.app (fun x h => .inr (ne_i38 x h)) (Ok.refl _ _))
    have f36 := f36.chg hc37 o1 o2 (fun _ _ h => nomatch h) (fun _ h => mr (ml h))
    have hBg8 := hBg8.chg hc37 (fun h => nomatch h)
    have p_i38_i36 : ∀ x ∈ blkL ao38, x ∉ (blkL ao36) := fun x hx hy => absurd (hM x (ml hy)) (Nat.not_lt.2 (ne_i38 x hx))
    have p_i38_i10 : ∀ x ∈ blkL ao38, x ∉ ([g8]) := fun x hx hy => absurd (hM x (mr (ml hy))) (Nat.not_lt.2 (ne_i38 x hx))
    have p_i38_M : ∀ x ∈ blkL ao38, x ∉ M := fun x hx hy => absurd (hM x (mr (mr (hy)))) (Nat.not_lt.2 (ne_i38 x hx))
    have e_i38 : ∀ x ∈ blkL ao38, w.heap.size ≤ x := fun x hx => Nat.le_trans hC.size (ne_i38 x hx)
    have hM : MS (blkL ao38 ++ (blkL ao36 ++ ([g8] ++ (M)))) w37 := (MS.app (fun x h => hMn x (ml h)) (hM.chg hc37))
    have hC := hC.trans hc37 (Ok.nil _ _)
    obtain ⟨hx39, H⟩ := ite_some H
    refine app (r := (rInt .u8)) (xs := (([(1 : Int), (11 : Int)] : List Int) ++ (((arL 16 a0.B).take (Int.toNat (4 : Int))).drop (Int.toNat (0 : Int))))) (ys := t37) ha (ElemT.mk' (bytes := 1) (by kernel_rfl)) rfl rfl rfl rfl rfl f36 f38.src hx39 (by decide) fun a w40 ao41 cap41 hO41 hc41 hk41 hl41 ha => ?_
    have o1 : Ok (blkL ao36) (blkL ao38 ++ (blkL ao36 ++ ([g8] ++ (M)))) w37.heap.size := (fun _ h => .inl (mr (ml h)))
    have o2 : Ok (blkL ao41 ++ (blkL ao38 ++ ([g8] ++ (M)))) (blkL ao38 ++ (blkL ao36 ++ ([g8] ++ (M)))) w37.heap.size := (Ok.app (Ok.to hk41 (fun _ h => mr (ml h))) (Ok.app (fun _ h => .inl (ml h)) (fun _ h => .inl (mr (mr (h))))))
    have f38 := f38.chg hc41 o1 o2 p_i38_i36 (fun _ h => mr (ml h))
    have hBg8 := hBg8.chg hc41 ((fun x (hx : x ∈ [g8]) (hy : x ∈ blkL ao36) => p_i36_i10 x hy hx) g8 (by simp))
    have p_i41_i38 : ∀ x ∈ blkL ao41, x ∉ (blkL ao38) := fun x hx hy => (hk41 x hx).elim (fun h => (fun x hx hy => p_i38_i36 x hy hx) x h hy) (fun h => absurd (hM x (ml hy)) (Nat.not_lt.2 h))
    have p_i41_i10 : ∀ x ∈ blkL ao41, x ∉ ([g8]) := fun x hx hy => (hk41 x hx).elim (fun h => p_i36_i10 x h hy) (fun h => absurd (hM x (mr (mr (ml hy)))) (Nat.not_lt.2 h))
    have p_i41_M : ∀ x ∈ blkL ao41, x ∉ M := fun x hx hy => (hk41 x hx).elim (fun h => p_i36_M x h hy) (fun h => absurd (hM x (mr (mr (mr (hy))))) (Nat.not_lt.2 h))
    have e_i41 : ∀ x ∈ blkL ao41, w.heap.size ≤ x := fun x hx => (hk41 x hx).elim (e_i36 x) (Nat.le_trans hC.size)
    have hM : MS (blkL ao41 ++ (blkL ao38 ++ ([g8] ++ (M)))) w40 := (MS.app hl41 (MS.app (fun x h => hM.chg hc41 x (ml h)) (fun x h => hM.chg hc41 x (mr (mr (h))))))
    have hC := hC.trans hc41 (fun x h => .inr (e_i36 x h))
    have f41 := hO41.chg (M' := blkL ao41 ++ (blkL ao38 ++ ([g8] ++ (M)))) (Chg.refl [] _) (Ok.nil _ _) (Ok.app (fun _ h => .inl (ml h)) (Ok.to (Ok.app (fun _ h => .inl (ml h)) (fun _ h => .inl (mr (mr (h))))) (fun _ h => mr h))) (fun _ _ h => nomatch h) (fun _ h => ml h)
    have hML : MS (blkL ao38 ++ ([g8] ++ (M))) w40 := MS.rest hM (fun _ h => (List.mem_append.1 h).elim (fun h => mr (ml h)) (fun h => (List.mem_append.1 h).elim (fun h => mr (mr (ml h))) (fun h => mr (mr (mr (h))))))
    have oL : Ok (blkL ao38 ++ ([g8] ++ (M))) (blkL ao41 ++ (blkL ao38 ++ ([g8] ++ (M)))) w40.heap.size := (fun _ h => .inl (mr (h)))
    obtain ⟨t42, H42, H⟩ := bind_some H
    refine cl ha (by rfl) (by kernel_rfl) (by rfl) (by rfl) (by rfl) (vineryref04_of.walk w40 _ hML ((([(1 : Int), (11 : Int)] : List Int) ++ (((arL 16 a0.B).take (Int.toNat (4 : Int))).drop (Int.toNat (0 : Int)))) ++ t37) ao41 cap41 (Own.toRSl (M' := blkL ao38 ++ ([g8] ++ (M))) f41 oL (fun x hx hm => (List.mem_append.1 hm).elim (fun h => p_i41_i38 x hx h) (fun h => (List.mem_append.1 h).elim (fun h => p_i41_i10 x hx h) (fun h => p_i41_M x hx h)))) k _ H42) ?_
    rintro _ w42 ⟨rfl, hc42, hMn⟩ a ha
    have o1 : Ok [] (blkL ao41 ++ (blkL ao38 ++ ([g8] ++ (M)))) w40.heap.size := Ok.nil _ _
    have o2 : Ok (blkL ao41 ++ (blkL ao38 ++ ([g8] ++ (M)))) (blkL ao41 ++ (blkL ao38 ++ ([g8] ++ (M)))) w40.heap.size := (Ok.refl _ _)
    have f41 := f41.chg hc42 o1 o2 (fun _ _ h => nomatch h) (fun _ h => ml h)
    have hBg8 := hBg8.chg hc42 (fun h => nomatch h)
    have hM : MS (blkL ao41 ++ (blkL ao38 ++ ([g8] ++ (M)))) w42 := (hM.chg hc42)
    have hC := hC.trans hc42 (Ok.nil _ _)
    refine stA (l := (cA .u8 8 t42)) ha rfl rfl rfl (by kernel_rfl) rfl rfl hBg8 rfl fun a w43 ha hb2 hc44 _ => ?_
    have hM : MS (blkL ao41 ++ (blkL ao38 ++ ([g8] ++ (M)))) w43 := (hM.chg hc44)
    have hC := hC.trans hc44 (fun x h => .inr (e_i10 x h))
    have hBg8 : Box w43 g8 (cA .u8 8 t42) := hb2
    refine seg ha 1 [(4, .pointer (some ⟨g8, 0, none⟩)), (5, .int .i64 (0 : Int))] (by kernel_rfl) fun a ha => ?_
    refine hK26 _ _ ?_; try clear hK26 K26
    refine wp_ret ?_
    try simp only [Exit.then, Exit.inBlock]
    have hBg8 := hBg8.chg (Chg.refl [] _) (fun h => nomatch h)
    have hM : MS (M) w43 := (fun x h => hM.chg (Chg.refl [] _) x (mr (mr (mr (h)))))
    have hC := hC.trans (Chg.refl [] _) (Ok.nil _ _)
    obtain rfl := Option.some.inj H
    refine rtr ha (res2 rfl (roA ha rfl hBg8 (by kernel_rfl)) (roT ha rfl)) ?_
    exact ⟨rfl, hC, hM⟩
 have H := H15
 refine seg ha 3 [(11, .bool (!t12)), (1, .int .i64 a1), (2, .pointer (some ⟨g3, 0, none⟩)), (4, .pointer (some ⟨g8, 0, none⟩))] (by kernel_rfl) fun a ha => ?_
 rcases Bool.eq_false_or_eq_true (!t12) with hb45 | hb45
 ·have ha := ha.lit hb45
  have H := ite_t hb45 H
  refine sgh ha 4 [1, 1, 1, 3] [(1, .int .i64 a1), (2, .pointer (some ⟨g3, 0, none⟩)), (4, .pointer (some ⟨g8, 0, none⟩)), (15, .bool true)] (by kernel_rfl) fun a ha => ?_
  obtain rfl := Option.some.inj H
  exact J15 _ _ (ha.sel (by kernel_rfl)) hBg8 hE5 hn6 hC hM
 ·have ha := ha.lit hb45
  have H := ite_f hb45 H
  refine sgh ha 1 [2] [(1, .int .i64 a1), (2, .pointer (some ⟨g3, 0, none⟩)), (4, .pointer (some ⟨g8, 0, none⟩)), (11, .bool false), (12, .pointer (some ⟨g3, 0, none⟩))] (by kernel_rfl) fun a ha => ?_
  refine ld ha rfl (by kernel_rfl) rfl rfl rfl (hE5 0 (.int .i64 a0.Size) (by kernel_rfl)) fun a ha => ?_
  refine sgh ha 2 [2, 4] [(1, .int .i64 a1), (2, .pointer (some ⟨g3, 0, none⟩)), (4, .pointer (some ⟨g8, 0, none⟩)), (15, .bool (a0.Size != (4 : Int)))] (by kernel_rfl) fun a ha => ?_
  obtain rfl := Option.some.inj H
  exact J15 _ _ (ha.sel (by kernel_rfl)) hBg8 hE5 hn6 hC hM
def vineryref04_Source.f (k : Nat) (a0 : Int) : Option (List Int × Int) := (if (if (decide (a0 < (0 : Int))) = true then true else (decide (a0 > (4294967295 : Int)))) = true then some ((([(0 : Int), (0 : Int), (0 : Int), (0 : Int), (0 : Int), (0 : Int), (0 : Int), (0 : Int)] : List Int) : List Int), ((5 : Int) : Int)) else (vineryref01_Bytes.f k a0 (4 : Int)).bind fun t18 => (if (([(2 : Int), (9 : Int)] : List Int).length + t18.length) * 1 ≤ 140737488355328 then (if ((([(2 : Int), (9 : Int)] : List Int) ++ t18).length + ([(0 : Int), (0 : Int)] : List Int).length) * 1 ≤ 140737488355328 then (vineryref04_of.f k ((([(2 : Int), (9 : Int)] : List Int) ++ t18) ++ ([(0 : Int), (0 : Int)] : List Int))).bind fun t31 => some ((t31 : List Int), ((0 : Int) : Int)) else none) else none))
set_option maxRecDepth 100000 in
theorem vineryref04_Source.walk (w : World) (M : List Nat) (hM : MS M w) (a0 : Int) (k : Nat) (r : List Int × Int) (H : vineryref04_Source.f k a0 = some r) :
    To Tryz.prog 14 [.int .i64 a0] w fun v w' => v = .tuple #[.agg (cA .u8 8 r.1).toArray, .int .i64 r.2] ∧ Chg [] w w' ∧ MS (M) w' := by
 unfold vineryref04_Source.f at H
 refine ent Tryz.func14 rfl [(0, .int .i64 a0)] rfl (by rfl) fun a ha => ?_
 have hC : Chg [] w w := Chg.refl _ _
 refine wp_seq_k fun K1 hK1 => ?_
 refine wp_region_lit ?_
 refine al (cs := (cA .u8 8 (List.replicate 8 (0 : Int)))) (z := .agg (cA .u8 8 (List.replicate 8 (0 : Int))).toArray) ha (fun w => by kernel_rfl) rfl rfl rfl rfl fun a w2 g3 hN4 ha => ?_
 have p_i5_M : ∀ x ∈ [g3], x ∉ M := fun x hx hy => absurd (hM x (hy)) (Nat.not_lt.2 ((hN4.ge1) x hx))
 have e_i5 : ∀ x ∈ [g3], w.heap.size ≤ x := fun x hx => Nat.le_trans hC.size ((hN4.ge1) x hx)
 have hM : MS ([g3] ++ (M)) w2 := (MS.app hN4.ms (hM.chg hN4.chg))
 have hC := hC.trans hN4.chg (Ok.nil _ _)
 have hBg3 : Box w2 g3 (cA .u8 8 (List.replicate 8 (0 : Int))) := hN4.box
 refine seg ha 1 [(0, .int .i64 a0), (2, .pointer (some ⟨g3, 0, none⟩))] (by kernel_rfl) fun a ha => ?_
 refine hK1 _ _ ?_; try clear hK1 K1
 refine wp_seq_k fun K6 hK6 => ?_
 refine wp_seq_k fun K7 hK7 => ?_
 refine wp_region_lit ?_
 refine seg ha 6 [(0, .int .i64 a0), (2, .pointer (some ⟨g3, 0, none⟩)), (9, .bool (if (decide (a0 < (0 : Int))) = true then true else (decide (a0 > (4294967295 : Int)))))] (by kernel_rfl) fun a ha => ?_
 refine hK7 _ _ ?_; try clear hK7 K7
 refine cnd ha rfl (fun hc8 => ?_) (fun hc8 => ?_)
 ·have H := ite_t hc8 H
  refine wp_seq_k fun K9 hK9 => ?_
  refine wp_region_lit ?_
  refine opk (v := .agg (cA .u8 8 ([(0 : Int), (0 : Int), (0 : Int), (0 : Int), (0 : Int), (0 : Int), (0 : Int), (0 : Int)] : List Int)).toArray) ha rfl rfl rfl rfl rfl (fun w => by kernel_rfl) fun a ha => ?_
  refine stA (l := (cA .u8 8 ([(0 : Int), (0 : Int), (0 : Int), (0 : Int), (0 : Int), (0 : Int), (0 : Int), (0 : Int)] : List Int))) ha rfl rfl rfl (by kernel_rfl) rfl rfl hBg3 rfl fun a w10 ha hb2 hc11 _ => ?_
  have hM : MS ([g3] ++ (M)) w10 := (hM.chg hc11)
  have hC := hC.trans hc11 (fun x h => .inr (e_i5 x h))
  have hBg3 : Box w10 g3 (cA .u8 8 ([(0 : Int), (0 : Int), (0 : Int), (0 : Int), (0 : Int), (0 : Int), (0 : Int), (0 : Int)] : List Int)) := hb2
  refine seg ha 1 [(2, .pointer (some ⟨g3, 0, none⟩)), (3, .int .i64 (5 : Int))] (by kernel_rfl) fun a ha => ?_
  refine hK9 _ _ ?_; try clear hK9 K9
  refine wp_ret ?_
  try simp only [Exit.then, Exit.inBlock]
  have hBg3 := hBg3.chg (Chg.refl [] _) (fun h => nomatch h)
  have hM : MS (M) w10 := (fun x h => hM.chg (Chg.refl [] _) x (mr (h)))
  have hC := hC.trans (Chg.refl [] _) (Ok.nil _ _)
  obtain rfl := Option.some.inj H
  refine rtr ha (res2 rfl (roA ha rfl hBg3 (by kernel_rfl)) (roT ha rfl)) ?_
  exact ⟨rfl, hC, hM⟩
 ·have H := ite_f hc8 H
  refine wp_skip ?_
  refine hK6 _ _ ?_; try clear hK6 K6
  refine wp_seq_k fun K12 hK12 => ?_
  refine wp_region_lit ?_
  refine bsl (vals := ([.int .u8 (2 : Int), .int .u8 (9 : Int)] : List Value)) (T := 5) ha rfl (([.int .u8 (2 : Int)] : List Value) ++ (([.int .u8 (9 : Int)] : List Value) ++ ([] : List Value))) (fun w => by kernel_rfl) rfl rfl rfl fun a w13 g14 hN15 ha => ?_
  have hBg3 := hBg3.chg hN15.chg (fun h => nomatch h)
  have p_i16_i5 : ∀ x ∈ [g14], x ∉ ([g3]) := fun x hx hy => absurd (hM x (ml hy)) (Nat.not_lt.2 ((hN15.ge1) x hx))
  have p_i16_M : ∀ x ∈ [g14], x ∉ M := fun x hx hy => absurd (hM x (mr (hy))) (Nat.not_lt.2 ((hN15.ge1) x hx))
  have e_i16 : ∀ x ∈ [g14], w.heap.size ≤ x := fun x hx => Nat.le_trans hC.size ((hN15.ge1) x hx)
  have hM : MS ([g14] ++ ([g3] ++ (M))) w13 := (MS.app hN15.ms (hM.chg hN15.chg))
  have hC := hC.trans hN15.chg (Ok.nil _ _)
  have f17 : Own (rInt .u8) 5 w13 ([g14] ++ ([g3] ++ (M))) (some ⟨g14, 0, none⟩) 2 ([(2 : Int), (9 : Int)] : List Int) := hN15.own ⟨([.int .u8 (2 : Int)] : List Value), _, rfl, rfl, ⟨([.int .u8 (9 : Int)] : List Value), _, rfl, rfl, rfl⟩⟩ (Nat.le_of_ble_eq_true rfl)
  refine seg ha 1 [(2, .pointer (some ⟨g3, 0, none⟩)), (11, .slice (some ⟨g14, 0, none⟩) ([(2 : Int), (9 : Int)] : List Int).length 2), (12, .int .i64 a0)] (by kernel_rfl) fun a ha => ?_
  obtain ⟨t18, H18, H⟩ := bind_some H
  refine cl ha (by rfl) (by kernel_rfl) (by rfl) (by rfl) (by rfl) (vineryref01_Bytes.walk w13 _ hM a0 (4 : Int) k _ H18) ?_
  rintro _ w18 ⟨ao19, cap19, rfl, f19, ne_i19, hc18, hMn⟩ a ha
  have o1 : Ok [] ([g14] ++ ([g3] ++ (M))) w13.heap.size := Ok.nil _ _
  have o2 : Ok (blkL ao19 ++ ([g14] ++ ([g3] ++ (M)))) ([g14] ++ ([g3] ++ (M))) w13.heap.size := (Ok.app (fun x h => .inr (ne_i19 x h)) (Ok.refl _ _))
  have f17 := f17.chg hc18 o1 o2 (fun _ _ h => nomatch h) (fun _ h => mr (ml h))
  have hBg3 := hBg3.chg hc18 (fun h => nomatch h)
  have p_i19_i16 : ∀ x ∈ blkL ao19, x ∉ ([g14]) := fun x hx hy => absurd (hM x (ml hy)) (Nat.not_lt.2 (ne_i19 x hx))
  have p_i19_i5 : ∀ x ∈ blkL ao19, x ∉ ([g3]) := fun x hx hy => absurd (hM x (mr (ml hy))) (Nat.not_lt.2 (ne_i19 x hx))
  have p_i19_M : ∀ x ∈ blkL ao19, x ∉ M := fun x hx hy => absurd (hM x (mr (mr (hy)))) (Nat.not_lt.2 (ne_i19 x hx))
  have e_i19 : ∀ x ∈ blkL ao19, w.heap.size ≤ x := fun x hx => Nat.le_trans hC.size (ne_i19 x hx)
  have hM : MS (blkL ao19 ++ ([g14] ++ ([g3] ++ (M)))) w18 := (MS.app (fun x h => hMn x (ml h)) (hM.chg hc18))
  have hC := hC.trans hc18 (Ok.nil _ _)
  obtain ⟨hx20, H⟩ := ite_some H
  refine app (r := (rInt .u8)) (xs := ([(2 : Int), (9 : Int)] : List Int)) (ys := t18) ha (ElemT.mk' (bytes := 1) (by kernel_rfl)) rfl rfl rfl rfl rfl f17 f19.src hx20 (by decide) fun a w21 ao22 cap22 hO22 hc22 hk22 hl22 ha => ?_
  have o1 : Ok [g14] (blkL ao19 ++ ([g14] ++ ([g3] ++ (M)))) w18.heap.size := (fun _ h => .inl (mr (ml h)))
  have o2 : Ok (blkL ao22 ++ (blkL ao19 ++ ([g3] ++ (M)))) (blkL ao19 ++ ([g14] ++ ([g3] ++ (M)))) w18.heap.size := (Ok.app (Ok.to hk22 (fun _ h => mr (ml h))) (Ok.app (fun _ h => .inl (ml h)) (fun _ h => .inl (mr (mr (h))))))
  have f19 := f19.chg hc22 o1 o2 p_i19_i16 (fun _ h => mr (ml h))
  have hBg3 := hBg3.chg hc22 ((fun x (hx : x ∈ [g3]) (hy : x ∈ [g14]) => p_i16_i5 x hy hx) g3 (by simp))
  have p_i22_i19 : ∀ x ∈ blkL ao22, x ∉ (blkL ao19) := fun x hx hy => (hk22 x hx).elim (fun h => (fun x hx hy => p_i19_i16 x hy hx) x h hy) (fun h => absurd (hM x (ml hy)) (Nat.not_lt.2 h))
  have p_i22_i5 : ∀ x ∈ blkL ao22, x ∉ ([g3]) := fun x hx hy => (hk22 x hx).elim (fun h => p_i16_i5 x h hy) (fun h => absurd (hM x (mr (mr (ml hy)))) (Nat.not_lt.2 h))
  have p_i22_M : ∀ x ∈ blkL ao22, x ∉ M := fun x hx hy => (hk22 x hx).elim (fun h => p_i16_M x h hy) (fun h => absurd (hM x (mr (mr (mr (hy))))) (Nat.not_lt.2 h))
  have e_i22 : ∀ x ∈ blkL ao22, w.heap.size ≤ x := fun x hx => (hk22 x hx).elim (e_i16 x) (Nat.le_trans hC.size)
  have hM : MS (blkL ao22 ++ (blkL ao19 ++ ([g3] ++ (M)))) w21 := (MS.app hl22 (MS.app (fun x h => hM.chg hc22 x (ml h)) (fun x h => hM.chg hc22 x (mr (mr (h))))))
  have hC := hC.trans hc22 (fun x h => .inr (e_i16 x h))
  have f22 := hO22.chg (M' := blkL ao22 ++ (blkL ao19 ++ ([g3] ++ (M)))) (Chg.refl [] _) (Ok.nil _ _) (Ok.app (fun _ h => .inl (ml h)) (Ok.to (Ok.app (fun _ h => .inl (ml h)) (fun _ h => .inl (mr (mr (h))))) (fun _ h => mr h))) (fun _ _ h => nomatch h) (fun _ h => ml h)
  refine bsl (vals := ([.int .u8 (0 : Int), .int .u8 (0 : Int)] : List Value)) (T := 5) ha rfl (([.int .u8 (0 : Int)] : List Value) ++ (([.int .u8 (0 : Int)] : List Value) ++ ([] : List Value))) (fun w => by kernel_rfl) rfl rfl rfl fun a w23 g24 hN25 ha => ?_
  have o1 : Ok [] (blkL ao22 ++ (blkL ao19 ++ ([g3] ++ (M)))) w21.heap.size := Ok.nil _ _
  have o2 : Ok ([g24] ++ (blkL ao22 ++ (blkL ao19 ++ ([g3] ++ (M))))) (blkL ao22 ++ (blkL ao19 ++ ([g3] ++ (M)))) w21.heap.size := (Ok.app (hN25.ok _) (Ok.refl _ _))
  have f22 := f22.chg hN25.chg o1 o2 (fun _ _ h => nomatch h) (fun _ h => mr (ml h))
  have hBg3 := hBg3.chg hN25.chg (fun h => nomatch h)
  have p_i26_i22 : ∀ x ∈ [g24], x ∉ (blkL ao22) := fun x hx hy => absurd (hM x (ml hy)) (Nat.not_lt.2 ((hN25.ge1) x hx))
  have p_i26_i19 : ∀ x ∈ [g24], x ∉ (blkL ao19) := fun x hx hy => absurd (hM x (mr (ml hy))) (Nat.not_lt.2 ((hN25.ge1) x hx))
  have p_i26_i5 : ∀ x ∈ [g24], x ∉ ([g3]) := fun x hx hy => absurd (hM x (mr (mr (ml hy)))) (Nat.not_lt.2 ((hN25.ge1) x hx))
  have p_i26_M : ∀ x ∈ [g24], x ∉ M := fun x hx hy => absurd (hM x (mr (mr (mr (hy))))) (Nat.not_lt.2 ((hN25.ge1) x hx))
  have e_i26 : ∀ x ∈ [g24], w.heap.size ≤ x := fun x hx => Nat.le_trans hC.size ((hN25.ge1) x hx)
  have hM : MS ([g24] ++ (blkL ao22 ++ (blkL ao19 ++ ([g3] ++ (M))))) w23 := (MS.app hN25.ms (hM.chg hN25.chg))
  have hC := hC.trans hN25.chg (Ok.nil _ _)
  have f27 : Own (rInt .u8) 5 w23 ([g24] ++ (blkL ao22 ++ (blkL ao19 ++ ([g3] ++ (M))))) (some ⟨g24, 0, none⟩) 2 ([(0 : Int), (0 : Int)] : List Int) := hN25.own ⟨([.int .u8 (0 : Int)] : List Value), _, rfl, rfl, ⟨([.int .u8 (0 : Int)] : List Value), _, rfl, rfl, rfl⟩⟩ (Nat.le_of_ble_eq_true rfl)
  obtain ⟨hx28, H⟩ := ite_some H
  refine app (r := (rInt .u8)) (xs := (([(2 : Int), (9 : Int)] : List Int) ++ t18)) (ys := ([(0 : Int), (0 : Int)] : List Int)) ha (ElemT.mk' (bytes := 1) (by kernel_rfl)) rfl rfl rfl rfl rfl f22 f27.src hx28 (by decide) fun a w29 ao30 cap30 hO30 hc30 hk30 hl30 ha => ?_
  have o1 : Ok (blkL ao22) ([g24] ++ (blkL ao22 ++ (blkL ao19 ++ ([g3] ++ (M))))) w23.heap.size := (fun _ h => .inl (mr (ml h)))
  have o2 : Ok (blkL ao30 ++ ([g24] ++ (blkL ao19 ++ ([g3] ++ (M))))) ([g24] ++ (blkL ao22 ++ (blkL ao19 ++ ([g3] ++ (M))))) w23.heap.size := (Ok.app (Ok.to hk30 (fun _ h => mr (ml h))) (Ok.app (fun _ h => .inl (ml h)) (fun _ h => .inl (mr (mr (h))))))
  have f27 := f27.chg hc30 o1 o2 p_i26_i22 (fun _ h => mr (ml h))
  have hBg3 := hBg3.chg hc30 ((fun x (hx : x ∈ [g3]) (hy : x ∈ blkL ao22) => p_i22_i5 x hy hx) g3 (by simp))
  have p_i30_i26 : ∀ x ∈ blkL ao30, x ∉ ([g24]) := fun x hx hy => (hk30 x hx).elim (fun h => (fun x hx hy => p_i26_i22 x hy hx) x h hy) (fun h => absurd (hM x (ml hy)) (Nat.not_lt.2 h))
  have p_i30_i19 : ∀ x ∈ blkL ao30, x ∉ (blkL ao19) := fun x hx hy => (hk30 x hx).elim (fun h => p_i22_i19 x h hy) (fun h => absurd (hM x (mr (mr (ml hy)))) (Nat.not_lt.2 h))
  have p_i30_i5 : ∀ x ∈ blkL ao30, x ∉ ([g3]) := fun x hx hy => (hk30 x hx).elim (fun h => p_i22_i5 x h hy) (fun h => absurd (hM x (mr (mr (mr (ml hy))))) (Nat.not_lt.2 h))
  have p_i30_M : ∀ x ∈ blkL ao30, x ∉ M := fun x hx hy => (hk30 x hx).elim (fun h => p_i22_M x h hy) (fun h => absurd (hM x (mr (mr (mr (mr (hy)))))) (Nat.not_lt.2 h))
  have e_i30 : ∀ x ∈ blkL ao30, w.heap.size ≤ x := fun x hx => (hk30 x hx).elim (e_i22 x) (Nat.le_trans hC.size)
  have hM : MS (blkL ao30 ++ ([g24] ++ (blkL ao19 ++ ([g3] ++ (M))))) w29 := (MS.app hl30 (MS.app (fun x h => hM.chg hc30 x (ml h)) (fun x h => hM.chg hc30 x (mr (mr (h))))))
  have hC := hC.trans hc30 (fun x h => .inr (e_i22 x h))
  have f30 := hO30.chg (M' := blkL ao30 ++ ([g24] ++ (blkL ao19 ++ ([g3] ++ (M))))) (Chg.refl [] _) (Ok.nil _ _) (Ok.app (fun _ h => .inl (ml h)) (Ok.to (Ok.app (fun _ h => .inl (ml h)) (fun _ h => .inl (mr (mr (h))))) (fun _ h => mr h))) (fun _ _ h => nomatch h) (fun _ h => ml h)
  have hML : MS ([g24] ++ (blkL ao19 ++ ([g3] ++ (M)))) w29 := MS.rest hM (fun _ h => (List.mem_append.1 h).elim (fun h => mr (ml h)) (fun h => (List.mem_append.1 h).elim (fun h => mr (mr (ml h))) (fun h => (List.mem_append.1 h).elim (fun h => mr (mr (mr (ml h)))) (fun h => mr (mr (mr (mr (h))))))))
  have oL : Ok ([g24] ++ (blkL ao19 ++ ([g3] ++ (M)))) (blkL ao30 ++ ([g24] ++ (blkL ao19 ++ ([g3] ++ (M))))) w29.heap.size := (fun _ h => .inl (mr (h)))
  obtain ⟨t31, H31, H⟩ := bind_some H
  refine cl ha (by rfl) (by kernel_rfl) (by rfl) (by rfl) (by rfl) (vineryref04_of.walk w29 _ hML ((([(2 : Int), (9 : Int)] : List Int) ++ t18) ++ ([(0 : Int), (0 : Int)] : List Int)) ao30 cap30 (Own.toRSl (M' := [g24] ++ (blkL ao19 ++ ([g3] ++ (M)))) f30 oL (fun x hx hm => (List.mem_append.1 hm).elim (fun h => p_i30_i26 x hx h) (fun h => (List.mem_append.1 h).elim (fun h => p_i30_i19 x hx h) (fun h => (List.mem_append.1 h).elim (fun h => p_i30_i5 x hx h) (fun h => p_i30_M x hx h))))) k _ H31) ?_
  rintro _ w31 ⟨rfl, hc31, hMn⟩ a ha
  have o1 : Ok [] (blkL ao30 ++ ([g24] ++ (blkL ao19 ++ ([g3] ++ (M))))) w29.heap.size := Ok.nil _ _
  have o2 : Ok (blkL ao30 ++ ([g24] ++ (blkL ao19 ++ ([g3] ++ (M))))) (blkL ao30 ++ ([g24] ++ (blkL ao19 ++ ([g3] ++ (M))))) w29.heap.size := (Ok.refl _ _)
  have f30 := f30.chg hc31 o1 o2 (fun _ _ h => nomatch h) (fun _ h => ml h)
  have hBg3 := hBg3.chg hc31 (fun h => nomatch h)
  have hM : MS (blkL ao30 ++ ([g24] ++ (blkL ao19 ++ ([g3] ++ (M))))) w31 := (hM.chg hc31)
  have hC := hC.trans hc31 (Ok.nil _ _)
  refine stA (l := (cA .u8 8 t31)) ha rfl rfl rfl (by kernel_rfl) rfl rfl hBg3 rfl fun a w32 ha hb2 hc33 _ => ?_
  have hM : MS (blkL ao30 ++ ([g24] ++ (blkL ao19 ++ ([g3] ++ (M))))) w32 := (hM.chg hc33)
  have hC := hC.trans hc33 (fun x h => .inr (e_i5 x h))
  have hBg3 : Box w32 g3 (cA .u8 8 t31) := hb2
  refine seg ha 1 [(2, .pointer (some ⟨g3, 0, none⟩)), (3, .int .i64 (0 : Int))] (by kernel_rfl) fun a ha => ?_
  refine hK12 _ _ ?_; try clear hK12 K12
  refine wp_ret ?_
  try simp only [Exit.then, Exit.inBlock]
  have hBg3 := hBg3.chg (Chg.refl [] _) (fun h => nomatch h)
  have hM : MS (M) w32 := (fun x h => hM.chg (Chg.refl [] _) x (mr (mr (mr (mr (h))))))
  have hC := hC.trans (Chg.refl [] _) (Ok.nil _ _)
  obtain rfl := Option.some.inj H
  refine rtr ha (res2 rfl (roA ha rfl hBg3 (by kernel_rfl)) (roT ha rfl)) ?_
  exact ⟨rfl, hC, hM⟩
end Go.E
