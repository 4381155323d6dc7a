/- What the functions that the law reaches compute, and the walks that show it. -/
import Derived.Test.YtcejhnpncodkjaaDoorEngU
import Derived.Test.YtcejhnpncodkjaaDoorShelf
import Derived.Test.YtcejhnpncodkjaaDoorEngX
import Derived.Test.YtcejhnpncodkjaaDoorEngY
import Derived.Test.YtcejhnpncodkjaaDoorProg
import Derived.Test.YtcejhnpncodkjaaDoorGenCommunityTargetsP1
set_option linter.unusedVariables false
set_option linter.unusedSimpArgs false
namespace Go.E
open Go.RowKit Go.Proofs
def community_Text.l0 (a0 : List Int) : Nat → (List Int) → Int → Option (List Int)
  | 0, _, _ => none
  | kk + 1, x65, x66 => (if (decide (x66 < (8 : Int))) = true then (if 0 ≤ x66 ∧ x66 < (8 : Int) then (if 0 ≤ (Int.fdiv (ar a0 (Int.toNat x66)) (2 ^ (min (4 : Int).toNat IntKind.u8.bits))) ∧ (Int.fdiv (ar a0 (Int.toNat x66)) (2 ^ (min (4 : Int).toNat IntKind.u8.bits))) < (([48, 49, 50, 51, 52, 53, 54, 55, 56, 57, 97, 98, 99, 100, 101, 102] : List UInt8).length : Int) then (if 0 ≤ (IntKind.u8.wrap (BitVec.ofInt IntKind.u8.bits (ar a0 (Int.toNat x66)) &&& BitVec.ofInt IntKind.u8.bits (15 : Int)).toNat) ∧ (IntKind.u8.wrap (BitVec.ofInt IntKind.u8.bits (ar a0 (Int.toNat x66)) &&& BitVec.ofInt IntKind.u8.bits (15 : Int)).toNat) < (([48, 49, 50, 51, 52, 53, 54, 55, 56, 57, 97, 98, 99, 100, 101, 102] : List UInt8).length : Int) then (if (x65.length + ([((([48, 49, 50, 51, 52, 53, 54, 55, 56, 57, 97, 98, 99, 100, 101, 102] : List UInt8).getD (Int.toNat (Int.fdiv (ar a0 (Int.toNat x66)) (2 ^ (min (4 : Int).toNat IntKind.u8.bits)))) 0).toNat : Int), ((([48, 49, 50, 51, 52, 53, 54, 55, 56, 57, 97, 98, 99, 100, 101, 102] : List UInt8).getD (Int.toNat (IntKind.u8.wrap (BitVec.ofInt IntKind.u8.bits (ar a0 (Int.toNat x66)) &&& BitVec.ofInt IntKind.u8.bits (15 : Int)).toNat)) 0).toNat : Int)] : List Int).length) * 1 ≤ 140737488355328 then community_Text.l0 a0 kk (x65 ++ ([((([48, 49, 50, 51, 52, 53, 54, 55, 56, 57, 97, 98, 99, 100, 101, 102] : List UInt8).getD (Int.toNat (Int.fdiv (ar a0 (Int.toNat x66)) (2 ^ (min (4 : Int).toNat IntKind.u8.bits)))) 0).toNat : Int), ((([48, 49, 50, 51, 52, 53, 54, 55, 56, 57, 97, 98, 99, 100, 101, 102] : List UInt8).getD (Int.toNat (IntKind.u8.wrap (BitVec.ofInt IntKind.u8.bits (ar a0 (Int.toNat x66)) &&& BitVec.ofInt IntKind.u8.bits (15 : Int)).toNat)) 0).toNat : Int)] : List Int)) (IntKind.i64.wrap (x66 + (1 : Int))) else none) else none) else none) else none) else some (x65 : List Int))
def community_Text.f (k : Nat) (a0 : List Int) : Option (List UInt8) := (community_Kind.f a0).bind fun t8 => (if (t8 == (1 : Int)) = true then (if 0 ≤ (2 : Int) ∧ (2 : Int) ≤ (8 : Int) ∧ (8 : Int) ≤ (8 : Int) then (rd_Text.f k ((arL 8 ([(0 : Int), ar a0 0, (0 : Int), (0 : Int), (0 : Int), (0 : Int), (0 : Int), (0 : Int)] : List Int)).take 2 ++ arC 6 ((arL 8 ([(0 : Int), ar a0 0, (0 : Int), (0 : Int), (0 : Int), (0 : Int), (0 : Int), (0 : Int)] : List Int)).drop 2) (((arL 8 a0).take (Int.toNat (8 : Int))).drop (Int.toNat (2 : Int))))).bind fun t27 => (if (([114, 116, 58] : List UInt8) ++ t27).length ≤ 9223372036854775807 then some ((([114, 116, 58] : List UInt8) ++ t27 : List UInt8)) else none) else none) else (if (t8 == (2 : Int)) = true then (community_Importer.f k a0).bind fun t32 => (addr_Text.f k t32.1).bind fun t40 => (if (([105, 109, 112, 111, 114, 116, 58] : List UInt8) ++ t40).length ≤ 9223372036854775807 then (if ((([105, 109, 112, 111, 114, 116, 58] : List UInt8) ++ t40) ++ ([58] : List UInt8)).length ≤ 9223372036854775807 then (strconv_Itoa.f t32.2.1).bind fun t43 => (if (((([105, 109, 112, 111, 114, 116, 58] : List UInt8) ++ t40) ++ ([58] : List UInt8)) ++ t43).length ≤ 9223372036854775807 then some ((((([105, 109, 112, 111, 114, 116, 58] : List UInt8) ++ t40) ++ ([58] : List UInt8)) ++ t43 : List UInt8)) else none) else none) else none) else (if (t8 == (3 : Int)) = true then (community_AS.f k a0).bind fun t48 => (strconv_Itoa.f t48.1).bind fun t50 => (if (([115, 111, 117, 114, 99, 101, 58] : List UInt8) ++ t50).length ≤ 9223372036854775807 then some ((([115, 111, 117, 114, 99, 101, 58] : List UInt8) ++ t50 : List UInt8)) else none) else (community_Text.l0 a0 k ([(111 : Int), (116 : Int), (104 : Int), (101 : Int), (114 : Int), (58 : Int)] : List Int) (0 : Int)).bind fun s63 => some ((b2s s63 : List UInt8)))))
set_option maxRecDepth 100000 in
theorem community_Text.walk (w : World) (M : List Nat) (hM : MS M w) (hG : GF w M) (a0 : List Int) (k : Nat) (r : List UInt8) (H : community_Text.f k a0 = some r) :
    To Tryd.prog 11 [.agg (cA .u8 8 a0).toArray] w fun v w' => v = .string (bstr r) ∧ Chg [] w w' ∧ MS (M) w' := by
 unfold community_Text.f at H
 refine ent Tryd.func11 rfl [(0, .agg (cA .u8 8 a0).toArray)] rfl (by rfl) fun a ha => ?_
 have hC : Chg [] w w := Chg.refl _ _
 refine wp_seq_k fun K1 hK1 => ?_
 refine wp_region_lit ?_
 refine bx (cs := (cA .u8 8 a0)) ha rfl rfl rfl rfl rfl fun a w2 g3 hN4 ha => ?_
 have o1 : Ok [] (M) w.heap.size := Ok.nil _ _
 have o2 : Ok ([g3] ++ (M)) (M) w.heap.size := (Ok.app (hN4.ok _) (Ok.refl _ _))
 have hG := hG.chg hN4.chg o1 o2
 have p_i5_M : ∀ x ∈ [g3], x ∉ M := fun x hx hy => absurd (hM x (hy)) (Nat.not_lt.2 ((hN4.ge1) x hx))
 have e_i5 : ∀ x ∈ [g3], w.heap.size ≤ x := fun x hx => Nat.le_trans hC.size ((hN4.ge1) x hx)
 have hM : MS ([g3] ++ (M)) w2 := (MS.app hN4.ms (hM.chg hN4.chg))
 have hC := hC.trans hN4.chg (Ok.nil _ _)
 have hBg3 : Box w2 g3 (cA .u8 8 a0) := hN4.box
 refine seg ha 1 [(1, .pointer (some ⟨g3, 0, none⟩))] (by kernel_rfl) fun a ha => ?_
 refine hK1 _ _ ?_; try clear hK1 K1
 refine wp_seq_k fun K6 hK6 => ?_
 refine wp_seq_k fun K7 hK7 => ?_
 refine wp_region_lit ?_
 refine ldA (cs := (cA .u8 8 a0)) ha rfl (by kernel_rfl) rfl rfl rfl (cells_sub (Box.cells hBg3) (all := (cA .u8 8 a0)) [] [] (by kernel_rfl)) fun a ha => ?_
 obtain ⟨t8, H8, H⟩ := bind_some H
 refine cl ha (by rfl) (by kernel_rfl) (by rfl) (by rfl) (by rfl) (community_Kind.walk w2 _ hM a0 _ H8) ?_
 rintro _ w8 ⟨rfl, hc8, hMn⟩ a ha
 have o1 : Ok [] ([g3] ++ (M)) w2.heap.size := Ok.nil _ _
 have o2 : Ok ([g3] ++ (M)) ([g3] ++ (M)) w2.heap.size := (Ok.refl _ _)
 have hG := hG.chg hc8 o1 o2
 have hBg3 := hBg3.chg hc8 (fun h => nomatch h)
 have hM : MS ([g3] ++ (M)) w8 := (hM.chg hc8)
 have hC := hC.trans hc8 (Ok.nil _ _)
 refine hK7 _ _ ?_; try clear hK7 K7
 refine wp_block ?_
 refine wp_seq_k fun K9 hK9 => ?_
 refine wp_region_lit ?_
 refine seg ha 2 [(1, .pointer (some ⟨g3, 0, none⟩)), (13, .int .i64 t8), (14, .bool (t8 == (1 : Int)))] (by kernel_rfl) fun a ha => ?_
 refine hK9 _ _ ?_; try clear hK9 K9
 refine cnd ha rfl (fun hc10 => ?_) (fun hc10 => ?_)
 ·have H := ite_t hc10 H
  refine wp_seq_k fun K11 hK11 => ?_
  refine wp_region_lit ?_
  have hi12 : 0 < 8 := by decide
  refine hop (v := .pointer (some ⟨g3, 0 + 0, none⟩)) (w' := w8) ha rfl rfl rfl (ixA_run (T := 5) (N := 8) (g := g3) (o' := 0) (k := .i64) (i := (0 : Int)) ha (by kernel_rfl) (by kernel_rfl) (by rfl) (by rfl) (by decide) (by decide) _) fun a ha => ?_
  refine ld (v := .int .u8 (ar a0 0)) ha rfl (by kernel_rfl) rfl rfl rfl (hBg3.cell' (o := 0 + 0) rfl (arr_cell (k := .u8) (m := 8) (x := a0) ([] : List Value) ([] : List Value) (by kernel_rfl) hi12)) fun a ha => ?_
  refine opk (v := .agg (cA .u8 8 ([(0 : Int), ar a0 0, (0 : Int), (0 : Int), (0 : Int), (0 : Int), (0 : Int), (0 : Int)] : List Int)).toArray) ha rfl rfl rfl rfl rfl (fun w => by kernel_rfl) fun a ha => ?_
  refine al (cs := (cA .u8 8 (List.replicate 8 (0 : Int)))) (z := .agg (cA .u8 8 (List.replicate 8 (0 : Int))).toArray) ha (fun w => by kernel_rfl) rfl rfl rfl rfl fun a w13 g14 hN15 ha => ?_
  have o1 : Ok [] ([g3] ++ (M)) w8.heap.size := Ok.nil _ _
  have o2 : Ok ([g14] ++ ([g3] ++ (M))) ([g3] ++ (M)) w8.heap.size := (Ok.app (hN15.ok _) (Ok.refl _ _))
  have hG := hG.chg hN15.chg o1 o2
  have hBg3 := hBg3.chg hN15.chg (fun h => nomatch h)
  have p_i16_i5 : ∀ x ∈ [g14], x ∉ ([g3]) := fun x hx hy => absurd (hM x (ml hy)) (Nat.not_lt.2 ((hN15.ge1) x hx))
  have p_i16_M : ∀ x ∈ [g14], x ∉ M := fun x hx hy => absurd (hM x (mr (hy))) (Nat.not_lt.2 ((hN15.ge1) x hx))
  have e_i16 : ∀ x ∈ [g14], w.heap.size ≤ x := fun x hx => Nat.le_trans hC.size ((hN15.ge1) x hx)
  have hM : MS ([g14] ++ ([g3] ++ (M))) w13 := (MS.app hN15.ms (hM.chg hN15.chg))
  have hC := hC.trans hN15.chg (Ok.nil _ _)
  have hBg14 : Box w13 g14 (cA .u8 8 (List.replicate 8 (0 : Int))) := hN15.box
  refine stA (l := (cA .u8 8 ([(0 : Int), ar a0 0, (0 : Int), (0 : Int), (0 : Int), (0 : Int), (0 : Int), (0 : Int)] : List Int))) ha rfl rfl rfl (by kernel_rfl) rfl rfl hBg14 rfl fun a w17 ha hb2 hc18 _ => ?_
  have o1 : Ok [g14] ([g14] ++ ([g3] ++ (M))) w13.heap.size := (fun _ h => .inl (ml h))
  have o2 : Ok ([g14] ++ ([g3] ++ (M))) ([g14] ++ ([g3] ++ (M))) w13.heap.size := (Ok.refl _ _)
  have hG := hG.chg hc18 o1 o2
  have hBg3 := hBg3.chg hc18 ((fun x (hx : x ∈ [g3]) (hy : x ∈ [g14]) => p_i16_i5 x hy hx) g3 (by simp))
  have hM : MS ([g14] ++ ([g3] ++ (M))) w17 := (hM.chg hc18)
  have hC := hC.trans hc18 (fun x h => .inr (e_i16 x h))
  have hBg14 : Box w17 g14 (cA .u8 8 ([(0 : Int), ar a0 0, (0 : Int), (0 : Int), (0 : Int), (0 : Int), (0 : Int), (0 : Int)] : List Int)) := hb2
  refine hK11 _ _ ?_; try clear hK11 K11
  refine wp_seq_k fun K19 hK19 => ?_
  refine drq 2 (fun w' => Chg [] w17 w') (by kernel_rfl) (by kernel_rfl) (fun _ h => h) ?_
  refine qv (v := .slice (some ⟨g14, 2, none⟩) 6 6) ha rfl rfl rfl (fun w' hs => opk_run ha rfl rfl (fun w => by kernel_rfl)) fun a ha => ?_
  have fw20 : RSl (rInt .u8) 5 w17 (butL g3 w17) (some ⟨g3, 0, none⟩) 8 (arL 8 a0) := RSl.ofA ([] : List Value) ([] : List Value) (Box.cells hBg3) butL_self (by kernel_rfl) rfl
  obtain ⟨⟨hx21, hx21', hx21''⟩, H⟩ := ite_some H
  obtain ⟨ao21, cap21, f21, hr21⟩ := slA_run (kk := .u8) (T := 5) (N := 8) (g := g3) (o' := 0) (xs := (arL 8 a0)) (t := 27) (lo := (Option.some (Operand.const (Value.int IntKind.i64 2)))) (hi := Option.none) (l := (2 : Int)) (h := (8 : Int)) (dd := some 20) (ty := 43) (pos := "text.go:19") (af := #[]) (gd := Option.none) ha (by kernel_rfl) (by kernel_rfl) (x := (Operand.tmp 1)) rfl (arL_length _ _) rfl rfl fw20 hx21 hx21' (by rw [arL_length]; exact hx21'')
  refine qv (v := .slice ao21 (((arL 8 a0).take (Int.toNat (8 : Int))).drop (Int.toNat (2 : Int))).length cap21) ha rfl rfl rfl (fun w' hs => hr21 w') fun a ha => ?_
  refine wpQuiet_nil ?_
  intro w22 hc23
  have o1 : Ok [] ([g14] ++ ([g3] ++ (M))) w17.heap.size := Ok.nil _ _
  have o2 : Ok ([g14] ++ ([g3] ++ (M))) ([g14] ++ ([g3] ++ (M))) w17.heap.size := (Ok.refl _ _)
  have hG := hG.chg hc23 o1 o2
  have f21 := f21.chg (M' := butL g3 w22) hc23 (Ok.nil _ _) butL_chg
  have hBg3 := hBg3.chg hc23 (fun h => nomatch h)
  have hBg14 := hBg14.chg hc23 (fun h => nomatch h)
  have hM : MS ([g14] ++ ([g3] ++ (M))) w22 := (hM.chg hc23)
  have hC := hC.trans hc23 (Ok.nil _ _)
  refine cpyA (T := 5) (k := .u8) (x0 := ((arL 8 ([(0 : Int), ar a0 0, (0 : Int), (0 : Int), (0 : Int), (0 : Int), (0 : Int), (0 : Int)] : List Int)).drop 2)) (N := 6) ([.int .u8 (ar ([(0 : Int), ar a0 0, (0 : Int), (0 : Int), (0 : Int), (0 : Int), (0 : Int), (0 : Int)] : List Int) 0), .int .u8 (ar ([(0 : Int), ar a0 0, (0 : Int), (0 : Int), (0 : Int), (0 : Int), (0 : Int), (0 : Int)] : List Int) 1)] : List Value) ([] : List Value) ha (by kernel_rfl) (by kernel_rfl) rfl rfl rfl rfl rfl hBg14 (by kernel_rfl) f21 fun a w24 hb2 hc25 ha => ?_
  have o1 : Ok [g14] ([g14] ++ ([g3] ++ (M))) w22.heap.size := (fun _ h => .inl (ml h))
  have o2 : Ok ([g14] ++ ([g3] ++ (M))) ([g14] ++ ([g3] ++ (M))) w22.heap.size := (Ok.refl _ _)
  have hG := hG.chg hc25 o1 o2
  have f21 := f21.chg (M' := butL g3 w24) hc25 (butL_ok (fun x hx0 e0 => (fun x (hx : x ∈ [g3]) (hy : x ∈ [g14]) => p_i16_i5 x hy hx) x (by rw [e0]; exact List.mem_singleton.2 rfl) hx0)) butL_chg
  have hBg3 := hBg3.chg hc25 ((fun x (hx : x ∈ [g3]) (hy : x ∈ [g14]) => p_i16_i5 x hy hx) g3 (by simp))
  have hM : MS ([g14] ++ ([g3] ++ (M))) w24 := (hM.chg hc25)
  have hC := hC.trans hc25 (fun x h => .inr (e_i16 x h))
  have hBg14 : Box w24 g14 (cA .u8 8 ((arL 8 ([(0 : Int), ar a0 0, (0 : Int), (0 : Int), (0 : Int), (0 : Int), (0 : Int), (0 : Int)] : List Int)).take 2 ++ arC 6 ((arL 8 ([(0 : Int), ar a0 0, (0 : Int), (0 : Int), (0 : Int), (0 : Int), (0 : Int), (0 : Int)] : List Int)).drop 2) (((arL 8 a0).take (Int.toNat (8 : Int))).drop (Int.toNat (2 : Int))))) := hb2.cast (by kernel_rfl)
  refine hK19 _ _ ?_; try clear hK19 K19
  refine wp_seq_k fun K26 hK26 => ?_
  refine wp_region_lit ?_
  refine ldA (cs := (cA .u8 8 ((arL 8 ([(0 : Int), ar a0 0, (0 : Int), (0 : Int), (0 : Int), (0 : Int), (0 : Int), (0 : Int)] : List Int)).take 2 ++ arC 6 ((arL 8 ([(0 : Int), ar a0 0, (0 : Int), (0 : Int), (0 : Int), (0 : Int), (0 : Int), (0 : Int)] : List Int)).drop 2) (((arL 8 a0).take (Int.toNat (8 : Int))).drop (Int.toNat (2 : Int)))))) ha rfl (by kernel_rfl) rfl rfl rfl (cells_sub (Box.cells hBg14) (all := (cA .u8 8 ((arL 8 ([(0 : Int), ar a0 0, (0 : Int), (0 : Int), (0 : Int), (0 : Int), (0 : Int), (0 : Int)] : List Int)).take 2 ++ arC 6 ((arL 8 ([(0 : Int), ar a0 0, (0 : Int), (0 : Int), (0 : Int), (0 : Int), (0 : Int), (0 : Int)] : List Int)).drop 2) (((arL 8 a0).take (Int.toNat (8 : Int))).drop (Int.toNat (2 : Int)))))) [] [] (by kernel_rfl)) fun a ha => ?_
  obtain ⟨t27, H27, H⟩ := bind_some H
  refine cl ha (by rfl) (by kernel_rfl) (by rfl) (by rfl) (by rfl) (rd_Text.walk w24 _ hM hG ((arL 8 ([(0 : Int), ar a0 0, (0 : Int), (0 : Int), (0 : Int), (0 : Int), (0 : Int), (0 : Int)] : List Int)).take 2 ++ arC 6 ((arL 8 ([(0 : Int), ar a0 0, (0 : Int), (0 : Int), (0 : Int), (0 : Int), (0 : Int), (0 : Int)] : List Int)).drop 2) (((arL 8 a0).take (Int.toNat (8 : Int))).drop (Int.toNat (2 : Int)))) k _ H27) ?_
  rintro _ w27 ⟨rfl, hc27, hMn⟩ a ha
  have o1 : Ok [] ([g14] ++ ([g3] ++ (M))) w24.heap.size := Ok.nil _ _
  have o2 : Ok ([g14] ++ ([g3] ++ (M))) ([g14] ++ ([g3] ++ (M))) w24.heap.size := (Ok.refl _ _)
  have hG := hG.chg hc27 o1 o2
  have hBg3 := hBg3.chg hc27 (fun h => nomatch h)
  have hBg14 := hBg14.chg hc27 (fun h => nomatch h)
  have hM : MS ([g14] ++ ([g3] ++ (M))) w27 := (hM.chg hc27)
  have hC := hC.trans hc27 (Ok.nil _ _)
  obtain ⟨hx28, H⟩ := ite_some H
  refine sadd ha rfl rfl rfl rfl rfl hx28 fun a ha => ?_
  refine seg ha 1 [(2, .string (bstr (([114, 116, 58] : List UInt8) ++ t27)))] (by kernel_rfl) fun a ha => ?_
  refine hK26 _ _ ?_; try clear hK26 K26
  refine wp_ret ?_
  try simp only [Exit.then, Exit.inBlock]
  have o1 : Ok [] ([g14] ++ ([g3] ++ (M))) w27.heap.size := Ok.nil _ _
  have o2 : Ok (M) ([g14] ++ ([g3] ++ (M))) w27.heap.size := (fun _ h => .inl (mr (mr (h))))
  have hG := hG.chg (Chg.refl [] _) o1 o2
  have hBg3 := hBg3.chg (Chg.refl [] _) (fun h => nomatch h)
  have hBg14 := hBg14.chg (Chg.refl [] _) (fun h => nomatch h)
  have hM : MS (M) w27 := (fun x h => hM.chg (Chg.refl [] _) x (mr (mr (h))))
  have hC := hC.trans (Chg.refl [] _) (Ok.nil _ _)
  obtain rfl := Option.some.inj H
  refine rt1 ha rfl rfl ?_
  exact ⟨rfl, hC, hM⟩
 ·have H := ite_f hc10 H
  refine wp_seq_k fun K29 hK29 => ?_
  refine wp_region_lit ?_
  refine seg ha 2 [(1, .pointer (some ⟨g3, 0, none⟩)), (13, .int .i64 t8), (25, .bool (t8 == (2 : Int)))] (by kernel_rfl) fun a ha => ?_
  refine hK29 _ _ ?_; try clear hK29 K29
  refine cnd ha rfl (fun hc30 => ?_) (fun hc30 => ?_)
  ·have H := ite_t hc30 H
   refine wp_seq_k fun K31 hK31 => ?_
   refine wp_region_lit ?_
   refine ldA (cs := (cA .u8 8 a0)) ha rfl (by kernel_rfl) rfl rfl rfl (cells_sub (Box.cells hBg3) (all := (cA .u8 8 a0)) [] [] (by kernel_rfl)) fun a ha => ?_
   obtain ⟨t32, H32, H⟩ := bind_some H
   refine cl ha (by rfl) (by kernel_rfl) (by rfl) (by rfl) (by rfl) (community_Importer.walk w8 _ hM a0 k _ H32) ?_
   rintro _ w32 ⟨rfl, hc32, hMn⟩ a ha
   have o1 : Ok [] ([g3] ++ (M)) w8.heap.size := Ok.nil _ _
   have o2 : Ok ([g3] ++ (M)) ([g3] ++ (M)) w8.heap.size := (Ok.refl _ _)
   have hG := hG.chg hc32 o1 o2
   have hBg3 := hBg3.chg hc32 (fun h => nomatch h)
   have hM : MS ([g3] ++ (M)) w32 := (hM.chg hc32)
   have hC := hC.trans hc32 (Ok.nil _ _)
   refine seg ha 4 [(30, .agg (cS_api_Addr t32.1).toArray), (31, .int .i64 t32.2.1), (32, .bool t32.2.2)] (by kernel_rfl) fun a ha => ?_
   refine al (cs := (cS_api_Addr (⟨(0 : Int), (List.replicate 16 (0 : Int))⟩ : S_api_Addr))) (z := .agg (cS_api_Addr (⟨(0 : Int), (List.replicate 16 (0 : Int))⟩ : S_api_Addr)).toArray) ha (fun w => by kernel_rfl) rfl rfl rfl rfl fun a w33 g34 hN35 ha => ?_
   have o1 : Ok [] ([g3] ++ (M)) w32.heap.size := Ok.nil _ _
   have o2 : Ok ([g34] ++ ([g3] ++ (M))) ([g3] ++ (M)) w32.heap.size := (Ok.app (hN35.ok _) (Ok.refl _ _))
   have hG := hG.chg hN35.chg o1 o2
   have hBg3 := hBg3.chg hN35.chg (fun h => nomatch h)
   have p_i36_i5 : ∀ x ∈ [g34], x ∉ ([g3]) := fun x hx hy => absurd (hM x (ml hy)) (Nat.not_lt.2 ((hN35.ge1) x hx))
   have p_i36_M : ∀ x ∈ [g34], x ∉ M := fun x hx hy => absurd (hM x (mr (hy))) (Nat.not_lt.2 ((hN35.ge1) x hx))
   have e_i36 : ∀ x ∈ [g34], w.heap.size ≤ x := fun x hx => Nat.le_trans hC.size ((hN35.ge1) x hx)
   have hM : MS ([g34] ++ ([g3] ++ (M))) w33 := (MS.app hN35.ms (hM.chg hN35.chg))
   have hC := hC.trans hN35.chg (Ok.nil _ _)
   have hBg34 : Box w33 g34 (cS_api_Addr (⟨(0 : Int), (List.replicate 16 (0 : Int))⟩ : S_api_Addr)) := hN35.box
   refine stA (l := (cS_api_Addr t32.1)) ha rfl rfl rfl (by kernel_rfl) rfl rfl hBg34 rfl fun a w37 ha hb2 hc38 _ => ?_
   have o1 : Ok [g34] ([g34] ++ ([g3] ++ (M))) w33.heap.size := (fun _ h => .inl (ml h))
   have o2 : Ok ([g34] ++ ([g3] ++ (M))) ([g34] ++ ([g3] ++ (M))) w33.heap.size := (Ok.refl _ _)
   have hG := hG.chg hc38 o1 o2
   have hBg3 := hBg3.chg hc38 ((fun x (hx : x ∈ [g3]) (hy : x ∈ [g34]) => p_i36_i5 x hy hx) g3 (by simp))
   have hM : MS ([g34] ++ ([g3] ++ (M))) w37 := (hM.chg hc38)
   have hC := hC.trans hc38 (fun x h => .inr (e_i36 x h))
   have hBg34 : Box w37 g34 (cS_api_Addr t32.1) := hb2
   refine seg ha 2 [(4, .pointer (some ⟨g34, 0, none⟩)), (5, .int .i64 t32.2.1)] (by kernel_rfl) fun a ha => ?_
   refine hK31 _ _ ?_; try clear hK31 K31
   refine wp_seq_k fun K39 hK39 => ?_
   refine wp_region_lit ?_
   refine ldA (cs := (cS_api_Addr t32.1)) ha rfl (by kernel_rfl) rfl rfl rfl (cells_sub (Box.cells hBg34) (all := (cS_api_Addr t32.1)) [] [] (by kernel_rfl)) fun a ha => ?_
   obtain ⟨t40, H40, H⟩ := bind_some H
   refine cl ha (by rfl) (by kernel_rfl) (by rfl) (by rfl) (by rfl) (addr_Text.walk w37 _ hM hG t32.1 k _ H40) ?_
   rintro _ w40 ⟨rfl, hc40, hMn⟩ a ha
   have o1 : Ok [] ([g34] ++ ([g3] ++ (M))) w37.heap.size := Ok.nil _ _
   have o2 : Ok ([g34] ++ ([g3] ++ (M))) ([g34] ++ ([g3] ++ (M))) w37.heap.size := (Ok.refl _ _)
   have hG := hG.chg hc40 o1 o2
   have hBg3 := hBg3.chg hc40 (fun h => nomatch h)
   have hBg34 := hBg34.chg hc40 (fun h => nomatch h)
   have hM : MS ([g34] ++ ([g3] ++ (M))) w40 := (hM.chg hc40)
   have hC := hC.trans hc40 (Ok.nil _ _)
   obtain ⟨hx41, H⟩ := ite_some H
   refine sadd ha rfl rfl rfl rfl rfl hx41 fun a ha => ?_
   obtain ⟨hx42, H⟩ := ite_some H
   refine sadd ha rfl rfl rfl rfl rfl hx42 fun a ha => ?_
   refine seg ha 1 [(36, .string (bstr ((([105, 109, 112, 111, 114, 116, 58] : List UInt8) ++ t40) ++ ([58] : List UInt8)))), (37, .int .i64 t32.2.1)] (by kernel_rfl) fun a ha => ?_
   obtain ⟨t43, H43, H⟩ := bind_some H
   refine cl ha (by rfl) (by kernel_rfl) (by rfl) (by rfl) (by rfl) (strconv_Itoa.walk w40 _ hM hG t32.2.1 _ H43) ?_
   rintro _ w43 ⟨rfl, hc43, hMn⟩ a ha
   have o1 : Ok [] ([g34] ++ ([g3] ++ (M))) w40.heap.size := Ok.nil _ _
   have o2 : Ok ([g34] ++ ([g3] ++ (M))) ([g34] ++ ([g3] ++ (M))) w40.heap.size := (Ok.refl _ _)
   have hG := hG.chg hc43 o1 o2
   have hBg3 := hBg3.chg hc43 (fun h => nomatch h)
   have hBg34 := hBg34.chg hc43 (fun h => nomatch h)
   have hM : MS ([g34] ++ ([g3] ++ (M))) w43 := (hM.chg hc43)
   have hC := hC.trans hc43 (Ok.nil _ _)
   obtain ⟨hx44, H⟩ := ite_some H
   refine sadd ha rfl rfl rfl rfl rfl hx44 fun a ha => ?_
   refine seg ha 1 [(2, .string (bstr (((([105, 109, 112, 111, 114, 116, 58] : List UInt8) ++ t40) ++ ([58] : List UInt8)) ++ t43)))] (by kernel_rfl) fun a ha => ?_
   refine hK39 _ _ ?_; try clear hK39 K39
   refine wp_ret ?_
   try simp only [Exit.then, Exit.inBlock]
   have o1 : Ok [] ([g34] ++ ([g3] ++ (M))) w43.heap.size := Ok.nil _ _
   have o2 : Ok (M) ([g34] ++ ([g3] ++ (M))) w43.heap.size := (fun _ h => .inl (mr (mr (h))))
   have hG := hG.chg (Chg.refl [] _) o1 o2
   have hBg3 := hBg3.chg (Chg.refl [] _) (fun h => nomatch h)
   have hBg34 := hBg34.chg (Chg.refl [] _) (fun h => nomatch h)
   have hM : MS (M) w43 := (fun x h => hM.chg (Chg.refl [] _) x (mr (mr (h))))
   have hC := hC.trans (Chg.refl [] _) (Ok.nil _ _)
   obtain rfl := Option.some.inj H
   refine rt1 ha rfl rfl ?_
   exact ⟨rfl, hC, hM⟩
  ·have H := ite_f hc30 H
   refine wp_seq_k fun K45 hK45 => ?_
   refine wp_region_lit ?_
   refine seg ha 2 [(1, .pointer (some ⟨g3, 0, none⟩)), (40, .bool (t8 == (3 : Int)))] (by kernel_rfl) fun a ha => ?_
   refine hK45 _ _ ?_; try clear hK45 K45
   refine cnd ha rfl (fun hc46 => ?_) (fun hc46 => ?_)
   ·have H := ite_t hc46 H
    refine wp_seq_k fun K47 hK47 => ?_
    refine wp_region_lit ?_
    refine ldA (cs := (cA .u8 8 a0)) ha rfl (by kernel_rfl) rfl rfl rfl (cells_sub (Box.cells hBg3) (all := (cA .u8 8 a0)) [] [] (by kernel_rfl)) fun a ha => ?_
    obtain ⟨t48, H48, H⟩ := bind_some H
    refine cl ha (by rfl) (by kernel_rfl) (by rfl) (by rfl) (by rfl) (community_AS.walk w8 _ hM a0 k _ H48) ?_
    rintro _ w48 ⟨rfl, hc48, hMn⟩ a ha
    have o1 : Ok [] ([g3] ++ (M)) w8.heap.size := Ok.nil _ _
    have o2 : Ok ([g3] ++ (M)) ([g3] ++ (M)) w8.heap.size := (Ok.refl _ _)
    have hG := hG.chg hc48 o1 o2
    have hBg3 := hBg3.chg hc48 (fun h => nomatch h)
    have hM : MS ([g3] ++ (M)) w48 := (hM.chg hc48)
    have hC := hC.trans hc48 (Ok.nil _ _)
    refine seg ha 5 [(7, .int .i64 t48.1)] (by kernel_rfl) fun a ha => ?_
    refine hK47 _ _ ?_; try clear hK47 K47
    refine wp_seq_k fun K49 hK49 => ?_
    refine wp_region_lit ?_
    refine seg ha 1 [(47, .int .i64 t48.1)] (by kernel_rfl) fun a ha => ?_
    obtain ⟨t50, H50, H⟩ := bind_some H
    refine cl ha (by rfl) (by kernel_rfl) (by rfl) (by rfl) (by rfl) (strconv_Itoa.walk w48 _ hM hG t48.1 _ H50) ?_
    rintro _ w50 ⟨rfl, hc50, hMn⟩ a ha
    have o1 : Ok [] ([g3] ++ (M)) w48.heap.size := Ok.nil _ _
    have o2 : Ok ([g3] ++ (M)) ([g3] ++ (M)) w48.heap.size := (Ok.refl _ _)
    have hG := hG.chg hc50 o1 o2
    have hBg3 := hBg3.chg hc50 (fun h => nomatch h)
    have hM : MS ([g3] ++ (M)) w50 := (hM.chg hc50)
    have hC := hC.trans hc50 (Ok.nil _ _)
    obtain ⟨hx51, H⟩ := ite_some H
    refine sadd ha rfl rfl rfl rfl rfl hx51 fun a ha => ?_
    refine seg ha 1 [(2, .string (bstr (([115, 111, 117, 114, 99, 101, 58] : List UInt8) ++ t50)))] (by kernel_rfl) fun a ha => ?_
    refine hK49 _ _ ?_; try clear hK49 K49
    refine wp_ret ?_
    try simp only [Exit.then, Exit.inBlock]
    have o1 : Ok [] ([g3] ++ (M)) w50.heap.size := Ok.nil _ _
    have o2 : Ok (M) ([g3] ++ (M)) w50.heap.size := (fun _ h => .inl (mr (h)))
    have hG := hG.chg (Chg.refl [] _) o1 o2
    have hBg3 := hBg3.chg (Chg.refl [] _) (fun h => nomatch h)
    have hM : MS (M) w50 := (fun x h => hM.chg (Chg.refl [] _) x (mr (h)))
    have hC := hC.trans (Chg.refl [] _) (Ok.nil _ _)
    obtain rfl := Option.some.inj H
    refine rt1 ha rfl rfl ?_
    exact ⟨rfl, hC, hM⟩
   ·have H := ite_f hc46 H
    refine wp_skip ?_
    refine hK6 _ _ ?_; try clear hK6 K6
    refine wp_seq_k fun K52 hK52 => ?_
    refine wp_region_lit ?_
    refine bsl (vals := ([.int .u8 (111 : Int), .int .u8 (116 : Int), .int .u8 (104 : Int), .int .u8 (101 : Int), .int .u8 (114 : Int), .int .u8 (58 : Int)] : List Value)) (T := 5) ha rfl (([.int .u8 (111 : Int)] : List Value) ++ (([.int .u8 (116 : Int)] : List Value) ++ (([.int .u8 (104 : Int)] : List Value) ++ (([.int .u8 (101 : Int)] : List Value) ++ (([.int .u8 (114 : Int)] : List Value) ++ (([.int .u8 (58 : Int)] : List Value) ++ ([] : List Value))))))) (fun w => by kernel_rfl) rfl rfl rfl fun a w53 g54 hN55 ha => ?_
    have o1 : Ok [] ([g3] ++ (M)) w8.heap.size := Ok.nil _ _
    have o2 : Ok ([g54] ++ ([g3] ++ (M))) ([g3] ++ (M)) w8.heap.size := (Ok.app (hN55.ok _) (Ok.refl _ _))
    have hG := hG.chg hN55.chg o1 o2
    have hBg3 := hBg3.chg hN55.chg (fun h => nomatch h)
    have p_i56_i5 : ∀ x ∈ [g54], x ∉ ([g3]) := fun x hx hy => absurd (hM x (ml hy)) (Nat.not_lt.2 ((hN55.ge1) x hx))
    have p_i56_M : ∀ x ∈ [g54], x ∉ M := fun x hx hy => absurd (hM x (mr (hy))) (Nat.not_lt.2 ((hN55.ge1) x hx))
    have e_i56 : ∀ x ∈ [g54], w.heap.size ≤ x := fun x hx => Nat.le_trans hC.size ((hN55.ge1) x hx)
    have hM : MS ([g54] ++ ([g3] ++ (M))) w53 := (MS.app hN55.ms (hM.chg hN55.chg))
    have hC := hC.trans hN55.chg (Ok.nil _ _)
    have f57 : Own (rInt .u8) 5 w53 ([g54] ++ ([g3] ++ (M))) (some ⟨g54, 0, none⟩) 6 ([(111 : Int), (116 : Int), (104 : Int), (101 : Int), (114 : Int), (58 : Int)] : List Int) := hN55.own ⟨([.int .u8 (111 : Int)] : List Value), _, rfl, rfl, ⟨([.int .u8 (116 : Int)] : List Value), _, rfl, rfl, ⟨([.int .u8 (104 : Int)] : List Value), _, rfl, rfl, ⟨([.int .u8 (101 : Int)] : List Value), _, rfl, rfl, ⟨([.int .u8 (114 : Int)] : List Value), _, rfl, rfl, ⟨([.int .u8 (58 : Int)] : List Value), _, rfl, rfl, rfl⟩⟩⟩⟩⟩⟩ (Nat.le_of_ble_eq_true rfl)
    refine cvl ha rfl (by kernel_rfl) (by kernel_rfl) rfl rfl rfl f57 fun a w58 hc59 hL60 ha => ?_
    have hOk60 : Ok [g54] ([g54] ++ ([g3] ++ (M))) w53.heap.size := (fun _ h => .inl (ml h))
    have hLt60 := f57.lt
    have o1 : Ok [g54] ([g54] ++ ([g3] ++ (M))) w53.heap.size := (fun _ h => .inl (ml h))
    have o2 : Ok ([g54] ++ ([g3] ++ (M))) ([g54] ++ ([g3] ++ (M))) w53.heap.size := (Ok.refl _ _)
    have hG := hG.chg hc59 o1 o2
    have hBg3 := hBg3.chg hc59 ((fun x (hx : x ∈ [g3]) (hy : x ∈ [g54]) => p_i56_i5 x hy hx) g3 (by simp))
    have hM : MS ([g54] ++ ([g3] ++ (M))) w58 := (hM.chg hc59)
    have hC := hC.trans hc59 (fun x h => .inr (e_i56 x h))
    have f60 : OwnW .u8 5 w58 ([g54] ++ ([g3] ++ (M))) (some ⟨g54, 0, none⟩) 6 ([(111 : Int), (116 : Int), (104 : Int), (101 : Int), (114 : Int), (58 : Int)] : List Int) := .inr ⟨rfl, g54, rfl, ml (by simp [blkL]), Nat.lt_of_lt_of_le (hLt60 _ (by simp [blkL])) hc59.size, hL60 _ butL_self⟩
    refine seg ha 1 [(1, .pointer (some ⟨g3, 0, none⟩)), (9, .slice (some ⟨g54, 0, none⟩) ([(111 : Int), (116 : Int), (104 : Int), (101 : Int), (114 : Int), (58 : Int)] : List Int).length 6)] (by kernel_rfl) fun a ha => ?_
    refine hK52 _ _ ?_; try clear hK52 K52
    refine wp_seq_k fun K61 hK61 => ?_
    refine wp_seq_k fun K62 hK62 => ?_
    refine wp_region_lit ?_
    refine ldA (cs := (cA .u8 8 a0)) ha rfl (by kernel_rfl) rfl rfl rfl (cells_sub (Box.cells hBg3) (all := (cA .u8 8 a0)) [] [] (by kernel_rfl)) fun a ha => ?_
    refine seg ha 1 [(9, .slice (some ⟨g54, 0, none⟩) ([(111 : Int), (116 : Int), (104 : Int), (101 : Int), (114 : Int), (58 : Int)] : List Int).length 6), (52, .agg (cA .u8 8 a0).toArray), (53, .int .i64 (0 : Int))] (by kernel_rfl) fun a ha => ?_
    refine hK62 _ _ ?_; try clear hK62 K62
    refine wp_block ?_
    obtain ⟨s63, H63, H⟩ := bind_some H
    have J63 : ∀ (a : Act) (wx63 : World) (ao67 : Option Addr) (cap67 : Nat), Has a Tryd.f11.ntmps [(9, .slice ao67 s63.length cap67)] → (OwnW .u8 5 wx63 (blkL ao67 ++ ([g3] ++ (M))) ao67 cap67 s63) → (Box wx63 g3 (cA .u8 8 a0)) → (∀ x ∈ blkL ao67, w.heap.size ≤ x) → (∀ x ∈ blkL ao67, x ∉ [g3]) → (∀ x ∈ blkL ao67, x ∉ M) → (GF wx63 (blkL ao67 ++ ([g3] ++ (M)))) → (Chg [] w wx63) → (MS (blkL ao67 ++ ([g3] ++ (M))) wx63) → K61 a wx63 := by
     intro a wx63 ao67 cap67 ha f67 hBg3 e_i67 p_i67_i5 p_i67_M hG hC hM
     refine hK61 _ _ ?_; try clear hK61 K61
     refine wp_seq_k fun K68 hK68 => ?_
     refine wp_region_lit ?_
     refine seg ha 1 [(66, .slice ao67 s63.length cap67)] (by kernel_rfl) fun a ha => ?_
     refine cvs ha rfl (by kernel_rfl) (by kernel_rfl) (by kernel_rfl) rfl rfl rfl (OwnW.toRSl (M' := []) f67 (Ok.nil _ _) (fun _ _ h => nomatch h)) fun a ha => ?_
     refine seg ha 1 [(2, .string (bstr (b2s s63)))] (by kernel_rfl) fun a ha => ?_
     refine hK68 _ _ ?_; try clear hK68 K68
     refine wp_ret ?_
     try simp only [Exit.then, Exit.inBlock]
     have o1 : Ok [] (blkL ao67 ++ ([g3] ++ (M))) wx63.heap.size := Ok.nil _ _
     have o2 : Ok (M) (blkL ao67 ++ ([g3] ++ (M))) wx63.heap.size := (fun _ h => .inl (mr (mr (h))))
     have hG := hG.chg (Chg.refl [] _) o1 o2
     have hBg3 := hBg3.chg (Chg.refl [] _) (fun h => nomatch h)
     have hM : MS (M) wx63 := (fun x h => hM.chg (Chg.refl [] _) x (mr (mr (h))))
     have hC := hC.trans (Chg.refl [] _) (Ok.nil _ _)
     obtain rfl := Option.some.inj H
     refine rt1 ha rfl rfl ?_
     exact ⟨rfl, hC, hM⟩
    have Hc63 := H
    have H := H63
    refine wp_loop_ghost (fun kk a w63 => ∃ (x65 : List Int) (x66 : Int) (ao64 : Option Addr) (cap64 : Nat), community_Text.l0 a0 kk x65 x66 = some s63 ∧ Has a Tryd.f11.ntmps [(9, .slice ao64 x65.length cap64), (52, .agg (cA .u8 8 a0).toArray), (53, .int .i64 x66)] ∧ (OwnW .u8 5 w63 (blkL ao64 ++ ([g3] ++ (M))) ao64 cap64 x65) ∧ (Box w63 g3 (cA .u8 8 a0)) ∧ (∀ x ∈ blkL ao64, w.heap.size ≤ x) ∧ (∀ x ∈ blkL ao64, x ∉ [g3]) ∧ (∀ x ∈ blkL ao64, x ∉ M) ∧ (GF w63 (blkL ao64 ++ ([g3] ++ (M)))) ∧ (Chg [] w w63) ∧ (MS (blkL ao64 ++ ([g3] ++ (M))) w63)) k ?_ ?_
    ·skip
     exact ⟨([(111 : Int), (116 : Int), (104 : Int), (101 : Int), (114 : Int), (58 : Int)] : List Int), (0 : Int), (some ⟨g54, 0, none⟩), 6, H, (ha.sel (by kernel_rfl)), f60, hBg3, e_i56, p_i56_i5, p_i56_M, hG, hC, hM⟩
    ·rintro kk a w63 ⟨x65, x66, ao64, cap64, H, ha, f64, hBg3, e_i64, p_i64_i5, p_i64_M, hG, hC, hM⟩
     obtain _ | kk := kk
     ·exact nomatch (show none = some _ from H)
     rw [community_Text.l0] at H
     refine wp_seq_k fun K69 hK69 => ?_
     refine wp_region_lit ?_
     refine seg ha 1 [(9, .slice ao64 x65.length cap64), (52, .agg (cA .u8 8 a0).toArray), (53, .int .i64 x66), (54, .bool (decide (x66 < (8 : Int))))] (by kernel_rfl) fun a ha => ?_
     refine hK69 _ _ ?_; try clear hK69 K69
     refine wp_seq_k fun K70 hK70 => ?_
     refine cnd ha rfl (fun hc71 => ?_) (fun hc71 => ?_)
     ·have H := ite_t hc71 H
      refine wp_skip ?_
      refine hK70 _ _ ?_; try clear hK70 K70
      refine wp_seq_k fun K72 hK72 => ?_
      refine wp_block ?_
      refine wp_seq_k fun K73 hK73 => ?_
      refine wp_region_lit ?_
      obtain ⟨⟨hx74, hx74'⟩, H⟩ := ite_some H
      refine hop (v := .int .u8 (ar a0 (Int.toNat x66))) (w' := w63) ha rfl rfl rfl (aidx_run (T := 5) (N := 8) (kk := .u8) (l := a0) (k := .i64) (i := x66) ha (by kernel_rfl) (by kernel_rfl) (by kernel_rfl) (by rfl) (by rfl) hx74 hx74' _) fun a ha => ?_
      refine seg ha 1 [(9, .slice ao64 x65.length cap64), (11, .int .u8 (ar a0 (Int.toNat x66))), (52, .agg (cA .u8 8 a0).toArray), (53, .int .i64 x66)] (by kernel_rfl) fun a ha => ?_
      refine hK73 _ _ ?_; try clear hK73 K73
      have okS : Ok (blkL ao64) (blkL ao64 ++ ([g3] ++ (M))) w63.heap.size := (fun _ h => .inl (ml h))
      have z_hBg3 := hBg3
      refine drw (fun w' => Chg (blkL ao64) w63 w') (by kernel_rfl) fun w75 hc76 _ => ?_
      have hS : Chg (blkL ao64) w63 w75 := (Chg.refl (blkL ao64) _).trans hc76 (Ok.nil _ _)
      have o1 : Ok [] (blkL ao64 ++ ([g3] ++ (M))) w63.heap.size := Ok.nil _ _
      have o2 : Ok (blkL ao64 ++ ([g3] ++ (M))) (blkL ao64 ++ ([g3] ++ (M))) w63.heap.size := (Ok.refl _ _)
      have hG := hG.chg hc76 o1 o2
      have f64 := f64.chg hc76 o1 o2 (fun _ _ h => nomatch h) (fun _ h => ml h)
      have hBg3 := hBg3.chg hc76 (fun h => nomatch h)
      have hM : MS (blkL ao64 ++ ([g3] ++ (M))) w75 := (hM.chg hc76)
      have hC := hC.trans hc76 (Ok.nil _ _)
      refine tkpz 0 0 (.slice ao64 x65.length cap64) ha (s := hS) (q := fun a ha => ?_)
      refine tkpz 1 0 (.int .u8 (ar a0 (Int.toNat x66))) ha (s := hS) (q := fun a ha => ?_)
      refine tkpz 2 0 (.int .u8 (Int.fdiv (ar a0 (Int.toNat x66)) (2 ^ (min (4 : Int).toNat IntKind.u8.bits)))) ha (s := hS) (q := fun a ha => ?_)
      obtain ⟨⟨hx77, hx77'⟩, H⟩ := ite_some H
      refine tkz 3 ha (v := .int .u8 ((([48, 49, 50, 51, 52, 53, 54, 55, 56, 57, 97, 98, 99, 100, 101, 102] : List UInt8).getD (Int.toNat (Int.fdiv (ar a0 (Int.toNat x66)) (2 ^ (min (4 : Int).toNat IntKind.u8.bits)))) 0).toNat : Int)) (y := fun w' hs => sidx_run (l := ([48, 49, 50, 51, 52, 53, 54, 55, 56, 57, 97, 98, 99, 100, 101, 102] : List UInt8)) (k := .u8) (i := Int.fdiv (ar a0 (Int.toNat x66)) (2 ^ (min (4 : Int).toNat IntKind.u8.bits))) ha (by kernel_rfl) (by rfl) (by rfl) hx77 hx77' w') (s := hS) (q := fun a ha => ?_)
      refine tkpz 4 0 (.int .u8 (ar a0 (Int.toNat x66))) ha (s := hS) (q := fun a ha => ?_)
      refine tkpz 5 0 (.int .u8 (IntKind.u8.wrap (BitVec.ofInt IntKind.u8.bits (ar a0 (Int.toNat x66)) &&& BitVec.ofInt IntKind.u8.bits (15 : Int)).toNat)) ha (s := hS) (q := fun a ha => ?_)
      obtain ⟨⟨hx78, hx78'⟩, H⟩ := ite_some H
      refine tkz 6 ha (v := .int .u8 ((([48, 49, 50, 51, 52, 53, 54, 55, 56, 57, 97, 98, 99, 100, 101, 102] : List UInt8).getD (Int.toNat (IntKind.u8.wrap (BitVec.ofInt IntKind.u8.bits (ar a0 (Int.toNat x66)) &&& BitVec.ofInt IntKind.u8.bits (15 : Int)).toNat)) 0).toNat : Int)) (y := fun w' hs => sidx_run (l := ([48, 49, 50, 51, 52, 53, 54, 55, 56, 57, 97, 98, 99, 100, 101, 102] : List UInt8)) (k := .u8) (i := IntKind.u8.wrap (BitVec.ofInt IntKind.u8.bits (ar a0 (Int.toNat x66)) &&& BitVec.ofInt IntKind.u8.bits (15 : Int)).toNat) ha (by kernel_rfl) (by rfl) (by rfl) hx78 hx78' w') (s := hS) (q := fun a ha => ?_)
      refine ac 7 (by kernel_rfl) (by rfl) fun K79 hK79 => ?_
      refine bsl (vals := ([.int .u8 ((([48, 49, 50, 51, 52, 53, 54, 55, 56, 57, 97, 98, 99, 100, 101, 102] : List UInt8).getD (Int.toNat (Int.fdiv (ar a0 (Int.toNat x66)) (2 ^ (min (4 : Int).toNat IntKind.u8.bits)))) 0).toNat : Int), .int .u8 ((([48, 49, 50, 51, 52, 53, 54, 55, 56, 57, 97, 98, 99, 100, 101, 102] : List UInt8).getD (Int.toNat (IntKind.u8.wrap (BitVec.ofInt IntKind.u8.bits (ar a0 (Int.toNat x66)) &&& BitVec.ofInt IntKind.u8.bits (15 : Int)).toNat)) 0).toNat : Int)] : List Value)) (T := 5) ha rfl (([.int .u8 ((([48, 49, 50, 51, 52, 53, 54, 55, 56, 57, 97, 98, 99, 100, 101, 102] : List UInt8).getD (Int.toNat (Int.fdiv (ar a0 (Int.toNat x66)) (2 ^ (min (4 : Int).toNat IntKind.u8.bits)))) 0).toNat : Int)] : List Value) ++ (([.int .u8 ((([48, 49, 50, 51, 52, 53, 54, 55, 56, 57, 97, 98, 99, 100, 101, 102] : List UInt8).getD (Int.toNat (IntKind.u8.wrap (BitVec.ofInt IntKind.u8.bits (ar a0 (Int.toNat x66)) &&& BitVec.ofInt IntKind.u8.bits (15 : Int)).toNat)) 0).toNat : Int)] : List Value) ++ ([] : List Value))) (fun w => by kernel_rfl) rfl rfl rfl fun a w80 g81 hN82 ha => ?_
      have o1 : Ok [] (blkL ao64 ++ ([g3] ++ (M))) w75.heap.size := Ok.nil _ _
      have o2 : Ok ([g81] ++ (blkL ao64 ++ ([g3] ++ (M)))) (blkL ao64 ++ ([g3] ++ (M))) w75.heap.size := (Ok.app (hN82.ok _) (Ok.refl _ _))
      have hG := hG.chg hN82.chg o1 o2
      have f64 := f64.chg hN82.chg o1 o2 (fun _ _ h => nomatch h) (fun _ h => mr (ml h))
      have hBg3 := hBg3.chg hN82.chg (fun h => nomatch h)
      have p_iD000083_i64 : ∀ x ∈ [g81], x ∉ (blkL ao64) := fun x hx hy => absurd (hM x (ml hy)) (Nat.not_lt.2 ((hN82.ge1) x hx))
      have p_iD000083_i5 : ∀ x ∈ [g81], x ∉ ([g3]) := fun x hx hy => absurd (hM x (mr (ml hy))) (Nat.not_lt.2 ((hN82.ge1) x hx))
      have p_iD000083_M : ∀ x ∈ [g81], x ∉ M := fun x hx hy => absurd (hM x (mr (mr (hy)))) (Nat.not_lt.2 ((hN82.ge1) x hx))
      have e_iD000083 : ∀ x ∈ [g81], w.heap.size ≤ x := fun x hx => Nat.le_trans hC.size ((hN82.ge1) x hx)
      have hM : MS ([g81] ++ (blkL ao64 ++ ([g3] ++ (M)))) w80 := (MS.app hN82.ms (hM.chg hN82.chg))
      have hC := hC.trans hN82.chg (Ok.nil _ _)
      have d_iD000083 : Ok ([g81]) (blkL ao64) w63.heap.size := fun x hx => .inr (Nat.le_trans hS.size ((hN82.ge1) x hx))
      have hS := hS.trans hN82.chg (Ok.nil _ _)
      have f84 : Own (rInt .u8) 5 w80 ([g81] ++ (blkL ao64 ++ ([g3] ++ (M)))) (some ⟨g81, 0, none⟩) 2 ([((([48, 49, 50, 51, 52, 53, 54, 55, 56, 57, 97, 98, 99, 100, 101, 102] : List UInt8).getD (Int.toNat (Int.fdiv (ar a0 (Int.toNat x66)) (2 ^ (min (4 : Int).toNat IntKind.u8.bits)))) 0).toNat : Int), ((([48, 49, 50, 51, 52, 53, 54, 55, 56, 57, 97, 98, 99, 100, 101, 102] : List UInt8).getD (Int.toNat (IntKind.u8.wrap (BitVec.ofInt IntKind.u8.bits (ar a0 (Int.toNat x66)) &&& BitVec.ofInt IntKind.u8.bits (15 : Int)).toNat)) 0).toNat : Int)] : List Int) := hN82.own ⟨([.int .u8 ((([48, 49, 50, 51, 52, 53, 54, 55, 56, 57, 97, 98, 99, 100, 101, 102] : List UInt8).getD (Int.toNat (Int.fdiv (ar a0 (Int.toNat x66)) (2 ^ (min (4 : Int).toNat IntKind.u8.bits)))) 0).toNat : Int)] : List Value), _, rfl, rfl, ⟨([.int .u8 ((([48, 49, 50, 51, 52, 53, 54, 55, 56, 57, 97, 98, 99, 100, 101, 102] : List UInt8).getD (Int.toNat (IntKind.u8.wrap (BitVec.ofInt IntKind.u8.bits (ar a0 (Int.toNat x66)) &&& BitVec.ofInt IntKind.u8.bits (15 : Int)).toNat)) 0).toNat : Int)] : List Value), _, rfl, rfl, rfl⟩⟩ (Nat.le_of_ble_eq_true rfl)
      refine ae hK79 hS ?_; clear hK79 K79
      refine ac 8 (by kernel_rfl) (by rfl) fun K85 hK85 => ?_
      obtain ⟨hx86, H⟩ := ite_some H
      refine appW (k := .u8) (xs := x65) (ys := ([((([48, 49, 50, 51, 52, 53, 54, 55, 56, 57, 97, 98, 99, 100, 101, 102] : List UInt8).getD (Int.toNat (Int.fdiv (ar a0 (Int.toNat x66)) (2 ^ (min (4 : Int).toNat IntKind.u8.bits)))) 0).toNat : Int), ((([48, 49, 50, 51, 52, 53, 54, 55, 56, 57, 97, 98, 99, 100, 101, 102] : List UInt8).getD (Int.toNat (IntKind.u8.wrap (BitVec.ofInt IntKind.u8.bits (ar a0 (Int.toNat x66)) &&& BitVec.ofInt IntKind.u8.bits (15 : Int)).toNat)) 0).toNat : Int)] : List Int)) ha (ElemT.mk' (bytes := 1) (by kernel_rfl)) rfl rfl rfl rfl rfl f64 f84.src hx86 (by decide) (by simp) fun a w87 ao88 cap88 hO88 hc88 hk88 hl88 ha => ?_
      have o1 : Ok (blkL ao64) ([g81] ++ (blkL ao64 ++ ([g3] ++ (M)))) w80.heap.size := (fun _ h => .inl (mr (ml h)))
      have o2 : Ok (blkL ao88 ++ ([g81] ++ ([g3] ++ (M)))) ([g81] ++ (blkL ao64 ++ ([g3] ++ (M)))) w80.heap.size := (Ok.app (Ok.to hk88 (fun _ h => mr (ml h))) (Ok.app (fun _ h => .inl (ml h)) (fun _ h => .inl (mr (mr (h))))))
      have hG := hG.chg hc88 o1 o2
      have f84 := f84.chg hc88 o1 o2 p_iD000083_i64 (fun _ h => mr (ml h))
      have hBg3 := hBg3.chg hc88 ((fun x (hx : x ∈ [g3]) (hy : x ∈ blkL ao64) => p_i64_i5 x hy hx) g3 (by simp))
      have p_iD000088_iD000083 : ∀ x ∈ blkL ao88, x ∉ ([g81]) := fun x hx hy => (hk88 x hx).elim (fun h => (fun x hx hy => p_iD000083_i64 x hy hx) x h hy) (fun h => absurd (hM x (ml hy)) (Nat.not_lt.2 h))
      have p_iD000088_i5 : ∀ x ∈ blkL ao88, x ∉ ([g3]) := fun x hx hy => (hk88 x hx).elim (fun h => p_i64_i5 x h hy) (fun h => absurd (hM x (mr (mr (ml hy)))) (Nat.not_lt.2 h))
      have p_iD000088_M : ∀ x ∈ blkL ao88, x ∉ M := fun x hx hy => (hk88 x hx).elim (fun h => p_i64_M x h hy) (fun h => absurd (hM x (mr (mr (mr (hy))))) (Nat.not_lt.2 h))
      have e_iD000088 : ∀ x ∈ blkL ao88, w.heap.size ≤ x := fun x hx => (hk88 x hx).elim (e_i64 x) (Nat.le_trans hC.size)
      have hM : MS (blkL ao88 ++ ([g81] ++ ([g3] ++ (M)))) w87 := (MS.app hl88 (MS.app (fun x h => hM.chg hc88 x (ml h)) (fun x h => hM.chg hc88 x (mr (mr (h))))))
      have hC := hC.trans hc88 (fun x h => .inr (e_i64 x h))
      have d_iD000088 : Ok (blkL ao88) (blkL ao64) w63.heap.size := fun x hx => (hk88 x hx).elim (fun h => .inl (h)) (fun h => .inr (Nat.le_trans hS.size h))
      have hS := hS.trans hc88 (fun x h => .inl (h))
      have f88 := hO88.chg (M' := blkL ao88 ++ ([g81] ++ ([g3] ++ (M)))) (Chg.refl [] _) (Ok.nil _ _) (Ok.app (fun _ h => .inl (ml h)) (Ok.to (Ok.app (fun _ h => .inl (ml h)) (fun _ h => .inl (mr (mr (h))))) (fun _ h => mr h))) (fun _ _ h => nomatch h) (fun _ h => ml h)
      refine ae hK85 hS ?_; clear hK85 K85
      refine tkpz 9 0 (.slice ao88 (x65 ++ ([((([48, 49, 50, 51, 52, 53, 54, 55, 56, 57, 97, 98, 99, 100, 101, 102] : List UInt8).getD (Int.toNat (Int.fdiv (ar a0 (Int.toNat x66)) (2 ^ (min (4 : Int).toNat IntKind.u8.bits)))) 0).toNat : Int), ((([48, 49, 50, 51, 52, 53, 54, 55, 56, 57, 97, 98, 99, 100, 101, 102] : List UInt8).getD (Int.toNat (IntKind.u8.wrap (BitVec.ofInt IntKind.u8.bits (ar a0 (Int.toNat x66)) &&& BitVec.ofInt IntKind.u8.bits (15 : Int)).toNat)) 0).toNat : Int)] : List Int)).length cap88) ha (s := hS) (q := fun a ha => ?_)
      refine dn (by kernel_rfl) ?_
      refine hK72 _ _ ?_; try clear hK72 K72
      refine wp_region_lit ?_
      refine seg ha 2 [(9, .slice ao88 (x65 ++ ([((([48, 49, 50, 51, 52, 53, 54, 55, 56, 57, 97, 98, 99, 100, 101, 102] : List UInt8).getD (Int.toNat (Int.fdiv (ar a0 (Int.toNat x66)) (2 ^ (min (4 : Int).toNat IntKind.u8.bits)))) 0).toNat : Int), ((([48, 49, 50, 51, 52, 53, 54, 55, 56, 57, 97, 98, 99, 100, 101, 102] : List UInt8).getD (Int.toNat (IntKind.u8.wrap (BitVec.ofInt IntKind.u8.bits (ar a0 (Int.toNat x66)) &&& BitVec.ofInt IntKind.u8.bits (15 : Int)).toNat)) 0).toNat : Int)] : List Int)).length cap88), (52, .agg (cA .u8 8 a0).toArray), (53, .int .i64 (IntKind.i64.wrap (x66 + (1 : Int))))] (by kernel_rfl) fun a ha => ?_
      have o1 : Ok [] (blkL ao88 ++ ([g81] ++ ([g3] ++ (M)))) w87.heap.size := Ok.nil _ _
      have o2 : Ok (blkL ao88 ++ ([g3] ++ (M))) (blkL ao88 ++ ([g81] ++ ([g3] ++ (M)))) w87.heap.size := (Ok.app (fun _ h => .inl (ml h)) (fun _ h => .inl (mr (mr (h)))))
      have hG := hG.chg (Chg.refl [] _) o1 o2
      have f88 := f88.chg (Chg.refl [] _) o1 o2 (fun _ _ h => nomatch h) (fun _ h => ml h)
      have hBg3 := hBg3.chg (Chg.refl [] _) (fun h => nomatch h)
      have hM : MS (blkL ao88 ++ ([g3] ++ (M))) w87 := (MS.app (fun x h => hM.chg (Chg.refl [] _) x (ml h)) (fun x h => hM.chg (Chg.refl [] _) x (mr (mr (h)))))
      have hC := hC.trans (Chg.refl [] _) (Ok.nil _ _)
      exact ⟨kk, Nat.lt_succ_self _, ⟨(x65 ++ ([((([48, 49, 50, 51, 52, 53, 54, 55, 56, 57, 97, 98, 99, 100, 101, 102] : List UInt8).getD (Int.toNat (Int.fdiv (ar a0 (Int.toNat x66)) (2 ^ (min (4 : Int).toNat IntKind.u8.bits)))) 0).toNat : Int), ((([48, 49, 50, 51, 52, 53, 54, 55, 56, 57, 97, 98, 99, 100, 101, 102] : List UInt8).getD (Int.toNat (IntKind.u8.wrap (BitVec.ofInt IntKind.u8.bits (ar a0 (Int.toNat x66)) &&& BitVec.ofInt IntKind.u8.bits (15 : Int)).toNat)) 0).toNat : Int)] : List Int)), IntKind.i64.wrap (x66 + (1 : Int)), ao88, cap88, H, (ha.sel (by kernel_rfl)), f88, hBg3, e_iD000088, p_iD000088_i5, p_iD000088_M, hG, hC, hM⟩⟩
     ·have H := ite_f hc71 H
      refine wp_exit ?_
      simp only [Exit.then, Exit.inBlock, ↓reduceIte, Nat.reduceEqDiff]
      obtain rfl := Option.some.inj H
      exact J63 _ _ ao64 cap64 (ha.sel (by kernel_rfl)) f64 hBg3 e_i64 p_i64_i5 p_i64_M hG hC hM
def slices_Index_Ext.l0 (a0 : List (List Int)) (a1 : List Int) : Nat → Int → Option ((Int) ⊕ (Unit))
  | 0, _ => none
  | kk + 1, x11 => (if (decide (x11 < (a0.length : Int))) = true then (if 0 ≤ x11 ∧ x11 < (a0.length : Int) then (if (eqA 8 a1 (rd a0 x11)) = true then some (.inl ((x11 : Int))) else slices_Index_Ext.l0 a0 a1 kk (IntKind.i64.wrap (x11 + (1 : Int)))) else none) else some (.inr (() : Unit)))
def slices_Index_Ext.f (k : Nat) (a0 : List (List Int)) (a1 : List Int) : Option (Int) := (slices_Index_Ext.l0 a0 a1 k (0 : Int)).bind fun s10 => match s10 with | .inl r => some r | .inr s10' => some (((-1 : Int) : Int))
set_option maxRecDepth 100000 in
theorem slices_Index_Ext.walk (w : World) (M : List Nat) (hM : MS M w) (a0 : List (List Int)) (ao1 : Option Addr) (cap1 : Nat) (f1 : RSl (rArr .u8 8) 27 w M ao1 cap1 a0) (a1 : List Int) (k : Nat) (r : Int) (H : slices_Index_Ext.f k a0 a1 = some r) :
    To Tryd.prog 34 [.slice ao1 a0.length cap1, .agg (cA .u8 8 a1).toArray] w fun v w' => v = .int .i64 r ∧ Chg [] w w' ∧ MS (M) w' := by
 unfold slices_Index_Ext.f at H
 refine ent Tryd.func34 rfl [(0, .slice ao1 a0.length cap1), (1, .agg (cA .u8 8 a1).toArray)] rfl (by rfl) fun a ha => ?_
 have hC : Chg [] w w := Chg.refl _ _
 refine wp_seq_k fun K2 hK2 => ?_
 refine wp_region_lit ?_
 refine bx (cs := (cA .u8 8 a1)) ha rfl rfl rfl rfl rfl fun a w3 g4 hN5 ha => ?_
 have hn7 := hN5.notin hM
 have o1 : Ok [] (M) w.heap.size := Ok.nil _ _
 have o2 : Ok (M) (M) w.heap.size := (Ok.refl _ _)
 have f1 := f1.chg hN5.chg o1 o2
 have hM : MS (M) w3 := (hM.chg hN5.chg)
 have hC := hC.trans hN5.chg (Ok.nil _ _)
 have hE6 : ∀ j v, (cA .u8 8 a1)[j]? = some v → w3.cell? ⟨g4, 0 + j, none⟩ = some v := Box.cells (New.box hN5)
 refine seg ha 1 [(0, .slice ao1 a0.length cap1), (3, .pointer (some ⟨g4, 0, none⟩))] (by kernel_rfl) fun a ha => ?_
 refine hK2 _ _ ?_; try clear hK2 K2
 refine wp_seq_k fun K8 hK8 => ?_
 refine wp_seq_k fun K9 hK9 => ?_
 refine wp_region_lit ?_
 refine seg ha 3 [(0, .slice ao1 a0.length cap1), (3, .pointer (some ⟨g4, 0, none⟩)), (7, .int .i64 (a0.length : Int)), (8, .int .i64 (0 : Int))] (by kernel_rfl) fun a ha => ?_
 refine hK9 _ _ ?_; try clear hK9 K9
 refine wp_block ?_
 obtain ⟨s10, H10, H⟩ := bind_some H
 have J10 : ∀ s10' (a : Act) (wx10 : World), s10 = .inr s10' → Has a Tryd.f34.ntmps [] → (Chg [] w wx10) → (MS (M) wx10) → K8 a wx10 := by
  intro s10' a wx10 hs ha hC hM
  subst hs
  refine hK8 _ _ ?_; try clear hK8 K8
  refine wp_seq_k fun K12 hK12 => ?_
  refine wp_region_lit ?_
  refine seg ha 1 [(4, .int .i64 (-1 : Int))] (by kernel_rfl) fun a ha => ?_
  refine hK12 _ _ ?_; try clear hK12 K12
  refine wp_ret ?_
  try simp only [Exit.then, Exit.inBlock]
  obtain rfl := Option.some.inj H
  refine rt1 ha rfl rfl ?_
  exact ⟨rfl, hC, hM⟩
 have Hc10 := H
 have H := H10
 refine wp_loop_ghost (fun kk a w10 => ∃ (x11 : Int), slices_Index_Ext.l0 a0 a1 kk x11 = some s10 ∧ Has a Tryd.f34.ntmps [(0, .slice ao1 a0.length cap1), (3, .pointer (some ⟨g4, 0, none⟩)), (7, .int .i64 (a0.length : Int)), (8, .int .i64 x11)] ∧ (RSl (rArr .u8 8) 27 w10 (M) ao1 cap1 a0) ∧ (∀ j v, (cA .u8 8 a1)[j]? = some v → w10.cell? ⟨g4, 0 + j, none⟩ = some v) ∧ (g4 ∉ (M)) ∧ (Chg [] w w10) ∧ (MS (M) w10)) k ?_ ?_
 ·skip
  exact ⟨(0 : Int), H, (ha.sel (by kernel_rfl)), f1, hE6, hn7, hC, hM⟩
 ·rintro kk a w10 ⟨x11, H, ha, f1, hE6, hn7, hC, hM⟩
  obtain _ | kk := kk
  ·exact nomatch (show none = some _ from H)
  rw [slices_Index_Ext.l0] at H
  refine wp_seq_k fun K13 hK13 => ?_
  refine wp_region_lit ?_
  refine seg ha 1 [(0, .slice ao1 a0.length cap1), (3, .pointer (some ⟨g4, 0, none⟩)), (7, .int .i64 (a0.length : Int)), (8, .int .i64 x11), (9, .bool (decide (x11 < (a0.length : Int))))] (by kernel_rfl) fun a ha => ?_
  refine hK13 _ _ ?_; try clear hK13 K13
  refine wp_seq_k fun K14 hK14 => ?_
  refine cnd ha rfl (fun hc15 => ?_) (fun hc15 => ?_)
  ·have H := ite_t hc15 H
   refine wp_skip ?_
   refine hK14 _ _ ?_; try clear hK14 K14
   refine wp_seq_k fun K16 hK16 => ?_
   refine wp_block ?_
   refine wp_seq_k fun K17 hK17 => ?_
   refine wp_region_lit ?_
   refine seg ha 2 [(0, .slice ao1 a0.length cap1), (3, .pointer (some ⟨g4, 0, none⟩)), (5, .int .i64 x11), (7, .int .i64 (a0.length : Int)), (8, .int .i64 x11)] (by kernel_rfl) fun a ha => ?_
   refine hK17 _ _ ?_; try clear hK17 K17
   refine wp_seq_k fun K18 hK18 => ?_
   refine drq0 (fun w' => Chg [] w10 w') (by kernel_rfl) (by kernel_rfl) (fun _ h => h) ?_
   refine qv (v := .agg (cA .u8 8 a1).toArray) ha rfl rfl rfl (fun w' hs => ldA_run (cs := (cA .u8 8 a1)) ha rfl (by kernel_rfl) (cells_sub (fun j v hv => hs.keep (hE6 j v hv)) (all := (cA .u8 8 a1)) [] [] (by kernel_rfl))) fun a ha => ?_
   refine qp 0 (.slice ao1 a0.length cap1) ha rfl rfl rfl (by kernel_rfl) fun a ha => ?_
   refine qp 0 (.int .i64 x11) ha rfl rfl rfl (by kernel_rfl) fun a ha => ?_
   obtain ⟨⟨hx19, hx19'⟩, H⟩ := ite_some H
   obtain ⟨ge20, oe210, cs22, hx19eq, hn25, hR23, hE24⟩ := RSl.elem f1 (Int.toNat x11) (by omega)
   rw [rd_get] at hR23
   obtain rfl := hR23
   have hE24 : ∀ j v, (cA .u8 8 (rd a0 x11))[j]? = some v → w10.cell? ⟨ge20, (oe210 + (Int.toNat x11) * (rArr .u8 8).sz) + j, none⟩ = some v := hE24
   refine qv (v := .pointer (some ⟨ge20, (oe210 + (Int.toNat x11) * (rArr .u8 8).sz), none⟩)) ha rfl rfl rfl (fun w' hs => ix_run (r := (rArr .u8 8)) (T := 27) ha (by kernel_rfl) (by kernel_rfl) (by rfl) (by rfl) hx19eq hx19 hx19') fun a ha => ?_
   refine qv (v := .agg (cA .u8 8 (rd a0 x11)).toArray) ha rfl rfl rfl (fun w' hs => ldA_run (cs := (cA .u8 8 (rd a0 x11))) ha rfl (by kernel_rfl) (cells_sub (fun j v hv => hs.keep (hE24 j v hv)) (all := (cA .u8 8 (rd a0 x11))) [] [] (by kernel_rfl))) fun a ha => ?_
   refine qv (v := .bool (eqA 8 a1 (rd a0 x11))) ha rfl rfl rfl (fun w' hs => eqs_run (r := (eqA 8 a1 (rd a0 x11))) (m := 9) ha rfl rfl (by kernel_rfl) rfl (by kernel_rfl) w') fun a ha => ?_
   refine wpQuiet_nil ?_
   intro w26 hc27
   have o1 : Ok [] (M) w10.heap.size := Ok.nil _ _
   have o2 : Ok (M) (M) w10.heap.size := (Ok.refl _ _)
   have f1 := f1.chg hc27 o1 o2
   have q_hn7 : g4 ∉ M := fun h => (o2 g4 h).elim hn7 (fun h => absurd (lt_cell (hE6 0 _ rfl)) (Nat.not_lt.2 h))
   have hE6 : ∀ j v, (cA .u8 8 a1)[j]? = some v → w26.cell? ⟨g4, 0 + j, none⟩ = some v := fun j v hv => (cell_keep hc27 o1 hn7 (hE6 j v hv))
   have hn7 := q_hn7
   have q_hn25 : ge20 ∉ M := fun h => (o2 ge20 h).elim hn25 (fun h => absurd (lt_cell (hE24 0 _ rfl)) (Nat.not_lt.2 h))
   have hE24 : ∀ j v, (cA .u8 8 (rd a0 x11))[j]? = some v → w26.cell? ⟨ge20, (oe210 + (Int.toNat x11) * (rArr .u8 8).sz) + j, none⟩ = some v := fun j v hv => (cell_keep hc27 o1 hn25 (hE24 j v hv))
   have hn25 := q_hn25
   have hM : MS (M) w26 := (hM.chg hc27)
   have hC := hC.trans hc27 (Ok.nil _ _)
   refine wpl_end ?_
   refine hK18 _ _ ?_; try clear hK18 K18
   refine cnd ha rfl (fun hc28 => ?_) (fun hc28 => ?_)
   ·have H := ite_t hc28 H
    refine wp_seq_k fun K29 hK29 => ?_
    refine wp_region_lit ?_
    refine seg ha 2 [(4, .int .i64 x11)] (by kernel_rfl) fun a ha => ?_
    refine hK29 _ _ ?_; try clear hK29 K29
    refine wp_ret ?_
    try simp only [Exit.then, Exit.inBlock]
    obtain rfl := Option.some.inj H
    have H := (show some _ = some _ from Hc10)
    obtain rfl := Option.some.inj H
    refine rt1 ha rfl rfl ?_
    exact ⟨rfl, hC, hM⟩
   ·have H := ite_f hc28 H
    refine wp_skip ?_
    refine hK16 _ _ ?_; try clear hK16 K16
    refine wp_region_lit ?_
    refine seg ha 2 [(0, .slice ao1 a0.length cap1), (3, .pointer (some ⟨g4, 0, none⟩)), (7, .int .i64 (a0.length : Int)), (8, .int .i64 (IntKind.i64.wrap (x11 + (1 : Int))))] (by kernel_rfl) fun a ha => ?_
    exact ⟨kk, Nat.lt_succ_self _, ⟨IntKind.i64.wrap (x11 + (1 : Int)), H, (ha.sel (by kernel_rfl)), f1, hE6, hn7, hC, hM⟩⟩
  ·have H := ite_f hc15 H
   refine wp_exit ?_
   simp only [Exit.then, Exit.inBlock, ↓reduceIte, Nat.reduceEqDiff]
   obtain rfl := Option.some.inj H
   exact J10 _ _ _ rfl (ha.sel (by kernel_rfl)) hC hM
def slices_Contains_Ext.f (k : Nat) (a0 : List (List Int)) (a1 : List Int) : Option (Bool) := (slices_Index_Ext.f k a0 a1).bind fun t9 => some ((decide (t9 ≥ (0 : Int)) : Bool))
set_option maxRecDepth 100000 in
theorem slices_Contains_Ext.walk (w : World) (M : List Nat) (hM : MS M w) (a0 : List (List Int)) (ao1 : Option Addr) (cap1 : Nat) (f1 : RSl (rArr .u8 8) 27 w M ao1 cap1 a0) (a1 : List Int) (k : Nat) (r : Bool) (H : slices_Contains_Ext.f k a0 a1 = some r) :
    To Tryd.prog 19 [.slice ao1 a0.length cap1, .agg (cA .u8 8 a1).toArray] w fun v w' => v = .bool r ∧ Chg [] w w' ∧ MS (M) w' := by
 unfold slices_Contains_Ext.f at H
 refine ent Tryd.func19 rfl [(0, .slice ao1 a0.length cap1), (1, .agg (cA .u8 8 a1).toArray)] rfl (by rfl) fun a ha => ?_
 have hC : Chg [] w w := Chg.refl _ _
 refine wp_seq_k fun K2 hK2 => ?_
 refine wp_region_lit ?_
 refine bx (cs := (cA .u8 8 a1)) ha rfl rfl rfl rfl rfl fun a w3 g4 hN5 ha => ?_
 have hn7 := hN5.notin hM
 have o1 : Ok [] (M) w.heap.size := Ok.nil _ _
 have o2 : Ok (M) (M) w.heap.size := (Ok.refl _ _)
 have f1 := f1.chg hN5.chg o1 o2
 have hM : MS (M) w3 := (hM.chg hN5.chg)
 have hC := hC.trans hN5.chg (Ok.nil _ _)
 have hE6 : ∀ j v, (cA .u8 8 a1)[j]? = some v → w3.cell? ⟨g4, 0 + j, none⟩ = some v := Box.cells (New.box hN5)
 refine seg ha 1 [(0, .slice ao1 a0.length cap1), (3, .pointer (some ⟨g4, 0, none⟩))] (by kernel_rfl) fun a ha => ?_
 refine hK2 _ _ ?_; try clear hK2 K2
 refine wp_seq_k fun K8 hK8 => ?_
 refine wp_region_lit ?_
 refine seg ha 1 [(3, .pointer (some ⟨g4, 0, none⟩)), (5, .slice ao1 a0.length cap1)] (by kernel_rfl) fun a ha => ?_
 refine ldA (cs := (cA .u8 8 a1)) ha rfl (by kernel_rfl) rfl rfl rfl (cells_sub hE6 (all := (cA .u8 8 a1)) [] [] (by kernel_rfl)) fun a ha => ?_
 obtain ⟨t9, H9, H⟩ := bind_some H
 refine cl ha (by rfl) (by kernel_rfl) (by rfl) (by rfl) (by rfl) (slices_Index_Ext.walk w3 _ hM a0 ao1 cap1 f1 a1 k _ H9) ?_
 rintro _ w9 ⟨rfl, hc9, hMn⟩ a ha
 have o1 : Ok [] (M) w3.heap.size := Ok.nil _ _
 have o2 : Ok (M) (M) w3.heap.size := (Ok.refl _ _)
 have f1 := f1.chg hc9 o1 o2
 have hM : MS (M) w9 := (hM.chg hc9)
 have hC := hC.trans hc9 (Ok.nil _ _)
 refine seg ha 2 [(4, .bool (decide (t9 ≥ (0 : Int))))] (by kernel_rfl) fun a ha => ?_
 refine hK8 _ _ ?_; try clear hK8 K8
 refine wp_ret ?_
 try simp only [Exit.then, Exit.inBlock]
 obtain rfl := Option.some.inj H
 refine rt1 ha rfl rfl ?_
 exact ⟨rfl, hC, hM⟩
def community_Meet_1.f (k : Nat) (a0 : List Int) (a1 : List (List Int)) : Option (Bool) := ((community_Kind.f a0).bind fun t10 => (if (t10 == (1 : Int)) = true then (slices_Contains_Ext.f k a1 a0).bind fun t12 => some (t12 : Bool) else some (false : Bool))).bind fun s9 => some ((s9 : Bool))
set_option maxRecDepth 100000 in
theorem community_Meet_1.walk (w : World) (M : List Nat) (hM : MS M w) (a0 : List Int) (gp1 : Nat) (a1 : List (List Int)) (ao1 : Option Addr) (cap1 : Nat) (f1 : RSl (rArr .u8 8) 27 w M ao1 cap1 a1) (hBgp1 : Box w gp1 ([.slice ao1 a1.length cap1] : List Value)) (hg_gp1 : gp1 ∈ M) (k : Nat) (r : Bool) (H : community_Meet_1.f k a0 a1 = some r) :
    To Tryd.prog 18 [.agg (cA .u8 8 a0).toArray, .pointer (some ⟨gp1, 0, none⟩)] w fun v w' => v = .bool r ∧ Chg [] w w' ∧ MS (M) w' := by
 unfold community_Meet_1.f at H
 refine ent Tryd.func18 rfl [(0, .agg (cA .u8 8 a0).toArray), (1, .pointer (some ⟨gp1, 0, none⟩))] rfl (by rfl) fun a ha => ?_
 have hC : Chg [] w w := Chg.refl _ _
 refine wp_seq_k fun K2 hK2 => ?_
 refine wp_region_lit ?_
 refine bx (cs := (cA .u8 8 a0)) ha rfl rfl rfl rfl rfl fun a w3 g4 hN5 ha => ?_
 have hn7 := hN5.notin hM
 have o1 : Ok [] (M) w.heap.size := Ok.nil _ _
 have o2 : Ok (M) (M) w.heap.size := (Ok.refl _ _)
 have f1 := f1.chg hN5.chg o1 o2
 have hBgp1 := hBgp1.chg hN5.chg (fun h => nomatch h)
 have hM : MS (M) w3 := (hM.chg hN5.chg)
 have hC := hC.trans hN5.chg (Ok.nil _ _)
 have hE6 : ∀ j v, (cA .u8 8 a0)[j]? = some v → w3.cell? ⟨g4, 0 + j, none⟩ = some v := Box.cells (New.box hN5)
 refine seg ha 1 [(1, .pointer (some ⟨gp1, 0, none⟩)), (2, .pointer (some ⟨g4, 0, none⟩))] (by kernel_rfl) fun a ha => ?_
 refine hK2 _ _ ?_; try clear hK2 K2
 refine wp_seq_k fun K8 hK8 => ?_
 refine wp_region_lit ?_
 obtain ⟨s9, H9, H⟩ := bind_some H
 have J9 : ∀ (a : Act) (w9 : World), Has a Tryd.f18.ntmps [(3, .bool s9)] → (RSl (rArr .u8 8) 27 w9 (M) ao1 cap1 a1) → (Box w9 gp1 ([.slice ao1 a1.length cap1] : List Value)) → (Chg [] w w9) → (MS (M) w9) → K8 a w9 := by
  intro a w9 ha f1 hBgp1 hC hM
  refine hK8 _ _ ?_; try clear hK8 K8
  refine wp_ret ?_
  try simp only [Exit.then, Exit.inBlock]
  obtain rfl := Option.some.inj H
  refine rt1 ha rfl rfl ?_
  exact ⟨rfl, hC, hM⟩
 have H := H9
 refine ldA (cs := (cA .u8 8 a0)) ha rfl (by kernel_rfl) rfl rfl rfl (cells_sub hE6 (all := (cA .u8 8 a0)) [] [] (by kernel_rfl)) fun a ha => ?_
 obtain ⟨t10, H10, H⟩ := bind_some H
 refine cl ha (by rfl) (by kernel_rfl) (by rfl) (by rfl) (by rfl) (community_Kind.walk w3 _ hM a0 _ H10) ?_
 rintro _ w10 ⟨rfl, hc10, hMn⟩ a ha
 have o1 : Ok [] (M) w3.heap.size := Ok.nil _ _
 have o2 : Ok (M) (M) w3.heap.size := (Ok.refl _ _)
 have f1 := f1.chg hc10 o1 o2
 have hBgp1 := hBgp1.chg hc10 (fun h => nomatch h)
 have q_hn7 : g4 ∉ M := fun h => (o2 g4 h).elim hn7 (fun h => absurd (lt_cell (hE6 0 _ rfl)) (Nat.not_lt.2 h))
 have hE6 : ∀ j v, (cA .u8 8 a0)[j]? = some v → w10.cell? ⟨g4, 0 + j, none⟩ = some v := fun j v hv => (cell_keep hc10 o1 hn7 (hE6 j v hv))
 have hn7 := q_hn7
 have hM : MS (M) w10 := (hM.chg hc10)
 have hC := hC.trans hc10 (Ok.nil _ _)
 refine seg ha 2 [(7, .bool (t10 == (1 : Int))), (1, .pointer (some ⟨gp1, 0, none⟩)), (2, .pointer (some ⟨g4, 0, none⟩))] (by kernel_rfl) fun a ha => ?_
 rcases Bool.eq_false_or_eq_true (t10 == (1 : Int)) with hb11 | hb11
 ·have ha := ha.lit hb11
  have H := ite_t hb11 H
  refine ld (v := .slice ao1 a1.length cap1) ha rfl (by kernel_rfl) rfl rfl rfl (hBgp1.cell' (o := 0) rfl (by kernel_rfl)) fun a ha => ?_
  refine ldA (cs := (cA .u8 8 a0)) ha rfl (by kernel_rfl) rfl rfl rfl (cells_sub hE6 (all := (cA .u8 8 a0)) [] [] (by kernel_rfl)) fun a ha => ?_
  obtain ⟨t12, H12, H⟩ := bind_some H
  refine cl ha (by rfl) (by kernel_rfl) (by rfl) (by rfl) (by rfl) (slices_Contains_Ext.walk w10 _ hM a1 ao1 cap1 f1 a0 k _ H12) ?_
  rintro _ w12 ⟨rfl, hc12, hMn⟩ a ha
  have o1 : Ok [] (M) w10.heap.size := Ok.nil _ _
  have o2 : Ok (M) (M) w10.heap.size := (Ok.refl _ _)
  have f1 := f1.chg hc12 o1 o2
  have hBgp1 := hBgp1.chg hc12 (fun h => nomatch h)
  have hM : MS (M) w12 := (hM.chg hc12)
  have hC := hC.trans hc12 (Ok.nil _ _)
  refine sgh ha 2 [3, 0] [(3, .bool t12)] (by kernel_rfl) fun a ha => ?_
  obtain rfl := Option.some.inj H
  exact J9 _ _ (ha.sel (by kernel_rfl)) f1 hBgp1 hC hM
 ·have ha := ha.lit hb11
  have H := ite_f hb11 H
  refine sgh ha 5 [1, 1, 1, 4, 0] [(3, .bool false)] (by kernel_rfl) fun a ha => ?_
  obtain rfl := Option.some.inj H
  exact J9 _ _ (ha.sel (by kernel_rfl)) f1 hBgp1 hC hM
def slices_IndexFunc_Ext_community_Meet_1.l0 (k : Nat) (a0 : List (List Int)) (a2 : List (List Int)) : Nat → Int → Option ((Int) ⊕ (Unit))
  | 0, _ => none
  | kk + 1, x7 => (if (decide (x7 < (a0.length : Int))) = true then (if 0 ≤ x7 ∧ x7 < (a0.length : Int) then (community_Meet_1.f k (rd a0 x7) a2).bind fun t22 => (if t22 = true then some (.inl ((x7 : Int))) else slices_IndexFunc_Ext_community_Meet_1.l0 k a0 a2 kk (IntKind.i64.wrap (x7 + (1 : Int)))) else none) else some (.inr (() : Unit)))
def slices_IndexFunc_Ext_community_Meet_1.f (k : Nat) (a0 : List (List Int)) (a2 : List (List Int)) : Option (Int) := (slices_IndexFunc_Ext_community_Meet_1.l0 k a0 a2 k (0 : Int)).bind fun s6 => match s6 with | .inl r => some r | .inr s6' => some (((-1 : Int) : Int))
set_option maxRecDepth 100000 in
theorem slices_IndexFunc_Ext_community_Meet_1.walk (w : World) (M : List Nat) (hM : MS M w) (a0 : List (List Int)) (ao1 : Option Addr) (cap1 : Nat) (f1 : RSl (rArr .u8 8) 27 w M ao1 cap1 a0) (gp2 : Nat) (a2 : List (List Int)) (ao2 : Option Addr) (cap2 : Nat) (f2 : RSl (rArr .u8 8) 27 w M ao2 cap2 a2) (hBgp2 : Box w gp2 ([.slice ao2 a2.length cap2] : List Value)) (hg_gp2 : gp2 ∈ M) (k : Nat) (r : Int) (H : slices_IndexFunc_Ext_community_Meet_1.f k a0 a2 = some r) :
    To Tryd.prog 33 [.slice ao1 a0.length cap1, .func (.func 18) #[] #[.pointer (some ⟨gp2, 0, none⟩)]] w fun v w' => v = .int .i64 r ∧ Chg [] w w' ∧ MS (M) w' := by
 unfold slices_IndexFunc_Ext_community_Meet_1.f at H
 refine ent Tryd.func33 rfl [(0, .slice ao1 a0.length cap1), (1, .func (.func 18) #[] #[.pointer (some ⟨gp2, 0, none⟩)])] rfl (by rfl) fun a ha => ?_
 have hC : Chg [] w w := Chg.refl _ _
 refine wp_seq_k fun K3 hK3 => ?_
 refine wp_region_lit ?_
 refine seg ha 1 [(0, .slice ao1 a0.length cap1), (1, .func (.func 18) #[] #[.pointer (some ⟨gp2, 0, none⟩)])] (by kernel_rfl) fun a ha => ?_
 refine hK3 _ _ ?_; try clear hK3 K3
 refine wp_seq_k fun K4 hK4 => ?_
 refine wp_seq_k fun K5 hK5 => ?_
 refine wp_region_lit ?_
 refine seg ha 3 [(0, .slice ao1 a0.length cap1), (1, .func (.func 18) #[] #[.pointer (some ⟨gp2, 0, none⟩)]), (7, .int .i64 (a0.length : Int)), (8, .int .i64 (0 : Int))] (by kernel_rfl) fun a ha => ?_
 refine hK5 _ _ ?_; try clear hK5 K5
 refine wp_block ?_
 obtain ⟨s6, H6, H⟩ := bind_some H
 have J6 : ∀ s6' (a : Act) (wx6 : World), s6 = .inr s6' → Has a Tryd.f33.ntmps [] → (RSl (rArr .u8 8) 27 wx6 (M) ao2 cap2 a2) → (Box wx6 gp2 ([.slice ao2 a2.length cap2] : List Value)) → (Chg [] w wx6) → (MS (M) wx6) → K4 a wx6 := by
  intro s6' a wx6 hs ha f2 hBgp2 hC hM
  subst hs
  refine hK4 _ _ ?_; try clear hK4 K4
  refine wp_seq_k fun K8 hK8 => ?_
  refine wp_region_lit ?_
  refine seg ha 1 [(4, .int .i64 (-1 : Int))] (by kernel_rfl) fun a ha => ?_
  refine hK8 _ _ ?_; try clear hK8 K8
  refine wp_ret ?_
  try simp only [Exit.then, Exit.inBlock]
  obtain rfl := Option.some.inj H
  refine rt1 ha rfl rfl ?_
  exact ⟨rfl, hC, hM⟩
 have Hc6 := H
 have H := H6
 refine wp_loop_ghost (fun kk a w6 => ∃ (x7 : Int), slices_IndexFunc_Ext_community_Meet_1.l0 k a0 a2 kk x7 = some s6 ∧ Has a Tryd.f33.ntmps [(0, .slice ao1 a0.length cap1), (1, .func (.func 18) #[] #[.pointer (some ⟨gp2, 0, none⟩)]), (7, .int .i64 (a0.length : Int)), (8, .int .i64 x7)] ∧ (RSl (rArr .u8 8) 27 w6 (M) ao1 cap1 a0) ∧ (RSl (rArr .u8 8) 27 w6 (M) ao2 cap2 a2) ∧ (Box w6 gp2 ([.slice ao2 a2.length cap2] : List Value)) ∧ (Chg [] w w6) ∧ (MS (M) w6)) k ?_ ?_
 ·skip
  exact ⟨(0 : Int), H, (ha.sel (by kernel_rfl)), f1, f2, hBgp2, hC, hM⟩
 ·rintro kk a w6 ⟨x7, H, ha, f1, f2, hBgp2, hC, hM⟩
  obtain _ | kk := kk
  ·exact nomatch (show none = some _ from H)
  rw [slices_IndexFunc_Ext_community_Meet_1.l0] at H
  refine wp_seq_k fun K9 hK9 => ?_
  refine wp_region_lit ?_
  refine seg ha 1 [(0, .slice ao1 a0.length cap1), (1, .func (.func 18) #[] #[.pointer (some ⟨gp2, 0, none⟩)]), (7, .int .i64 (a0.length : Int)), (8, .int .i64 x7), (9, .bool (decide (x7 < (a0.length : Int))))] (by kernel_rfl) fun a ha => ?_
  refine hK9 _ _ ?_; try clear hK9 K9
  refine wp_seq_k fun K10 hK10 => ?_
  refine cnd ha rfl (fun hc11 => ?_) (fun hc11 => ?_)
  ·have H := ite_t hc11 H
   refine wp_skip ?_
   refine hK10 _ _ ?_; try clear hK10 K10
   refine wp_seq_k fun K12 hK12 => ?_
   refine wp_block ?_
   refine wp_seq_k fun K13 hK13 => ?_
   refine wp_region_lit ?_
   refine seg ha 2 [(0, .slice ao1 a0.length cap1), (1, .func (.func 18) #[] #[.pointer (some ⟨gp2, 0, none⟩)]), (5, .int .i64 x7), (7, .int .i64 (a0.length : Int)), (8, .int .i64 x7)] (by kernel_rfl) fun a ha => ?_
   refine hK13 _ _ ?_; try clear hK13 K13
   refine wp_seq_k fun K14 hK14 => ?_
   refine wp_region_lit ?_
   refine seg ha 3 [(0, .slice ao1 a0.length cap1), (1, .func (.func 18) #[] #[.pointer (some ⟨gp2, 0, none⟩)]), (5, .int .i64 x7), (7, .int .i64 (a0.length : Int)), (8, .int .i64 x7), (11, .func (.func 18) #[] #[.pointer (some ⟨gp2, 0, none⟩)]), (12, .slice ao1 a0.length cap1), (13, .int .i64 x7)] (by kernel_rfl) fun a ha => ?_
   obtain ⟨⟨hx15, hx15'⟩, H⟩ := ite_some H
   refine ix (r := (rArr .u8 8)) ha (by kernel_rfl) (by kernel_rfl) rfl rfl rfl rfl rfl f1 hx15 hx15' fun a ge16 oe17 cs18 hn21 hR19 hE20 ha => ?_
   rw [rd_get] at hR19
   obtain rfl := hR19
   have hE20 : ∀ j v, (cA .u8 8 (rd a0 x7))[j]? = some v → w6.cell? ⟨ge16, oe17 + j, none⟩ = some v := hE20
   refine ldA (cs := (cA .u8 8 (rd a0 x7))) ha rfl (by kernel_rfl) rfl rfl rfl (cells_sub hE20 (all := (cA .u8 8 (rd a0 x7))) [] [] (by kernel_rfl)) fun a ha => ?_
   obtain ⟨t22, H22, H⟩ := bind_some H
   refine clc (vals := [.agg (cA .u8 8 (rd a0 x7)).toArray]) (cs := #[.pointer (some ⟨gp2, 0, none⟩)]) ha (by rfl) (by rfl) (by kernel_rfl) (by rfl) (by rfl) (by rfl) (community_Meet_1.walk w6 _ hM (rd a0 x7) gp2 a2 ao2 cap2 f2 hBgp2 (hg_gp2) k _ H22) ?_
   rintro _ w22 ⟨rfl, hc22, hMn⟩ a ha
   have o1 : Ok [] (M) w6.heap.size := Ok.nil _ _
   have o2 : Ok (M) (M) w6.heap.size := (Ok.refl _ _)
   have f1 := f1.chg hc22 o1 o2
   have f2 := f2.chg hc22 o1 o2
   have hBgp2 := hBgp2.chg hc22 (fun h => nomatch h)
   have hM : MS (M) w22 := (hM.chg hc22)
   have hC := hC.trans hc22 (Ok.nil _ _)
   refine hK14 _ _ ?_; try clear hK14 K14
   refine cnd ha rfl (fun hc23 => ?_) (fun hc23 => ?_)
   ·have H := ite_t hc23 H
    refine wp_seq_k fun K24 hK24 => ?_
    refine wp_region_lit ?_
    refine seg ha 2 [(4, .int .i64 x7)] (by kernel_rfl) fun a ha => ?_
    refine hK24 _ _ ?_; try clear hK24 K24
    refine wp_ret ?_
    try simp only [Exit.then, Exit.inBlock]
    obtain rfl := Option.some.inj H
    have H := (show some _ = some _ from Hc6)
    obtain rfl := Option.some.inj H
    refine rt1 ha rfl rfl ?_
    exact ⟨rfl, hC, hM⟩
   ·have H := ite_f hc23 H
    refine wp_skip ?_
    refine hK12 _ _ ?_; try clear hK12 K12
    refine wp_region_lit ?_
    refine seg ha 2 [(0, .slice ao1 a0.length cap1), (1, .func (.func 18) #[] #[.pointer (some ⟨gp2, 0, none⟩)]), (7, .int .i64 (a0.length : Int)), (8, .int .i64 (IntKind.i64.wrap (x7 + (1 : Int))))] (by kernel_rfl) fun a ha => ?_
    exact ⟨kk, Nat.lt_succ_self _, ⟨IntKind.i64.wrap (x7 + (1 : Int)), H, (ha.sel (by kernel_rfl)), f1, f2, hBgp2, hC, hM⟩⟩
  ·have H := ite_f hc11 H
   refine wp_exit ?_
   simp only [Exit.then, Exit.inBlock, ↓reduceIte, Nat.reduceEqDiff]
   obtain rfl := Option.some.inj H
   exact J6 _ _ _ rfl (ha.sel (by kernel_rfl)) f2 hBgp2 hC hM
def slices_ContainsFunc_Ext_community_Meet_1.f (k : Nat) (a0 : List (List Int)) (a2 : List (List Int)) : Option (Bool) := (slices_IndexFunc_Ext_community_Meet_1.f k a0 a2).bind fun t5 => some ((decide (t5 ≥ (0 : Int)) : Bool))
set_option maxRecDepth 100000 in
theorem slices_ContainsFunc_Ext_community_Meet_1.walk (w : World) (M : List Nat) (hM : MS M w) (a0 : List (List Int)) (ao1 : Option Addr) (cap1 : Nat) (f1 : RSl (rArr .u8 8) 27 w M ao1 cap1 a0) (gp2 : Nat) (a2 : List (List Int)) (ao2 : Option Addr) (cap2 : Nat) (f2 : RSl (rArr .u8 8) 27 w M ao2 cap2 a2) (hBgp2 : Box w gp2 ([.slice ao2 a2.length cap2] : List Value)) (hg_gp2 : gp2 ∈ M) (k : Nat) (r : Bool) (H : slices_ContainsFunc_Ext_community_Meet_1.f k a0 a2 = some r) :
    To Tryd.prog 17 [.slice ao1 a0.length cap1, .func (.func 18) #[] #[.pointer (some ⟨gp2, 0, none⟩)]] w fun v w' => v = .bool r ∧ Chg [] w w' ∧ MS (M) w' := by
 unfold slices_ContainsFunc_Ext_community_Meet_1.f at H
 refine ent Tryd.func17 rfl [(0, .slice ao1 a0.length cap1), (1, .func (.func 18) #[] #[.pointer (some ⟨gp2, 0, none⟩)])] rfl (by rfl) fun a ha => ?_
 have hC : Chg [] w w := Chg.refl _ _
 refine wp_seq_k fun K3 hK3 => ?_
 refine wp_region_lit ?_
 refine seg ha 1 [(0, .slice ao1 a0.length cap1), (1, .func (.func 18) #[] #[.pointer (some ⟨gp2, 0, none⟩)])] (by kernel_rfl) fun a ha => ?_
 refine hK3 _ _ ?_; try clear hK3 K3
 refine wp_seq_k fun K4 hK4 => ?_
 refine wp_region_lit ?_
 refine seg ha 2 [(5, .slice ao1 a0.length cap1), (6, .func (.func 18) #[] #[.pointer (some ⟨gp2, 0, none⟩)])] (by kernel_rfl) fun a ha => ?_
 obtain ⟨t5, H5, H⟩ := bind_some H
 refine cl ha (by rfl) (by kernel_rfl) (by rfl) (by rfl) (by rfl) (slices_IndexFunc_Ext_community_Meet_1.walk w _ hM a0 ao1 cap1 f1 gp2 a2 ao2 cap2 f2 hBgp2 (hg_gp2) k _ H5) ?_
 rintro _ w5 ⟨rfl, hc5, hMn⟩ a ha
 have o1 : Ok [] (M) w.heap.size := Ok.nil _ _
 have o2 : Ok (M) (M) w.heap.size := (Ok.refl _ _)
 have f1 := f1.chg hc5 o1 o2
 have f2 := f2.chg hc5 o1 o2
 have hBgp2 := hBgp2.chg hc5 (fun h => nomatch h)
 have hM : MS (M) w5 := (hM.chg hc5)
 have hC := hC.trans hc5 (Ok.nil _ _)
 refine seg ha 2 [(4, .bool (decide (t5 ≥ (0 : Int))))] (by kernel_rfl) fun a ha => ?_
 refine hK4 _ _ ?_; try clear hK4 K4
 refine wp_ret ?_
 try simp only [Exit.then, Exit.inBlock]
 obtain rfl := Option.some.inj H
 refine rt1 ha rfl rfl ?_
 exact ⟨rfl, hC, hM⟩
def community_Meet.f (k : Nat) (a0 : List (List Int)) (a1 : List (List Int)) : Option (Bool) := (slices_ContainsFunc_Ext_community_Meet_1.f k a0 a1).bind fun t9 => some ((t9 : Bool))
set_option maxRecDepth 100000 in
theorem community_Meet.walk (w : World) (M : List Nat) (hM : MS M w) (a0 : List (List Int)) (ao1 : Option Addr) (cap1 : Nat) (f1 : RSl (rArr .u8 8) 27 w M ao1 cap1 a0) (a1 : List (List Int)) (ao2 : Option Addr) (cap2 : Nat) (f2 : RSl (rArr .u8 8) 27 w M ao2 cap2 a1) (k : Nat) (r : Bool) (H : community_Meet.f k a0 a1 = some r) :
    To Tryd.prog 9 [.slice ao1 a0.length cap1, .slice ao2 a1.length cap2] w fun v w' => v = .bool r ∧ Chg [] w w' ∧ MS (M) w' := by
 unfold community_Meet.f at H
 refine ent Tryd.func9 rfl [(0, .slice ao1 a0.length cap1), (1, .slice ao2 a1.length cap2)] rfl (by rfl) fun a ha => ?_
 have hC : Chg [] w w := Chg.refl _ _
 refine wp_seq_k fun K3 hK3 => ?_
 refine wp_region_lit ?_
 refine bx (cs := ([.slice ao2 a1.length cap2] : List Value)) ha rfl rfl rfl rfl rfl fun a w4 g5 hN6 ha => ?_
 have o1 : Ok [] (M) w.heap.size := Ok.nil _ _
 have o2 : Ok ([g5] ++ (M)) (M) w.heap.size := (Ok.app (hN6.ok _) (Ok.refl _ _))
 have f1 := f1.chg hN6.chg o1 o2
 have f2 := f2.chg hN6.chg o1 o2
 have p_i7_M : ∀ x ∈ [g5], x ∉ M := fun x hx hy => absurd (hM x (hy)) (Nat.not_lt.2 ((hN6.ge1) x hx))
 have e_i7 : ∀ x ∈ [g5], w.heap.size ≤ x := fun x hx => Nat.le_trans hC.size ((hN6.ge1) x hx)
 have hM : MS ([g5] ++ (M)) w4 := (MS.app hN6.ms (hM.chg hN6.chg))
 have hC := hC.trans hN6.chg (Ok.nil _ _)
 have hBg5 : Box w4 g5 ([.slice ao2 a1.length cap2] : List Value) := hN6.box
 refine seg ha 1 [(0, .slice ao1 a0.length cap1), (3, .pointer (some ⟨g5, 0, none⟩))] (by kernel_rfl) fun a ha => ?_
 refine hK3 _ _ ?_; try clear hK3 K3
 refine wp_seq_k fun K8 hK8 => ?_
 refine wp_region_lit ?_
 refine seg ha 1 [(3, .pointer (some ⟨g5, 0, none⟩)), (5, .slice ao1 a0.length cap1)] (by kernel_rfl) fun a ha => ?_
 refine opk (v := .func (.func 18) #[] #[.pointer (some ⟨g5, 0, none⟩)]) ha rfl rfl rfl rfl rfl (fun w => by kernel_rfl) fun a ha => ?_
 obtain ⟨t9, H9, H⟩ := bind_some H
 refine cl ha (by rfl) (by kernel_rfl) (by rfl) (by rfl) (by rfl) (slices_ContainsFunc_Ext_community_Meet_1.walk w4 _ hM a0 ao1 cap1 f1 g5 a1 ao2 cap2 f2 hBg5 (ml (List.mem_singleton.2 rfl)) k _ H9) ?_
 rintro _ w9 ⟨rfl, hc9, hMn⟩ a ha
 have o1 : Ok [] ([g5] ++ (M)) w4.heap.size := Ok.nil _ _
 have o2 : Ok ([g5] ++ (M)) ([g5] ++ (M)) w4.heap.size := (Ok.refl _ _)
 have f1 := f1.chg hc9 o1 o2
 have f2 := f2.chg hc9 o1 o2
 have hBg5 := hBg5.chg hc9 (fun h => nomatch h)
 have hM : MS ([g5] ++ (M)) w9 := (hM.chg hc9)
 have hC := hC.trans hc9 (Ok.nil _ _)
 refine seg ha 1 [(4, .bool t9)] (by kernel_rfl) fun a ha => ?_
 refine hK8 _ _ ?_; try clear hK8 K8
 refine wp_ret ?_
 try simp only [Exit.then, Exit.inBlock]
 have o1 : Ok [] ([g5] ++ (M)) w9.heap.size := Ok.nil _ _
 have o2 : Ok (M) ([g5] ++ (M)) w9.heap.size := (fun _ h => .inl (mr (h)))
 have f2 := f2.chg (Chg.refl [] _) o1 o2
 have hBg5 := hBg5.chg (Chg.refl [] _) (fun h => nomatch h)
 have hM : MS (M) w9 := (fun x h => hM.chg (Chg.refl [] _) x (mr (h)))
 have hC := hC.trans (Chg.refl [] _) (Ok.nil _ _)
 obtain rfl := Option.some.inj H
 refine rt1 ha rfl rfl ?_
 exact ⟨rfl, hC, hM⟩
def vinerylaw04_small.f (k : Nat) : Option (Bool) := (community_Target.f k (0 : Int) (65000 : Int) (77 : Int)).bind fun t3 => (community_Import.f k (⟨(4 : Int), ([(10 : Int), (0 : Int), (0 : Int), (1 : Int), (0 : Int), (0 : Int), (0 : Int), (0 : Int), (0 : Int), (0 : Int), (0 : Int), (0 : Int), (0 : Int), (0 : Int), (0 : Int), (0 : Int)] : List Int)⟩ : S_api_Addr) (3 : Int)).bind fun t11 => (community_Source.f k (65000 : Int)).bind fun t19 => (community_Set.f ([t11.1, t3.1, t11.1] : List (List Int))).bind fun t32 => ((if (t3.2 == (0 : Int)) = true then (community_Text.f k t3.1).bind fun t40 => (if ((bstr t40).toList == (bstr ([114, 116, 58, 48, 58, 54, 53, 48, 48, 48, 58, 55, 55] : List UInt8)).toList) = true then (if (t11.2 == (0 : Int)) = true then (community_Text.f k t11.1).bind fun t44 => (if ((bstr t44).toList == (bstr ([105, 109, 112, 111, 114, 116, 58, 49, 48, 46, 48, 46, 48, 46, 49, 58, 51] : List UInt8)).toList) = true then (if (t19.2 == (0 : Int)) = true then (community_Text.f k t19.1).bind fun t48 => (if ((bstr t48).toList == (bstr ([115, 111, 117, 114, 99, 101, 58, 54, 53, 48, 48, 48] : List UInt8)).toList) = true then (if ((t32.length : Int) == (2 : Int)) = true then (if 0 ≤ (0 : Int) ∧ (0 : Int) < (t32.length : Int) then (if (eqA 8 (rd t32 (0 : Int)) t3.1) = true then (community_Meet.f k t32 ([t3.1] : List (List Int))).bind fun t66 => (if t66 = true then (community_Kind.f ([(0 : Int), (9 : Int), (0 : Int), (0 : Int), (0 : Int), (0 : Int), (0 : Int), (0 : Int)] : List Int)).bind fun t70 => some (t70 == (0 : Int) : Bool) else some (false : Bool)) else some (false : Bool)) else none) else some (false : Bool)) else some (false : Bool)) else some (false : Bool)) else some (false : Bool)) else some (false : Bool)) else some (false : Bool)) else some (false : Bool))).bind fun s37 => some ((s37 : Bool))
set_option maxRecDepth 100000 in
theorem vinerylaw04_small.walk (w : World) (M : List Nat) (hM : MS M w) (hG : GF w M)  (k : Nat) (r : Bool) (H : vinerylaw04_small.f k = some r) :
    To Tryd.prog 4 [] w fun v w' => v = .bool r ∧ Chg [] w w' ∧ MS (M) w' := by
 unfold vinerylaw04_small.f at H
 refine ent Tryd.func4 rfl [] rfl (by rfl) fun a ha => ?_
 have hC : Chg [] w w := Chg.refl _ _
 refine wp_seq_k fun K1 hK1 => ?_
 refine wp_region_lit ?_
 refine seg ha 1 [] (by kernel_rfl) fun a ha => ?_
 refine hK1 _ _ ?_; try clear hK1 K1
 refine wp_seq_k fun K2 hK2 => ?_
 refine wp_region_lit ?_
 obtain ⟨t3, H3, H⟩ := bind_some H
 refine cl ha (by rfl) (by kernel_rfl) (by rfl) (by rfl) (by rfl) (community_Target.walk w _ hM (0 : Int) (65000 : Int) (77 : Int) k _ H3) ?_
 rintro _ w3 ⟨rfl, hc3, hMn⟩ a ha
 have o1 : Ok [] (M) w.heap.size := Ok.nil _ _
 have o2 : Ok (M) (M) w.heap.size := (Ok.refl _ _)
 have hG := hG.chg hc3 o1 o2
 have hM : MS (M) w3 := (hM.chg hc3)
 have hC := hC.trans hc3 (Ok.nil _ _)
 refine seg ha 3 [(10, .agg (cA .u8 8 t3.1).toArray), (11, .int .i64 t3.2)] (by kernel_rfl) fun a ha => ?_
 refine al (cs := (cA .u8 8 (List.replicate 8 (0 : Int)))) (z := .agg (cA .u8 8 (List.replicate 8 (0 : Int))).toArray) ha (fun w => by kernel_rfl) rfl rfl rfl rfl fun a w4 g5 hN6 ha => ?_
 have o1 : Ok [] (M) w3.heap.size := Ok.nil _ _
 have o2 : Ok ([g5] ++ (M)) (M) w3.heap.size := (Ok.app (hN6.ok _) (Ok.refl _ _))
 have hG := hG.chg hN6.chg o1 o2
 have p_i7_M : ∀ x ∈ [g5], x ∉ M := fun x hx hy => absurd (hM x (hy)) (Nat.not_lt.2 ((hN6.ge1) x hx))
 have e_i7 : ∀ x ∈ [g5], w.heap.size ≤ x := fun x hx => Nat.le_trans hC.size ((hN6.ge1) x hx)
 have hM : MS ([g5] ++ (M)) w4 := (MS.app hN6.ms (hM.chg hN6.chg))
 have hC := hC.trans hN6.chg (Ok.nil _ _)
 have hBg5 : Box w4 g5 (cA .u8 8 (List.replicate 8 (0 : Int))) := hN6.box
 refine stA (l := (cA .u8 8 t3.1)) ha rfl rfl rfl (by kernel_rfl) rfl rfl hBg5 rfl fun a w8 ha hb2 hc9 _ => ?_
 have o1 : Ok [g5] ([g5] ++ (M)) w4.heap.size := (fun _ h => .inl (ml h))
 have o2 : Ok ([g5] ++ (M)) ([g5] ++ (M)) w4.heap.size := (Ok.refl _ _)
 have hG := hG.chg hc9 o1 o2
 have hM : MS ([g5] ++ (M)) w8 := (hM.chg hc9)
 have hC := hC.trans hc9 (fun x h => .inr (e_i7 x h))
 have hBg5 : Box w8 g5 (cA .u8 8 t3.1) := hb2
 refine seg ha 1 [(1, .pointer (some ⟨g5, 0, none⟩)), (2, .int .i64 t3.2)] (by kernel_rfl) fun a ha => ?_
 refine hK2 _ _ ?_; try clear hK2 K2
 refine wp_seq_k fun K10 hK10 => ?_
 refine wp_region_lit ?_
 refine opk (v := .agg (cA .u8 16 ([(10 : Int), (0 : Int), (0 : Int), (1 : Int), (0 : Int), (0 : Int), (0 : Int), (0 : Int), (0 : Int), (0 : Int), (0 : Int), (0 : Int), (0 : Int), (0 : Int), (0 : Int), (0 : Int)] : List Int)).toArray) ha rfl rfl rfl rfl rfl (fun w => by kernel_rfl) fun a ha => ?_
 refine opk (v := .agg (cS_api_Addr (⟨(4 : Int), ([(10 : Int), (0 : Int), (0 : Int), (1 : Int), (0 : Int), (0 : Int), (0 : Int), (0 : Int), (0 : Int), (0 : Int), (0 : Int), (0 : Int), (0 : Int), (0 : Int), (0 : Int), (0 : Int)] : List Int)⟩ : S_api_Addr)).toArray) ha rfl rfl rfl rfl rfl (fun w => by kernel_rfl) fun a ha => ?_
 obtain ⟨t11, H11, H⟩ := bind_some H
 refine cl ha (by rfl) (by kernel_rfl) (by rfl) (by rfl) (by rfl) (community_Import.walk w8 _ hM (⟨(4 : Int), ([(10 : Int), (0 : Int), (0 : Int), (1 : Int), (0 : Int), (0 : Int), (0 : Int), (0 : Int), (0 : Int), (0 : Int), (0 : Int), (0 : Int), (0 : Int), (0 : Int), (0 : Int), (0 : Int)] : List Int)⟩ : S_api_Addr) (3 : Int) k _ H11) ?_
 rintro _ w11 ⟨rfl, hc11, hMn⟩ a ha
 have o1 : Ok [] ([g5] ++ (M)) w8.heap.size := Ok.nil _ _
 have o2 : Ok ([g5] ++ (M)) ([g5] ++ (M)) w8.heap.size := (Ok.refl _ _)
 have hG := hG.chg hc11 o1 o2
 have hBg5 := hBg5.chg hc11 (fun h => nomatch h)
 have hM : MS ([g5] ++ (M)) w11 := (hM.chg hc11)
 have hC := hC.trans hc11 (Ok.nil _ _)
 refine seg ha 3 [(1, .pointer (some ⟨g5, 0, none⟩)), (2, .int .i64 t3.2), (16, .agg (cA .u8 8 t11.1).toArray), (17, .int .i64 t11.2)] (by kernel_rfl) fun a ha => ?_
 refine al (cs := (cA .u8 8 (List.replicate 8 (0 : Int)))) (z := .agg (cA .u8 8 (List.replicate 8 (0 : Int))).toArray) ha (fun w => by kernel_rfl) rfl rfl rfl rfl fun a w12 g13 hN14 ha => ?_
 have o1 : Ok [] ([g5] ++ (M)) w11.heap.size := Ok.nil _ _
 have o2 : Ok ([g13] ++ ([g5] ++ (M))) ([g5] ++ (M)) w11.heap.size := (Ok.app (hN14.ok _) (Ok.refl _ _))
 have hG := hG.chg hN14.chg o1 o2
 have hBg5 := hBg5.chg hN14.chg (fun h => nomatch h)
 have p_i15_i7 : ∀ x ∈ [g13], x ∉ ([g5]) := fun x hx hy => absurd (hM x (ml hy)) (Nat.not_lt.2 ((hN14.ge1) x hx))
 have p_i15_M : ∀ x ∈ [g13], x ∉ M := fun x hx hy => absurd (hM x (mr (hy))) (Nat.not_lt.2 ((hN14.ge1) x hx))
 have e_i15 : ∀ x ∈ [g13], w.heap.size ≤ x := fun x hx => Nat.le_trans hC.size ((hN14.ge1) x hx)
 have hM : MS ([g13] ++ ([g5] ++ (M))) w12 := (MS.app hN14.ms (hM.chg hN14.chg))
 have hC := hC.trans hN14.chg (Ok.nil _ _)
 have hBg13 : Box w12 g13 (cA .u8 8 (List.replicate 8 (0 : Int))) := hN14.box
 refine stA (l := (cA .u8 8 t11.1)) ha rfl rfl rfl (by kernel_rfl) rfl rfl hBg13 rfl fun a w16 ha hb2 hc17 _ => ?_
 have o1 : Ok [g13] ([g13] ++ ([g5] ++ (M))) w12.heap.size := (fun _ h => .inl (ml h))
 have o2 : Ok ([g13] ++ ([g5] ++ (M))) ([g13] ++ ([g5] ++ (M))) w12.heap.size := (Ok.refl _ _)
 have hG := hG.chg hc17 o1 o2
 have hBg5 := hBg5.chg hc17 ((fun x (hx : x ∈ [g5]) (hy : x ∈ [g13]) => p_i15_i7 x hy hx) g5 (by simp))
 have hM : MS ([g13] ++ ([g5] ++ (M))) w16 := (hM.chg hc17)
 have hC := hC.trans hc17 (fun x h => .inr (e_i15 x h))
 have hBg13 : Box w16 g13 (cA .u8 8 t11.1) := hb2
 refine seg ha 1 [(1, .pointer (some ⟨g5, 0, none⟩)), (2, .int .i64 t3.2), (3, .pointer (some ⟨g13, 0, none⟩)), (4, .int .i64 t11.2)] (by kernel_rfl) fun a ha => ?_
 refine hK10 _ _ ?_; try clear hK10 K10
 refine wp_seq_k fun K18 hK18 => ?_
 refine wp_region_lit ?_
 obtain ⟨t19, H19, H⟩ := bind_some H
 refine cl ha (by rfl) (by kernel_rfl) (by rfl) (by rfl) (by rfl) (community_Source.walk w16 _ hM (65000 : Int) k _ H19) ?_
 rintro _ w19 ⟨rfl, hc19, hMn⟩ a ha
 have o1 : Ok [] ([g13] ++ ([g5] ++ (M))) w16.heap.size := Ok.nil _ _
 have o2 : Ok ([g13] ++ ([g5] ++ (M))) ([g13] ++ ([g5] ++ (M))) w16.heap.size := (Ok.refl _ _)
 have hG := hG.chg hc19 o1 o2
 have hBg5 := hBg5.chg hc19 (fun h => nomatch h)
 have hBg13 := hBg13.chg hc19 (fun h => nomatch h)
 have hM : MS ([g13] ++ ([g5] ++ (M))) w19 := (hM.chg hc19)
 have hC := hC.trans hc19 (Ok.nil _ _)
 refine seg ha 3 [(1, .pointer (some ⟨g5, 0, none⟩)), (2, .int .i64 t3.2), (3, .pointer (some ⟨g13, 0, none⟩)), (4, .int .i64 t11.2), (20, .agg (cA .u8 8 t19.1).toArray), (21, .int .i64 t19.2)] (by kernel_rfl) fun a ha => ?_
 refine al (cs := (cA .u8 8 (List.replicate 8 (0 : Int)))) (z := .agg (cA .u8 8 (List.replicate 8 (0 : Int))).toArray) ha (fun w => by kernel_rfl) rfl rfl rfl rfl fun a w20 g21 hN22 ha => ?_
 have o1 : Ok [] ([g13] ++ ([g5] ++ (M))) w19.heap.size := Ok.nil _ _
 have o2 : Ok ([g21] ++ ([g13] ++ ([g5] ++ (M)))) ([g13] ++ ([g5] ++ (M))) w19.heap.size := (Ok.app (hN22.ok _) (Ok.refl _ _))
 have hG := hG.chg hN22.chg o1 o2
 have hBg5 := hBg5.chg hN22.chg (fun h => nomatch h)
 have hBg13 := hBg13.chg hN22.chg (fun h => nomatch h)
 have p_i23_i15 : ∀ x ∈ [g21], x ∉ ([g13]) := fun x hx hy => absurd (hM x (ml hy)) (Nat.not_lt.2 ((hN22.ge1) x hx))
 have p_i23_i7 : ∀ x ∈ [g21], x ∉ ([g5]) := fun x hx hy => absurd (hM x (mr (ml hy))) (Nat.not_lt.2 ((hN22.ge1) x hx))
 have p_i23_M : ∀ x ∈ [g21], x ∉ M := fun x hx hy => absurd (hM x (mr (mr (hy)))) (Nat.not_lt.2 ((hN22.ge1) x hx))
 have e_i23 : ∀ x ∈ [g21], w.heap.size ≤ x := fun x hx => Nat.le_trans hC.size ((hN22.ge1) x hx)
 have hM : MS ([g21] ++ ([g13] ++ ([g5] ++ (M)))) w20 := (MS.app hN22.ms (hM.chg hN22.chg))
 have hC := hC.trans hN22.chg (Ok.nil _ _)
 have hBg21 : Box w20 g21 (cA .u8 8 (List.replicate 8 (0 : Int))) := hN22.box
 refine stA (l := (cA .u8 8 t19.1)) ha rfl rfl rfl (by kernel_rfl) rfl rfl hBg21 rfl fun a w24 ha hb2 hc25 _ => ?_
 have o1 : Ok [g21] ([g21] ++ ([g13] ++ ([g5] ++ (M)))) w20.heap.size := (fun _ h => .inl (ml h))
 have o2 : Ok ([g21] ++ ([g13] ++ ([g5] ++ (M)))) ([g21] ++ ([g13] ++ ([g5] ++ (M)))) w20.heap.size := (Ok.refl _ _)
 have hG := hG.chg hc25 o1 o2
 have hBg5 := hBg5.chg hc25 ((fun x (hx : x ∈ [g5]) (hy : x ∈ [g21]) => p_i23_i7 x hy hx) g5 (by simp))
 have hBg13 := hBg13.chg hc25 ((fun x (hx : x ∈ [g13]) (hy : x ∈ [g21]) => p_i23_i15 x hy hx) g13 (by simp))
 have hM : MS ([g21] ++ ([g13] ++ ([g5] ++ (M)))) w24 := (hM.chg hc25)
 have hC := hC.trans hc25 (fun x h => .inr (e_i23 x h))
 have hBg21 : Box w24 g21 (cA .u8 8 t19.1) := hb2
 refine seg ha 1 [(1, .pointer (some ⟨g5, 0, none⟩)), (2, .int .i64 t3.2), (3, .pointer (some ⟨g13, 0, none⟩)), (4, .int .i64 t11.2), (5, .pointer (some ⟨g21, 0, none⟩)), (6, .int .i64 t19.2)] (by kernel_rfl) fun a ha => ?_
 refine hK18 _ _ ?_; try clear hK18 K18
 refine wp_seq_k fun K26 hK26 => ?_
 refine wp_region_lit ?_
 refine ldA (cs := (cA .u8 8 t11.1)) ha rfl (by kernel_rfl) rfl rfl rfl (cells_sub (Box.cells hBg13) (all := (cA .u8 8 t11.1)) [] [] (by kernel_rfl)) fun a ha => ?_
 refine ldA (cs := (cA .u8 8 t3.1)) ha rfl (by kernel_rfl) rfl rfl rfl (cells_sub (Box.cells hBg5) (all := (cA .u8 8 t3.1)) [] [] (by kernel_rfl)) fun a ha => ?_
 refine ldA (cs := (cA .u8 8 t11.1)) ha rfl (by kernel_rfl) rfl rfl rfl (cells_sub (Box.cells hBg13) (all := (cA .u8 8 t11.1)) [] [] (by kernel_rfl)) fun a ha => ?_
 refine bslA (vals := ([.agg (cA .u8 8 t11.1).toArray, .agg (cA .u8 8 t3.1).toArray, .agg (cA .u8 8 t11.1).toArray] : List Value)) (T := 27) (z := .agg (cA .u8 8 (List.replicate 8 (0 : Int))).toArray) ha rfl (by kernel_rfl) rfl (by kernel_rfl) (s := 8) (by kernel_rfl) rfl rfl (fun w => by kernel_rfl) (by kernel_rfl) rfl rfl rfl fun a w27 g28 hN29 ha => ?_
 have hN29 := (show New _ _ _ (.cells (((cA .u8 8 t11.1) ++ ((cA .u8 8 t3.1) ++ ((cA .u8 8 t11.1) ++ ([] : List Value))))).toArray 27 (0, 0)) from hN29)
 have o1 : Ok [] ([g21] ++ ([g13] ++ ([g5] ++ (M)))) w24.heap.size := Ok.nil _ _
 have o2 : Ok ([g28] ++ ([g21] ++ ([g13] ++ ([g5] ++ (M))))) ([g21] ++ ([g13] ++ ([g5] ++ (M)))) w24.heap.size := (Ok.app (hN29.ok _) (Ok.refl _ _))
 have hG := hG.chg hN29.chg o1 o2
 have hBg5 := hBg5.chg hN29.chg (fun h => nomatch h)
 have hBg13 := hBg13.chg hN29.chg (fun h => nomatch h)
 have hBg21 := hBg21.chg hN29.chg (fun h => nomatch h)
 have p_i30_i23 : ∀ x ∈ [g28], x ∉ ([g21]) := fun x hx hy => absurd (hM x (ml hy)) (Nat.not_lt.2 ((hN29.ge1) x hx))
 have p_i30_i15 : ∀ x ∈ [g28], x ∉ ([g13]) := fun x hx hy => absurd (hM x (mr (ml hy))) (Nat.not_lt.2 ((hN29.ge1) x hx))
 have p_i30_i7 : ∀ x ∈ [g28], x ∉ ([g5]) := fun x hx hy => absurd (hM x (mr (mr (ml hy)))) (Nat.not_lt.2 ((hN29.ge1) x hx))
 have p_i30_M : ∀ x ∈ [g28], x ∉ M := fun x hx hy => absurd (hM x (mr (mr (mr (hy))))) (Nat.not_lt.2 ((hN29.ge1) x hx))
 have e_i30 : ∀ x ∈ [g28], w.heap.size ≤ x := fun x hx => Nat.le_trans hC.size ((hN29.ge1) x hx)
 have hM : MS ([g28] ++ ([g21] ++ ([g13] ++ ([g5] ++ (M))))) w27 := (MS.app hN29.ms (hM.chg hN29.chg))
 have hC := hC.trans hN29.chg (Ok.nil _ _)
 have f31 : Own (rArr .u8 8) 27 w27 ([g28] ++ ([g21] ++ ([g13] ++ ([g5] ++ (M))))) (some ⟨g28, 0, none⟩) 3 ([t11.1, t3.1, t11.1] : List (List Int)) := hN29.own ⟨(cA .u8 8 t11.1), _, rfl, rfl, ⟨(cA .u8 8 t3.1), _, rfl, rfl, ⟨(cA .u8 8 t11.1), _, rfl, rfl, rfl⟩⟩⟩ (Nat.le_of_ble_eq_true rfl)
 have fz := f31.toRSl (M' := [g21] ++ ([g13] ++ ([g5] ++ (M)))) (fun _ h => .inl (mr (h))) (fun x hx hm => (List.mem_append.1 hm).elim (fun h => p_i30_i23 x hx h) (fun h => (List.mem_append.1 h).elim (fun h => p_i30_i15 x hx h) (fun h => (List.mem_append.1 h).elim (fun h => p_i30_i7 x hx h) (fun h => p_i30_M x hx h))))
 have o1 : Ok [] ([g28] ++ ([g21] ++ ([g13] ++ ([g5] ++ (M))))) w27.heap.size := Ok.nil _ _
 have o2 : Ok ([g21] ++ ([g13] ++ ([g5] ++ (M)))) ([g28] ++ ([g21] ++ ([g13] ++ ([g5] ++ (M))))) w27.heap.size := (fun _ h => .inl (mr (h)))
 have hG := hG.chg (Chg.refl [] _) o1 o2
 have hBg5 := hBg5.chg (Chg.refl [] _) (fun h => nomatch h)
 have hBg13 := hBg13.chg (Chg.refl [] _) (fun h => nomatch h)
 have hBg21 := hBg21.chg (Chg.refl [] _) (fun h => nomatch h)
 have hM : MS ([g21] ++ ([g13] ++ ([g5] ++ (M)))) w27 := (fun x h => hM.chg (Chg.refl [] _) x (mr (h)))
 have hC := hC.trans (Chg.refl [] _) (Ok.nil _ _)
 have f31 := fz
 obtain ⟨t32, H32, H⟩ := bind_some H
 refine cl ha (by rfl) (by kernel_rfl) (by rfl) (by rfl) (by rfl) (community_Set.walk w27 _ hM ([t11.1, t3.1, t11.1] : List (List Int)) (some ⟨g28, 0, none⟩) 3 f31 _ H32) ?_
 rintro _ w32 ⟨ao33, cap33, rfl, f33, hc32, hMn⟩ a ha
 have o1 : Ok [] ([g21] ++ ([g13] ++ ([g5] ++ (M)))) w27.heap.size := Ok.nil _ _
 have o2 : Ok ([g21] ++ ([g13] ++ ([g5] ++ (M)))) ([g21] ++ ([g13] ++ ([g5] ++ (M)))) w27.heap.size := (Ok.refl _ _)
 have hG := hG.chg hc32 o1 o2
 have f31 := f31.chg hc32 o1 o2
 have hBg5 := hBg5.chg hc32 (fun h => nomatch h)
 have hBg13 := hBg13.chg hc32 (fun h => nomatch h)
 have hBg21 := hBg21.chg hc32 (fun h => nomatch h)
 have hM : MS ([g21] ++ ([g13] ++ ([g5] ++ (M)))) w32 := (hM.chg hc32)
 have hC := hC.trans hc32 (Ok.nil _ _)
 refine seg ha 1 [(1, .pointer (some ⟨g5, 0, none⟩)), (2, .int .i64 t3.2), (3, .pointer (some ⟨g13, 0, none⟩)), (4, .int .i64 t11.2), (5, .pointer (some ⟨g21, 0, none⟩)), (6, .int .i64 t19.2), (7, .slice ao33 t32.length cap33)] (by kernel_rfl) fun a ha => ?_
 refine hK26 _ _ ?_; try clear hK26 K26
 refine wp_seq_k fun K34 hK34 => ?_
 have okS : Ok [] ([g21] ++ ([g13] ++ ([g5] ++ (M)))) w32.heap.size := Ok.nil _ _
 have z_f33 := f33
 have z_hBg5 := hBg5
 have z_hBg13 := hBg13
 have z_hBg21 := hBg21
 refine drw (fun w' => Chg [] w32 w') (by kernel_rfl) fun w35 hc36 _ => ?_
 have hS : Chg [] w32 w35 := (Chg.refl [] _).trans hc36 (Ok.nil _ _)
 have o1 : Ok [] ([g21] ++ ([g13] ++ ([g5] ++ (M)))) w32.heap.size := Ok.nil _ _
 have o2 : Ok ([g21] ++ ([g13] ++ ([g5] ++ (M)))) ([g21] ++ ([g13] ++ ([g5] ++ (M)))) w32.heap.size := (Ok.refl _ _)
 have hG := hG.chg hc36 o1 o2
 have f33 := f33.chg hc36 o1 o2
 have hBg5 := hBg5.chg hc36 (fun h => nomatch h)
 have hBg13 := hBg13.chg hc36 (fun h => nomatch h)
 have hBg21 := hBg21.chg hc36 (fun h => nomatch h)
 have hM : MS ([g21] ++ ([g13] ++ ([g5] ++ (M)))) w35 := (hM.chg hc36)
 have hC := hC.trans hc36 (Ok.nil _ _)
 obtain ⟨s37, H37, H⟩ := bind_some H
 have J37 : ∀ (a : Act) (w37 : World), Has a Tryd.f4.ntmps [(0, .bool s37)] → (Box w37 g5 (cA .u8 8 t3.1)) → (Box w37 g13 (cA .u8 8 t11.1)) → (Box w37 g21 (cA .u8 8 t19.1)) → (GF w37 ([g21] ++ ([g13] ++ ([g5] ++ (M))))) → (Chg [] w w37) → (MS ([g21] ++ ([g13] ++ ([g5] ++ (M)))) w37) → K34 a w37 := by
  intro a w37 ha hBg5 hBg13 hBg21 hG hC hM
  refine hK34 _ _ ?_; try clear hK34 K34
  refine wp_ret ?_
  try simp only [Exit.then, Exit.inBlock]
  have o1 : Ok [] ([g21] ++ ([g13] ++ ([g5] ++ (M)))) w37.heap.size := Ok.nil _ _
  have o2 : Ok (M) ([g21] ++ ([g13] ++ ([g5] ++ (M)))) w37.heap.size := (fun _ h => .inl (mr (mr (mr (h)))))
  have hG := hG.chg (Chg.refl [] _) o1 o2
  have hBg5 := hBg5.chg (Chg.refl [] _) (fun h => nomatch h)
  have hBg13 := hBg13.chg (Chg.refl [] _) (fun h => nomatch h)
  have hBg21 := hBg21.chg (Chg.refl [] _) (fun h => nomatch h)
  have hM : MS (M) w37 := (fun x h => hM.chg (Chg.refl [] _) x (mr (mr (mr (h)))))
  have hC := hC.trans (Chg.refl [] _) (Ok.nil _ _)
  obtain rfl := Option.some.inj H
  refine rt1 ha rfl rfl ?_
  exact ⟨rfl, hC, hM⟩
 have H := H37
 refine tkpz 0 0 (.int .i64 t3.2) ha (s := hS) (q := fun a ha => ?_)
 refine tkpz 1 0 (.bool (t3.2 == (0 : Int))) ha (s := hS) (q := fun a ha => ?_)
 refine tkpz 2 0 (.bool (t3.2 == (0 : Int))) ha (s := hS) (q := fun a ha => ?_)
 have ha := ha.sel (env' := [(29, .bool (t3.2 == (0 : Int))), (1, .pointer (some ⟨g5, 0, none⟩)), (3, .pointer (some ⟨g13, 0, none⟩)), (4, .int .i64 t11.2), (5, .pointer (some ⟨g21, 0, none⟩)), (6, .int .i64 t19.2), (7, .slice ao33 t32.length cap33)]) (by kernel_rfl)
 rcases Bool.eq_false_or_eq_true (t3.2 == (0 : Int)) with hb38 | hb38
 ·have ha := ha.lit hb38
  have H := ite_t hb38 H
  refine tkz 3 ha (v := .agg (cA .u8 8 t3.1).toArray) (y := fun w' hs => ldA_run (cs := (cA .u8 8 t3.1)) ha rfl (by kernel_rfl) (cells_sub (Box.cells (Box.chg z_hBg5 hs (fun h => nomatch h))) (all := (cA .u8 8 t3.1)) [] [] (by kernel_rfl))) (s := hS) (q := fun a ha => ?_)
  refine ac 4 (by kernel_rfl) (by rfl) fun K39 hK39 => ?_
  obtain ⟨t40, H40, H⟩ := bind_some H
  refine cl ha (by rfl) (by kernel_rfl) (by rfl) (by rfl) (by rfl) (community_Text.walk w35 _ hM hG t3.1 k _ H40) ?_
  rintro _ w40 ⟨rfl, hc40, hMn⟩ a ha
  have o1 : Ok [] ([g21] ++ ([g13] ++ ([g5] ++ (M)))) w35.heap.size := Ok.nil _ _
  have o2 : Ok ([g21] ++ ([g13] ++ ([g5] ++ (M)))) ([g21] ++ ([g13] ++ ([g5] ++ (M)))) w35.heap.size := (Ok.refl _ _)
  have hG := hG.chg hc40 o1 o2
  have f33 := f33.chg hc40 o1 o2
  have hBg5 := hBg5.chg hc40 (fun h => nomatch h)
  have hBg13 := hBg13.chg hc40 (fun h => nomatch h)
  have hBg21 := hBg21.chg hc40 (fun h => nomatch h)
  have hM : MS ([g21] ++ ([g13] ++ ([g5] ++ (M)))) w40 := (hM.chg hc40)
  have hC := hC.trans hc40 (Ok.nil _ _)
  have hS := hS.trans hc40 (Ok.nil _ _)
  refine ae hK39 hS ?_; clear hK39 K39
  refine tkpz 5 0 (.bool ((bstr t40).toList == (bstr ([114, 116, 58, 48, 58, 54, 53, 48, 48, 48, 58, 55, 55] : List UInt8)).toList)) ha (s := hS) (q := fun a ha => ?_)
  refine tkpz 6 3 (.bool ((bstr t40).toList == (bstr ([114, 116, 58, 48, 58, 54, 53, 48, 48, 48, 58, 55, 55] : List UInt8)).toList)) ha (s := hS) (q := fun a ha => ?_)
  refine tkpz 7 0 (.bool ((bstr t40).toList == (bstr ([114, 116, 58, 48, 58, 54, 53, 48, 48, 48, 58, 55, 55] : List UInt8)).toList)) ha (s := hS) (q := fun a ha => ?_)
  have ha := ha.sel (env' := [(34, .bool ((bstr t40).toList == (bstr ([114, 116, 58, 48, 58, 54, 53, 48, 48, 48, 58, 55, 55] : List UInt8)).toList)), (1, .pointer (some ⟨g5, 0, none⟩)), (3, .pointer (some ⟨g13, 0, none⟩)), (4, .int .i64 t11.2), (5, .pointer (some ⟨g21, 0, none⟩)), (6, .int .i64 t19.2), (7, .slice ao33 t32.length cap33)]) (by kernel_rfl)
  rcases Bool.eq_false_or_eq_true ((bstr t40).toList == (bstr ([114, 116, 58, 48, 58, 54, 53, 48, 48, 48, 58, 55, 55] : List UInt8)).toList) with hb41 | hb41
  ·have ha := ha.lit hb41
   have H := ite_t hb41 H
   refine tkpz 8 0 (.int .i64 t11.2) ha (s := hS) (q := fun a ha => ?_)
   refine tkpz 9 0 (.bool (t11.2 == (0 : Int))) ha (s := hS) (q := fun a ha => ?_)
   refine tkpz 10 3 (.bool (t11.2 == (0 : Int))) ha (s := hS) (q := fun a ha => ?_)
   refine tkpz 11 0 (.bool (t11.2 == (0 : Int))) ha (s := hS) (q := fun a ha => ?_)
   have ha := ha.sel (env' := [(38, .bool (t11.2 == (0 : Int))), (1, .pointer (some ⟨g5, 0, none⟩)), (3, .pointer (some ⟨g13, 0, none⟩)), (5, .pointer (some ⟨g21, 0, none⟩)), (6, .int .i64 t19.2), (7, .slice ao33 t32.length cap33)]) (by kernel_rfl)
   rcases Bool.eq_false_or_eq_true (t11.2 == (0 : Int)) with hb42 | hb42
   ·have ha := ha.lit hb42
    have H := ite_t hb42 H
    refine tkz 12 ha (v := .agg (cA .u8 8 t11.1).toArray) (y := fun w' hs => ldA_run (cs := (cA .u8 8 t11.1)) ha rfl (by kernel_rfl) (cells_sub (Box.cells (Box.chg z_hBg13 hs (fun h => nomatch h))) (all := (cA .u8 8 t11.1)) [] [] (by kernel_rfl))) (s := hS) (q := fun a ha => ?_)
    refine ac 13 (by kernel_rfl) (by rfl) fun K43 hK43 => ?_
    obtain ⟨t44, H44, H⟩ := bind_some H
    refine cl ha (by rfl) (by kernel_rfl) (by rfl) (by rfl) (by rfl) (community_Text.walk w40 _ hM hG t11.1 k _ H44) ?_
    rintro _ w44 ⟨rfl, hc44, hMn⟩ a ha
    have o1 : Ok [] ([g21] ++ ([g13] ++ ([g5] ++ (M)))) w40.heap.size := Ok.nil _ _
    have o2 : Ok ([g21] ++ ([g13] ++ ([g5] ++ (M)))) ([g21] ++ ([g13] ++ ([g5] ++ (M)))) w40.heap.size := (Ok.refl _ _)
    have hG := hG.chg hc44 o1 o2
    have f33 := f33.chg hc44 o1 o2
    have hBg5 := hBg5.chg hc44 (fun h => nomatch h)
    have hBg13 := hBg13.chg hc44 (fun h => nomatch h)
    have hBg21 := hBg21.chg hc44 (fun h => nomatch h)
    have hM : MS ([g21] ++ ([g13] ++ ([g5] ++ (M)))) w44 := (hM.chg hc44)
    have hC := hC.trans hc44 (Ok.nil _ _)
    have hS := hS.trans hc44 (Ok.nil _ _)
    refine ae hK43 hS ?_; clear hK43 K43
    refine tkpz 14 0 (.bool ((bstr t44).toList == (bstr ([105, 109, 112, 111, 114, 116, 58, 49, 48, 46, 48, 46, 48, 46, 49, 58, 51] : List UInt8)).toList)) ha (s := hS) (q := fun a ha => ?_)
    refine tkpz 15 3 (.bool ((bstr t44).toList == (bstr ([105, 109, 112, 111, 114, 116, 58, 49, 48, 46, 48, 46, 48, 46, 49, 58, 51] : List UInt8)).toList)) ha (s := hS) (q := fun a ha => ?_)
    refine tkpz 16 0 (.bool ((bstr t44).toList == (bstr ([105, 109, 112, 111, 114, 116, 58, 49, 48, 46, 48, 46, 48, 46, 49, 58, 51] : List UInt8)).toList)) ha (s := hS) (q := fun a ha => ?_)
    have ha := ha.sel (env' := [(43, .bool ((bstr t44).toList == (bstr ([105, 109, 112, 111, 114, 116, 58, 49, 48, 46, 48, 46, 48, 46, 49, 58, 51] : List UInt8)).toList)), (1, .pointer (some ⟨g5, 0, none⟩)), (5, .pointer (some ⟨g21, 0, none⟩)), (6, .int .i64 t19.2), (7, .slice ao33 t32.length cap33)]) (by kernel_rfl)
    rcases Bool.eq_false_or_eq_true ((bstr t44).toList == (bstr ([105, 109, 112, 111, 114, 116, 58, 49, 48, 46, 48, 46, 48, 46, 49, 58, 51] : List UInt8)).toList) with hb45 | hb45
    ·have ha := ha.lit hb45
     have H := ite_t hb45 H
     refine tkpz 17 0 (.int .i64 t19.2) ha (s := hS) (q := fun a ha => ?_)
     refine tkpz 18 0 (.bool (t19.2 == (0 : Int))) ha (s := hS) (q := fun a ha => ?_)
     refine tkpz 19 3 (.bool (t19.2 == (0 : Int))) ha (s := hS) (q := fun a ha => ?_)
     refine tkpz 20 0 (.bool (t19.2 == (0 : Int))) ha (s := hS) (q := fun a ha => ?_)
     have ha := ha.sel (env' := [(47, .bool (t19.2 == (0 : Int))), (1, .pointer (some ⟨g5, 0, none⟩)), (5, .pointer (some ⟨g21, 0, none⟩)), (7, .slice ao33 t32.length cap33)]) (by kernel_rfl)
     rcases Bool.eq_false_or_eq_true (t19.2 == (0 : Int)) with hb46 | hb46
     ·have ha := ha.lit hb46
      have H := ite_t hb46 H
      refine tkz 21 ha (v := .agg (cA .u8 8 t19.1).toArray) (y := fun w' hs => ldA_run (cs := (cA .u8 8 t19.1)) ha rfl (by kernel_rfl) (cells_sub (Box.cells (Box.chg z_hBg21 hs (fun h => nomatch h))) (all := (cA .u8 8 t19.1)) [] [] (by kernel_rfl))) (s := hS) (q := fun a ha => ?_)
      refine ac 22 (by kernel_rfl) (by rfl) fun K47 hK47 => ?_
      obtain ⟨t48, H48, H⟩ := bind_some H
      refine cl ha (by rfl) (by kernel_rfl) (by rfl) (by rfl) (by rfl) (community_Text.walk w44 _ hM hG t19.1 k _ H48) ?_
      rintro _ w48 ⟨rfl, hc48, hMn⟩ a ha
      have o1 : Ok [] ([g21] ++ ([g13] ++ ([g5] ++ (M)))) w44.heap.size := Ok.nil _ _
      have o2 : Ok ([g21] ++ ([g13] ++ ([g5] ++ (M)))) ([g21] ++ ([g13] ++ ([g5] ++ (M)))) w44.heap.size := (Ok.refl _ _)
      have hG := hG.chg hc48 o1 o2
      have f33 := f33.chg hc48 o1 o2
      have hBg5 := hBg5.chg hc48 (fun h => nomatch h)
      have hBg13 := hBg13.chg hc48 (fun h => nomatch h)
      have hBg21 := hBg21.chg hc48 (fun h => nomatch h)
      have hM : MS ([g21] ++ ([g13] ++ ([g5] ++ (M)))) w48 := (hM.chg hc48)
      have hC := hC.trans hc48 (Ok.nil _ _)
      have hS := hS.trans hc48 (Ok.nil _ _)
      refine ae hK47 hS ?_; clear hK47 K47
      refine tkpz 23 0 (.bool ((bstr t48).toList == (bstr ([115, 111, 117, 114, 99, 101, 58, 54, 53, 48, 48, 48] : List UInt8)).toList)) ha (s := hS) (q := fun a ha => ?_)
      refine tkpz 24 3 (.bool ((bstr t48).toList == (bstr ([115, 111, 117, 114, 99, 101, 58, 54, 53, 48, 48, 48] : List UInt8)).toList)) ha (s := hS) (q := fun a ha => ?_)
      refine tkpz 25 0 (.bool ((bstr t48).toList == (bstr ([115, 111, 117, 114, 99, 101, 58, 54, 53, 48, 48, 48] : List UInt8)).toList)) ha (s := hS) (q := fun a ha => ?_)
      have ha := ha.sel (env' := [(52, .bool ((bstr t48).toList == (bstr ([115, 111, 117, 114, 99, 101, 58, 54, 53, 48, 48, 48] : List UInt8)).toList)), (1, .pointer (some ⟨g5, 0, none⟩)), (7, .slice ao33 t32.length cap33)]) (by kernel_rfl)
      rcases Bool.eq_false_or_eq_true ((bstr t48).toList == (bstr ([115, 111, 117, 114, 99, 101, 58, 54, 53, 48, 48, 48] : List UInt8)).toList) with hb49 | hb49
      ·have ha := ha.lit hb49
       have H := ite_t hb49 H
       refine tkpz 26 0 (.slice ao33 t32.length cap33) ha (s := hS) (q := fun a ha => ?_)
       refine tkpz 27 0 (.int .i64 (t32.length : Int)) ha (s := hS) (q := fun a ha => ?_)
       refine tkpz 28 0 (.bool ((t32.length : Int) == (2 : Int))) ha (s := hS) (q := fun a ha => ?_)
       refine tkpz 29 3 (.bool ((t32.length : Int) == (2 : Int))) ha (s := hS) (q := fun a ha => ?_)
       refine tkpz 30 0 (.bool ((t32.length : Int) == (2 : Int))) ha (s := hS) (q := fun a ha => ?_)
       have ha := ha.sel (env' := [(57, .bool ((t32.length : Int) == (2 : Int))), (1, .pointer (some ⟨g5, 0, none⟩)), (7, .slice ao33 t32.length cap33)]) (by kernel_rfl)
       rcases Bool.eq_false_or_eq_true ((t32.length : Int) == (2 : Int)) with hb50 | hb50
       ·have ha := ha.lit hb50
        have H := ite_t hb50 H
        refine tkpz 31 0 (.slice ao33 t32.length cap33) ha (s := hS) (q := fun a ha => ?_)
        obtain ⟨⟨hx51, hx51'⟩, H⟩ := ite_some H
        obtain ⟨ge52, oe530, cs54, hx51eq, hn57, hR55, hE56⟩ := RSl.elem z_f33 (Int.toNat (0 : Int)) (by omega)
        rw [rd_get] at hR55
        obtain rfl := hR55
        have hE56 : ∀ j v, (cA .u8 8 (rd t32 (0 : Int)))[j]? = some v → w32.cell? ⟨ge52, (oe530 + (Int.toNat (0 : Int)) * (rArr .u8 8).sz) + j, none⟩ = some v := hE56
        refine tkz 32 ha (v := .pointer (some ⟨ge52, (oe530 + (Int.toNat (0 : Int)) * (rArr .u8 8).sz), none⟩)) (y := fun w' _ => ix_run (r := (rArr .u8 8)) (T := 27) ha (by kernel_rfl) (by kernel_rfl) (by rfl) (by rfl) hx51eq hx51 hx51') (s := hS) (q := fun a ha => ?_)
        refine tkz 33 ha (v := .agg (cA .u8 8 (rd t32 (0 : Int))).toArray) (y := fun w' hs => ldA_run (cs := (cA .u8 8 (rd t32 (0 : Int)))) ha rfl (by kernel_rfl) (cells_sub (fun j v hv => cell_keep hs okS hn57 (hE56 j v hv)) (all := (cA .u8 8 (rd t32 (0 : Int)))) [] [] (by kernel_rfl))) (s := hS) (q := fun a ha => ?_)
        refine tkz 34 ha (v := .agg (cA .u8 8 t3.1).toArray) (y := fun w' hs => ldA_run (cs := (cA .u8 8 t3.1)) ha rfl (by kernel_rfl) (cells_sub (Box.cells (Box.chg z_hBg5 hs (fun h => nomatch h))) (all := (cA .u8 8 t3.1)) [] [] (by kernel_rfl))) (s := hS) (q := fun a ha => ?_)
        refine tkz 35 ha (v := .bool (eqA 8 (rd t32 (0 : Int)) t3.1)) (y := fun w' hs => eqs_run (r := (eqA 8 (rd t32 (0 : Int)) t3.1)) (m := 9) ha rfl rfl (by kernel_rfl) rfl (by kernel_rfl) w') (s := hS) (q := fun a ha => ?_)
        refine tkpz 36 3 (.bool (eqA 8 (rd t32 (0 : Int)) t3.1)) ha (s := hS) (q := fun a ha => ?_)
        refine tkpz 37 0 (.bool (eqA 8 (rd t32 (0 : Int)) t3.1)) ha (s := hS) (q := fun a ha => ?_)
        have ha := ha.sel (env' := [(64, .bool (eqA 8 (rd t32 (0 : Int)) t3.1)), (1, .pointer (some ⟨g5, 0, none⟩)), (7, .slice ao33 t32.length cap33)]) (by kernel_rfl)
        rcases Bool.eq_false_or_eq_true ((eqA 8 (rd t32 (0 : Int)) t3.1)) with hb58 | hb58
        ·have ha := ha.lit hb58
         have H := ite_t hb58 H
         refine tkpz 38 0 (.slice ao33 t32.length cap33) ha (s := hS) (q := fun a ha => ?_)
         refine tkz 39 ha (v := .agg (cA .u8 8 t3.1).toArray) (y := fun w' hs => ldA_run (cs := (cA .u8 8 t3.1)) ha rfl (by kernel_rfl) (cells_sub (Box.cells (Box.chg z_hBg5 hs (fun h => nomatch h))) (all := (cA .u8 8 t3.1)) [] [] (by kernel_rfl))) (s := hS) (q := fun a ha => ?_)
         refine ac 40 (by kernel_rfl) (by rfl) fun K59 hK59 => ?_
         refine bslA (vals := ([.agg (cA .u8 8 t3.1).toArray] : List Value)) (T := 27) (z := .agg (cA .u8 8 (List.replicate 8 (0 : Int))).toArray) ha rfl (by kernel_rfl) rfl (by kernel_rfl) (s := 8) (by kernel_rfl) rfl rfl (fun w => by kernel_rfl) (by kernel_rfl) rfl rfl rfl fun a w60 g61 hN62 ha => ?_
         have hN62 := (show New _ _ _ (.cells (((cA .u8 8 t3.1) ++ ([] : List Value))).toArray 27 (0, 0)) from hN62)
         have o1 : Ok [] ([g21] ++ ([g13] ++ ([g5] ++ (M)))) w48.heap.size := Ok.nil _ _
         have o2 : Ok ([g61] ++ ([g21] ++ ([g13] ++ ([g5] ++ (M))))) ([g21] ++ ([g13] ++ ([g5] ++ (M)))) w48.heap.size := (Ok.app (hN62.ok _) (Ok.refl _ _))
         have hG := hG.chg hN62.chg o1 o2
         have f33 := f33.chg hN62.chg o1 o2
         have hBg5 := hBg5.chg hN62.chg (fun h => nomatch h)
         have hBg13 := hBg13.chg hN62.chg (fun h => nomatch h)
         have hBg21 := hBg21.chg hN62.chg (fun h => nomatch h)
         have p_iD000063_i23 : ∀ x ∈ [g61], x ∉ ([g21]) := fun x hx hy => absurd (hM x (ml hy)) (Nat.not_lt.2 ((hN62.ge1) x hx))
         have p_iD000063_i15 : ∀ x ∈ [g61], x ∉ ([g13]) := fun x hx hy => absurd (hM x (mr (ml hy))) (Nat.not_lt.2 ((hN62.ge1) x hx))
         have p_iD000063_i7 : ∀ x ∈ [g61], x ∉ ([g5]) := fun x hx hy => absurd (hM x (mr (mr (ml hy)))) (Nat.not_lt.2 ((hN62.ge1) x hx))
         have p_iD000063_M : ∀ x ∈ [g61], x ∉ M := fun x hx hy => absurd (hM x (mr (mr (mr (hy))))) (Nat.not_lt.2 ((hN62.ge1) x hx))
         have e_iD000063 : ∀ x ∈ [g61], w.heap.size ≤ x := fun x hx => Nat.le_trans hC.size ((hN62.ge1) x hx)
         have hM : MS ([g61] ++ ([g21] ++ ([g13] ++ ([g5] ++ (M))))) w60 := (MS.app hN62.ms (hM.chg hN62.chg))
         have hC := hC.trans hN62.chg (Ok.nil _ _)
         have d_iD000063 : Ok ([g61]) [] w32.heap.size := fun x hx => .inr (Nat.le_trans hS.size ((hN62.ge1) x hx))
         have hS := hS.trans hN62.chg (Ok.nil _ _)
         have f64 : Own (rArr .u8 8) 27 w60 ([g61] ++ ([g21] ++ ([g13] ++ ([g5] ++ (M))))) (some ⟨g61, 0, none⟩) 1 ([t3.1] : List (List Int)) := hN62.own ⟨(cA .u8 8 t3.1), _, rfl, rfl, rfl⟩ (Nat.le_of_ble_eq_true rfl)
         refine ae hK59 hS ?_; clear hK59 K59
         refine ac 41 (by kernel_rfl) (by rfl) fun K65 hK65 => ?_
         have fz := f64.toRSl (M' := [g21] ++ ([g13] ++ ([g5] ++ (M)))) (fun _ h => .inl (mr (h))) (fun x hx hm => (List.mem_append.1 hm).elim (fun h => p_iD000063_i23 x hx h) (fun h => (List.mem_append.1 h).elim (fun h => p_iD000063_i15 x hx h) (fun h => (List.mem_append.1 h).elim (fun h => p_iD000063_i7 x hx h) (fun h => p_iD000063_M x hx h))))
         have o1 : Ok [] ([g61] ++ ([g21] ++ ([g13] ++ ([g5] ++ (M))))) w60.heap.size := Ok.nil _ _
         have o2 : Ok ([g21] ++ ([g13] ++ ([g5] ++ (M)))) ([g61] ++ ([g21] ++ ([g13] ++ ([g5] ++ (M))))) w60.heap.size := (fun _ h => .inl (mr (h)))
         have hG := hG.chg (Chg.refl [] _) o1 o2
         have f33 := f33.chg (Chg.refl [] _) o1 o2
         have hBg5 := hBg5.chg (Chg.refl [] _) (fun h => nomatch h)
         have hBg13 := hBg13.chg (Chg.refl [] _) (fun h => nomatch h)
         have hBg21 := hBg21.chg (Chg.refl [] _) (fun h => nomatch h)
         have hM : MS ([g21] ++ ([g13] ++ ([g5] ++ (M)))) w60 := (fun x h => hM.chg (Chg.refl [] _) x (mr (h)))
         have hC := hC.trans (Chg.refl [] _) (Ok.nil _ _)
         have hS := hS.trans (Chg.refl [] _) (Ok.nil _ _)
         have f64 := fz
         obtain ⟨t66, H66, H⟩ := bind_some H
         refine cl ha (by rfl) (by kernel_rfl) (by rfl) (by rfl) (by rfl) (community_Meet.walk w60 _ hM t32 ao33 cap33 f33 ([t3.1] : List (List Int)) (some ⟨g61, 0, none⟩) 1 f64 k _ H66) ?_
         rintro _ w66 ⟨rfl, hc66, hMn⟩ a ha
         have o1 : Ok [] ([g21] ++ ([g13] ++ ([g5] ++ (M)))) w60.heap.size := Ok.nil _ _
         have o2 : Ok ([g21] ++ ([g13] ++ ([g5] ++ (M)))) ([g21] ++ ([g13] ++ ([g5] ++ (M)))) w60.heap.size := (Ok.refl _ _)
         have hG := hG.chg hc66 o1 o2
         have f33 := f33.chg hc66 o1 o2
         have f64 := f64.chg hc66 o1 o2
         have hBg5 := hBg5.chg hc66 (fun h => nomatch h)
         have hBg13 := hBg13.chg hc66 (fun h => nomatch h)
         have hBg21 := hBg21.chg hc66 (fun h => nomatch h)
         have hM : MS ([g21] ++ ([g13] ++ ([g5] ++ (M)))) w66 := (hM.chg hc66)
         have hC := hC.trans hc66 (Ok.nil _ _)
         have hS := hS.trans hc66 (Ok.nil _ _)
         refine ae hK65 hS ?_; clear hK65 K65
         refine tkpz 42 3 (.bool t66) ha (s := hS) (q := fun a ha => ?_)
         refine tkpz 43 0 (.bool t66) ha (s := hS) (q := fun a ha => ?_)
         have ha := ha.sel (env' := [(70, .bool t66)]) (by kernel_rfl)
         rcases Bool.eq_false_or_eq_true (t66) with hb67 | hb67
         ·have ha := ha.lit hb67
          have H := ite_t hb67 H
          refine ac 44 (by kernel_rfl) (by rfl) fun K68 hK68 => ?_
          refine opk (v := .agg (cA .u8 8 ([(0 : Int), (9 : Int), (0 : Int), (0 : Int), (0 : Int), (0 : Int), (0 : Int), (0 : Int)] : List Int)).toArray) ha rfl rfl rfl rfl rfl (fun w => by kernel_rfl) fun a ha => ?_
          refine ae hK68 hS ?_; clear hK68 K68
          refine ac 45 (by kernel_rfl) (by rfl) fun K69 hK69 => ?_
          obtain ⟨t70, H70, H⟩ := bind_some H
          refine cl ha (by rfl) (by kernel_rfl) (by rfl) (by rfl) (by rfl) (community_Kind.walk w66 _ hM ([(0 : Int), (9 : Int), (0 : Int), (0 : Int), (0 : Int), (0 : Int), (0 : Int), (0 : Int)] : List Int) _ H70) ?_
          rintro _ w70 ⟨rfl, hc70, hMn⟩ a ha
          have o1 : Ok [] ([g21] ++ ([g13] ++ ([g5] ++ (M)))) w66.heap.size := Ok.nil _ _
          have o2 : Ok ([g21] ++ ([g13] ++ ([g5] ++ (M)))) ([g21] ++ ([g13] ++ ([g5] ++ (M)))) w66.heap.size := (Ok.refl _ _)
          have hG := hG.chg hc70 o1 o2
          have hBg5 := hBg5.chg hc70 (fun h => nomatch h)
          have hBg13 := hBg13.chg hc70 (fun h => nomatch h)
          have hBg21 := hBg21.chg hc70 (fun h => nomatch h)
          have hM : MS ([g21] ++ ([g13] ++ ([g5] ++ (M)))) w70 := (hM.chg hc70)
          have hC := hC.trans hc70 (Ok.nil _ _)
          have hS := hS.trans hc70 (Ok.nil _ _)
          refine ae hK69 hS ?_; clear hK69 K69
          refine tkpz 46 0 (.bool (t70 == (0 : Int))) ha (s := hS) (q := fun a ha => ?_)
          refine tkpz 47 3 (.bool (t70 == (0 : Int))) ha (s := hS) (q := fun a ha => ?_)
          refine tkpz 48 0 (.bool (t70 == (0 : Int))) ha (s := hS) (q := fun a ha => ?_)
          refine dn (by kernel_rfl) ?_
          obtain rfl := Option.some.inj H
          exact J37 _ _ (ha.sel (by kernel_rfl)) hBg5 hBg13 hBg21 hG hC hM
         ·have ha := ha.lit hb67
          have H := ite_f hb67 H
          refine tkoz 44 ha (s := hS) (q := fun a ha => ?_)
          refine tkoz 45 ha (s := hS) (q := fun a ha => ?_)
          refine tkoz 46 ha (s := hS) (q := fun a ha => ?_)
          refine tkpz 47 4 (.bool false) ha (s := hS) (q := fun a ha => ?_)
          refine tkpz 48 0 (.bool false) ha (s := hS) (q := fun a ha => ?_)
          refine dn (by kernel_rfl) ?_
          obtain rfl := Option.some.inj H
          exact J37 _ _ (ha.sel (by kernel_rfl)) hBg5 hBg13 hBg21 hG hC hM
        ·have ha := ha.lit hb58
         have H := ite_f hb58 H
         refine tkoz 38 ha (s := hS) (q := fun a ha => ?_)
         refine tkoz 39 ha (s := hS) (q := fun a ha => ?_)
         refine tkoz 40 ha (s := hS) (q := fun a ha => ?_)
         refine tkoz 41 ha (s := hS) (q := fun a ha => ?_)
         refine tkpz 42 4 (.bool false) ha (s := hS) (q := fun a ha => ?_)
         refine tkpz 43 0 (.bool false) ha (s := hS) (q := fun a ha => ?_)
         refine tkoz 44 ha (s := hS) (q := fun a ha => ?_)
         refine tkoz 45 ha (s := hS) (q := fun a ha => ?_)
         refine tkoz 46 ha (s := hS) (q := fun a ha => ?_)
         refine tkpz 47 4 (.bool false) ha (s := hS) (q := fun a ha => ?_)
         refine tkpz 48 0 (.bool false) ha (s := hS) (q := fun a ha => ?_)
         refine dn (by kernel_rfl) ?_
         obtain rfl := Option.some.inj H
         exact J37 _ _ (ha.sel (by kernel_rfl)) hBg5 hBg13 hBg21 hG hC hM
       ·have ha := ha.lit hb50
        have H := ite_f hb50 H
        refine tkoz 31 ha (s := hS) (q := fun a ha => ?_)
        refine tkoz 32 ha (s := hS) (q := fun a ha => ?_)
        refine tkoz 33 ha (s := hS) (q := fun a ha => ?_)
        refine tkoz 34 ha (s := hS) (q := fun a ha => ?_)
        refine tkoz 35 ha (s := hS) (q := fun a ha => ?_)
        refine tkpz 36 4 (.bool false) ha (s := hS) (q := fun a ha => ?_)
        refine tkpz 37 0 (.bool false) ha (s := hS) (q := fun a ha => ?_)
        refine tkoz 38 ha (s := hS) (q := fun a ha => ?_)
        refine tkoz 39 ha (s := hS) (q := fun a ha => ?_)
        refine tkoz 40 ha (s := hS) (q := fun a ha => ?_)
        refine tkoz 41 ha (s := hS) (q := fun a ha => ?_)
        refine tkpz 42 4 (.bool false) ha (s := hS) (q := fun a ha => ?_)
        refine tkpz 43 0 (.bool false) ha (s := hS) (q := fun a ha => ?_)
        refine tkoz 44 ha (s := hS) (q := fun a ha => ?_)
        refine tkoz 45 ha (s := hS) (q := fun a ha => ?_)
        refine tkoz 46 ha (s := hS) (q := fun a ha => ?_)
        refine tkpz 47 4 (.bool false) ha (s := hS) (q := fun a ha => ?_)
        refine tkpz 48 0 (.bool false) ha (s := hS) (q := fun a ha => ?_)
        refine dn (by kernel_rfl) ?_
        obtain rfl := Option.some.inj H
        exact J37 _ _ (ha.sel (by kernel_rfl)) hBg5 hBg13 hBg21 hG hC hM
      ·have ha := ha.lit hb49
       have H := ite_f hb49 H
       refine tkoz 26 ha (s := hS) (q := fun a ha => ?_)
       refine tkoz 27 ha (s := hS) (q := fun a ha => ?_)
       refine tkoz 28 ha (s := hS) (q := fun a ha => ?_)
       refine tkpz 29 4 (.bool false) ha (s := hS) (q := fun a ha => ?_)
       refine tkpz 30 0 (.bool false) ha (s := hS) (q := fun a ha => ?_)
       refine tkoz 31 ha (s := hS) (q := fun a ha => ?_)
       refine tkoz 32 ha (s := hS) (q := fun a ha => ?_)
       refine tkoz 33 ha (s := hS) (q := fun a ha => ?_)
       refine tkoz 34 ha (s := hS) (q := fun a ha => ?_)
       refine tkoz 35 ha (s := hS) (q := fun a ha => ?_)
       refine tkpz 36 4 (.bool false) ha (s := hS) (q := fun a ha => ?_)
       refine tkpz 37 0 (.bool false) ha (s := hS) (q := fun a ha => ?_)
       refine tkoz 38 ha (s := hS) (q := fun a ha => ?_)
       refine tkoz 39 ha (s := hS) (q := fun a ha => ?_)
       refine tkoz 40 ha (s := hS) (q := fun a ha => ?_)
       refine tkoz 41 ha (s := hS) (q := fun a ha => ?_)
       refine tkpz 42 4 (.bool false) ha (s := hS) (q := fun a ha => ?_)
       refine tkpz 43 0 (.bool false) ha (s := hS) (q := fun a ha => ?_)
       refine tkoz 44 ha (s := hS) (q := fun a ha => ?_)
       refine tkoz 45 ha (s := hS) (q := fun a ha => ?_)
       refine tkoz 46 ha (s := hS) (q := fun a ha => ?_)
       refine tkpz 47 4 (.bool false) ha (s := hS) (q := fun a ha => ?_)
       refine tkpz 48 0 (.bool false) ha (s := hS) (q := fun a ha => ?_)
       refine dn (by kernel_rfl) ?_
       obtain rfl := Option.some.inj H
       exact J37 _ _ (ha.sel (by kernel_rfl)) hBg5 hBg13 hBg21 hG hC hM
     ·have ha := ha.lit hb46
      have H := ite_f hb46 H
      refine tkoz 21 ha (s := hS) (q := fun a ha => ?_)
      refine tkoz 22 ha (s := hS) (q := fun a ha => ?_)
      refine tkoz 23 ha (s := hS) (q := fun a ha => ?_)
      refine tkpz 24 4 (.bool false) ha (s := hS) (q := fun a ha => ?_)
      refine tkpz 25 0 (.bool false) ha (s := hS) (q := fun a ha => ?_)
      refine tkoz 26 ha (s := hS) (q := fun a ha => ?_)
      refine tkoz 27 ha (s := hS) (q := fun a ha => ?_)
      refine tkoz 28 ha (s := hS) (q := fun a ha => ?_)
      refine tkpz 29 4 (.bool false) ha (s := hS) (q := fun a ha => ?_)
      refine tkpz 30 0 (.bool false) ha (s := hS) (q := fun a ha => ?_)
      refine tkoz 31 ha (s := hS) (q := fun a ha => ?_)
      refine tkoz 32 ha (s := hS) (q := fun a ha => ?_)
      refine tkoz 33 ha (s := hS) (q := fun a ha => ?_)
      refine tkoz 34 ha (s := hS) (q := fun a ha => ?_)
      refine tkoz 35 ha (s := hS) (q := fun a ha => ?_)
      refine tkpz 36 4 (.bool false) ha (s := hS) (q := fun a ha => ?_)
      refine tkpz 37 0 (.bool false) ha (s := hS) (q := fun a ha => ?_)
      refine tkoz 38 ha (s := hS) (q := fun a ha => ?_)
      refine tkoz 39 ha (s := hS) (q := fun a ha => ?_)
      refine tkoz 40 ha (s := hS) (q := fun a ha => ?_)
      refine tkoz 41 ha (s := hS) (q := fun a ha => ?_)
      refine tkpz 42 4 (.bool false) ha (s := hS) (q := fun a ha => ?_)
      refine tkpz 43 0 (.bool false) ha (s := hS) (q := fun a ha => ?_)
      refine tkoz 44 ha (s := hS) (q := fun a ha => ?_)
      refine tkoz 45 ha (s := hS) (q := fun a ha => ?_)
      refine tkoz 46 ha (s := hS) (q := fun a ha => ?_)
      refine tkpz 47 4 (.bool false) ha (s := hS) (q := fun a ha => ?_)
      refine tkpz 48 0 (.bool false) ha (s := hS) (q := fun a ha => ?_)
      refine dn (by kernel_rfl) ?_
      obtain rfl := Option.some.inj H
      exact J37 _ _ (ha.sel (by kernel_rfl)) hBg5 hBg13 hBg21 hG hC hM
    ·have ha := ha.lit hb45
     have H := ite_f hb45 H
     refine tkoz 17 ha (s := hS) (q := fun a ha => ?_)
     refine tkoz 18 ha (s := hS) (q := fun a ha => ?_)
     refine tkpz 19 4 (.bool false) ha (s := hS) (q := fun a ha => ?_)
     refine tkpz 20 0 (.bool false) ha (s := hS) (q := fun a ha => ?_)
     refine tkoz 21 ha (s := hS) (q := fun a ha => ?_)
     refine tkoz 22 ha (s := hS) (q := fun a ha => ?_)
     refine tkoz 23 ha (s := hS) (q := fun a ha => ?_)
     refine tkpz 24 4 (.bool false) ha (s := hS) (q := fun a ha => ?_)
     refine tkpz 25 0 (.bool false) ha (s := hS) (q := fun a ha => ?_)
     refine tkoz 26 ha (s := hS) (q := fun a ha => ?_)
     refine tkoz 27 ha (s := hS) (q := fun a ha => ?_)
     refine tkoz 28 ha (s := hS) (q := fun a ha => ?_)
     refine tkpz 29 4 (.bool false) ha (s := hS) (q := fun a ha => ?_)
     refine tkpz 30 0 (.bool false) ha (s := hS) (q := fun a ha => ?_)
     refine tkoz 31 ha (s := hS) (q := fun a ha => ?_)
     refine tkoz 32 ha (s := hS) (q := fun a ha => ?_)
     refine tkoz 33 ha (s := hS) (q := fun a ha => ?_)
     refine tkoz 34 ha (s := hS) (q := fun a ha => ?_)
     refine tkoz 35 ha (s := hS) (q := fun a ha => ?_)
     refine tkpz 36 4 (.bool false) ha (s := hS) (q := fun a ha => ?_)
     refine tkpz 37 0 (.bool false) ha (s := hS) (q := fun a ha => ?_)
     refine tkoz 38 ha (s := hS) (q := fun a ha => ?_)
     refine tkoz 39 ha (s := hS) (q := fun a ha => ?_)
     refine tkoz 40 ha (s := hS) (q := fun a ha => ?_)
     refine tkoz 41 ha (s := hS) (q := fun a ha => ?_)
     refine tkpz 42 4 (.bool false) ha (s := hS) (q := fun a ha => ?_)
     refine tkpz 43 0 (.bool false) ha (s := hS) (q := fun a ha => ?_)
     refine tkoz 44 ha (s := hS) (q := fun a ha => ?_)
     refine tkoz 45 ha (s := hS) (q := fun a ha => ?_)
     refine tkoz 46 ha (s := hS) (q := fun a ha => ?_)
     refine tkpz 47 4 (.bool false) ha (s := hS) (q := fun a ha => ?_)
     refine tkpz 48 0 (.bool false) ha (s := hS) (q := fun a ha => ?_)
     refine dn (by kernel_rfl) ?_
     obtain rfl := Option.some.inj H
     exact J37 _ _ (ha.sel (by kernel_rfl)) hBg5 hBg13 hBg21 hG hC hM
   ·have ha := ha.lit hb42
    have H := ite_f hb42 H
    refine tkoz 12 ha (s := hS) (q := fun a ha => ?_)
    refine tkoz 13 ha (s := hS) (q := fun a ha => ?_)
    refine tkoz 14 ha (s := hS) (q := fun a ha => ?_)
    refine tkpz 15 4 (.bool false) ha (s := hS) (q := fun a ha => ?_)
    refine tkpz 16 0 (.bool false) ha (s := hS) (q := fun a ha => ?_)
    refine tkoz 17 ha (s := hS) (q := fun a ha => ?_)
    refine tkoz 18 ha (s := hS) (q := fun a ha => ?_)
    refine tkpz 19 4 (.bool false) ha (s := hS) (q := fun a ha => ?_)
    refine tkpz 20 0 (.bool false) ha (s := hS) (q := fun a ha => ?_)
    refine tkoz 21 ha (s := hS) (q := fun a ha => ?_)
    refine tkoz 22 ha (s := hS) (q := fun a ha => ?_)
    refine tkoz 23 ha (s := hS) (q := fun a ha => ?_)
    refine tkpz 24 4 (.bool false) ha (s := hS) (q := fun a ha => ?_)
    refine tkpz 25 0 (.bool false) ha (s := hS) (q := fun a ha => ?_)
    refine tkoz 26 ha (s := hS) (q := fun a ha => ?_)
    refine tkoz 27 ha (s := hS) (q := fun a ha => ?_)
    refine tkoz 28 ha (s := hS) (q := fun a ha => ?_)
    refine tkpz 29 4 (.bool false) ha (s := hS) (q := fun a ha => ?_)
    refine tkpz 30 0 (.bool false) ha (s := hS) (q := fun a ha => ?_)
    refine tkoz 31 ha (s := hS) (q := fun a ha => ?_)
    refine tkoz 32 ha (s := hS) (q := fun a ha => ?_)
    refine tkoz 33 ha (s := hS) (q := fun a ha => ?_)
    refine tkoz 34 ha (s := hS) (q := fun a ha => ?_)
    refine tkoz 35 ha (s := hS) (q := fun a ha => ?_)
    refine tkpz 36 4 (.bool false) ha (s := hS) (q := fun a ha => ?_)
    refine tkpz 37 0 (.bool false) ha (s := hS) (q := fun a ha => ?_)
    refine tkoz 38 ha (s := hS) (q := fun a ha => ?_)
    refine tkoz 39 ha (s := hS) (q := fun a ha => ?_)
    refine tkoz 40 ha (s := hS) (q := fun a ha => ?_)
    refine tkoz 41 ha (s := hS) (q := fun a ha => ?_)
    refine tkpz 42 4 (.bool false) ha (s := hS) (q := fun a ha => ?_)
    refine tkpz 43 0 (.bool false) ha (s := hS) (q := fun a ha => ?_)
    refine tkoz 44 ha (s := hS) (q := fun a ha => ?_)
    refine tkoz 45 ha (s := hS) (q := fun a ha => ?_)
    refine tkoz 46 ha (s := hS) (q := fun a ha => ?_)
    refine tkpz 47 4 (.bool false) ha (s := hS) (q := fun a ha => ?_)
    refine tkpz 48 0 (.bool false) ha (s := hS) (q := fun a ha => ?_)
    refine dn (by kernel_rfl) ?_
    obtain rfl := Option.some.inj H
    exact J37 _ _ (ha.sel (by kernel_rfl)) hBg5 hBg13 hBg21 hG hC hM
  ·have ha := ha.lit hb41
   have H := ite_f hb41 H
   refine tkoz 8 ha (s := hS) (q := fun a ha => ?_)
   refine tkoz 9 ha (s := hS) (q := fun a ha => ?_)
   refine tkpz 10 4 (.bool false) ha (s := hS) (q := fun a ha => ?_)
   refine tkpz 11 0 (.bool false) ha (s := hS) (q := fun a ha => ?_)
   refine tkoz 12 ha (s := hS) (q := fun a ha => ?_)
   refine tkoz 13 ha (s := hS) (q := fun a ha => ?_)
   refine tkoz 14 ha (s := hS) (q := fun a ha => ?_)
   refine tkpz 15 4 (.bool false) ha (s := hS) (q := fun a ha => ?_)
   refine tkpz 16 0 (.bool false) ha (s := hS) (q := fun a ha => ?_)
   refine tkoz 17 ha (s := hS) (q := fun a ha => ?_)
   refine tkoz 18 ha (s := hS) (q := fun a ha => ?_)
   refine tkpz 19 4 (.bool false) ha (s := hS) (q := fun a ha => ?_)
   refine tkpz 20 0 (.bool false) ha (s := hS) (q := fun a ha => ?_)
   refine tkoz 21 ha (s := hS) (q := fun a ha => ?_)
   refine tkoz 22 ha (s := hS) (q := fun a ha => ?_)
   refine tkoz 23 ha (s := hS) (q := fun a ha => ?_)
   refine tkpz 24 4 (.bool false) ha (s := hS) (q := fun a ha => ?_)
   refine tkpz 25 0 (.bool false) ha (s := hS) (q := fun a ha => ?_)
   refine tkoz 26 ha (s := hS) (q := fun a ha => ?_)
   refine tkoz 27 ha (s := hS) (q := fun a ha => ?_)
   refine tkoz 28 ha (s := hS) (q := fun a ha => ?_)
   refine tkpz 29 4 (.bool false) ha (s := hS) (q := fun a ha => ?_)
   refine tkpz 30 0 (.bool false) ha (s := hS) (q := fun a ha => ?_)
   refine tkoz 31 ha (s := hS) (q := fun a ha => ?_)
   refine tkoz 32 ha (s := hS) (q := fun a ha => ?_)
   refine tkoz 33 ha (s := hS) (q := fun a ha => ?_)
   refine tkoz 34 ha (s := hS) (q := fun a ha => ?_)
   refine tkoz 35 ha (s := hS) (q := fun a ha => ?_)
   refine tkpz 36 4 (.bool false) ha (s := hS) (q := fun a ha => ?_)
   refine tkpz 37 0 (.bool false) ha (s := hS) (q := fun a ha => ?_)
   refine tkoz 38 ha (s := hS) (q := fun a ha => ?_)
   refine tkoz 39 ha (s := hS) (q := fun a ha => ?_)
   refine tkoz 40 ha (s := hS) (q := fun a ha => ?_)
   refine tkoz 41 ha (s := hS) (q := fun a ha => ?_)
   refine tkpz 42 4 (.bool false) ha (s := hS) (q := fun a ha => ?_)
   refine tkpz 43 0 (.bool false) ha (s := hS) (q := fun a ha => ?_)
   refine tkoz 44 ha (s := hS) (q := fun a ha => ?_)
   refine tkoz 45 ha (s := hS) (q := fun a ha => ?_)
   refine tkoz 46 ha (s := hS) (q := fun a ha => ?_)
   refine tkpz 47 4 (.bool false) ha (s := hS) (q := fun a ha => ?_)
   refine tkpz 48 0 (.bool false) ha (s := hS) (q := fun a ha => ?_)
   refine dn (by kernel_rfl) ?_
   obtain rfl := Option.some.inj H
   exact J37 _ _ (ha.sel (by kernel_rfl)) hBg5 hBg13 hBg21 hG hC hM
 ·have ha := ha.lit hb38
  have H := ite_f hb38 H
  refine tkoz 3 ha (s := hS) (q := fun a ha => ?_)
  refine tkoz 4 ha (s := hS) (q := fun a ha => ?_)
  refine tkoz 5 ha (s := hS) (q := fun a ha => ?_)
  refine tkpz 6 4 (.bool false) ha (s := hS) (q := fun a ha => ?_)
  refine tkpz 7 0 (.bool false) ha (s := hS) (q := fun a ha => ?_)
  refine tkoz 8 ha (s := hS) (q := fun a ha => ?_)
  refine tkoz 9 ha (s := hS) (q := fun a ha => ?_)
  refine tkpz 10 4 (.bool false) ha (s := hS) (q := fun a ha => ?_)
  refine tkpz 11 0 (.bool false) ha (s := hS) (q := fun a ha => ?_)
  refine tkoz 12 ha (s := hS) (q := fun a ha => ?_)
  refine tkoz 13 ha (s := hS) (q := fun a ha => ?_)
  refine tkoz 14 ha (s := hS) (q := fun a ha => ?_)
  refine tkpz 15 4 (.bool false) ha (s := hS) (q := fun a ha => ?_)
  refine tkpz 16 0 (.bool false) ha (s := hS) (q := fun a ha => ?_)
  refine tkoz 17 ha (s := hS) (q := fun a ha => ?_)
  refine tkoz 18 ha (s := hS) (q := fun a ha => ?_)
  refine tkpz 19 4 (.bool false) ha (s := hS) (q := fun a ha => ?_)
  refine tkpz 20 0 (.bool false) ha (s := hS) (q := fun a ha => ?_)
  refine tkoz 21 ha (s := hS) (q := fun a ha => ?_)
  refine tkoz 22 ha (s := hS) (q := fun a ha => ?_)
  refine tkoz 23 ha (s := hS) (q := fun a ha => ?_)
  refine tkpz 24 4 (.bool false) ha (s := hS) (q := fun a ha => ?_)
  refine tkpz 25 0 (.bool false) ha (s := hS) (q := fun a ha => ?_)
  refine tkoz 26 ha (s := hS) (q := fun a ha => ?_)
  refine tkoz 27 ha (s := hS) (q := fun a ha => ?_)
  refine tkoz 28 ha (s := hS) (q := fun a ha => ?_)
  refine tkpz 29 4 (.bool false) ha (s := hS) (q := fun a ha => ?_)
  refine tkpz 30 0 (.bool false) ha (s := hS) (q := fun a ha => ?_)
  refine tkoz 31 ha (s := hS) (q := fun a ha => ?_)
  refine tkoz 32 ha (s := hS) (q := fun a ha => ?_)
  refine tkoz 33 ha (s := hS) (q := fun a ha => ?_)
  refine tkoz 34 ha (s := hS) (q := fun a ha => ?_)
  refine tkoz 35 ha (s := hS) (q := fun a ha => ?_)
  refine tkpz 36 4 (.bool false) ha (s := hS) (q := fun a ha => ?_)
  refine tkpz 37 0 (.bool false) ha (s := hS) (q := fun a ha => ?_)
  refine tkoz 38 ha (s := hS) (q := fun a ha => ?_)
  refine tkoz 39 ha (s := hS) (q := fun a ha => ?_)
  refine tkoz 40 ha (s := hS) (q := fun a ha => ?_)
  refine tkoz 41 ha (s := hS) (q := fun a ha => ?_)
  refine tkpz 42 4 (.bool false) ha (s := hS) (q := fun a ha => ?_)
  refine tkpz 43 0 (.bool false) ha (s := hS) (q := fun a ha => ?_)
  refine tkoz 44 ha (s := hS) (q := fun a ha => ?_)
  refine tkoz 45 ha (s := hS) (q := fun a ha => ?_)
  refine tkoz 46 ha (s := hS) (q := fun a ha => ?_)
  refine tkpz 47 4 (.bool false) ha (s := hS) (q := fun a ha => ?_)
  refine tkpz 48 0 (.bool false) ha (s := hS) (q := fun a ha => ?_)
  refine dn (by kernel_rfl) ?_
  obtain rfl := Option.some.inj H
  exact J37 _ _ (ha.sel (by kernel_rfl)) hBg5 hBg13 hBg21 hG hC hM
def vinerylaw04_CommunityTargets.f (k : Nat) (a0 : Int) (a1 : Int) (a2 : Int) (a3 : S_api_Addr) (a4 : Int) : Option (Bool) := (vinerylaw04_small.f k ).bind fun t8 => (community_Target.f k a0 a1 a2).bind fun t10 => (community_Import.f k a3 a4).bind fun t18 => (community_Source.f k a1).bind fun t26 => ((if (t10.2 == (0 : Int)) = true then (community_Kind.f t10.1).bind fun t79 => (if (t79 != (1 : Int)) = true then some (true : Bool) else (community_Meet.f k ([t18.1, t10.1] : List (List Int)) ([t10.1, t26.1] : List (List Int))).bind fun t91 => some (!t91 : Bool)) else some (false : Bool))).bind fun s35 => (if s35 = true then some ((false : Bool)) else ((if t8 = true then (if (t18.2 != (0 : Int)) = true then (if (t26.2 != (0 : Int)) = true then some (true : Bool) else (community_Meet.f k ([t26.1] : List (List Int)) ([t26.1] : List (List Int))).bind fun t53 => some (!t53 : Bool)) else (community_Meet.f k ([t18.1] : List (List Int)) ([t18.1] : List (List Int))).bind fun t64 => (if (!t64) = true then (if (t26.2 != (0 : Int)) = true then some (true : Bool) else (community_Meet.f k ([t26.1] : List (List Int)) ([t26.1] : List (List Int))).bind fun t77 => some (!t77 : Bool)) else some (false : Bool))) else some (false : Bool))).bind fun s39 => some ((s39 : Bool)))
set_option maxRecDepth 100000 in
theorem vinerylaw04_CommunityTargets.walk (w : World) (M : List Nat) (hM : MS M w) (hG : GF w M) (a0 : Int) (a1 : Int) (a2 : Int) (a3 : S_api_Addr) (a4 : Int) (k : Nat) (r : Bool) (H : vinerylaw04_CommunityTargets.f k a0 a1 a2 a3 a4 = some r) :
    To Tryd.prog 3 [.int .i64 a0, .int .i64 a1, .int .i64 a2, .agg (cS_api_Addr a3).toArray, .int .i64 a4] w fun v w' => v = .bool r ∧ Chg [] w w' ∧ MS (M) w' := by
 unfold vinerylaw04_CommunityTargets.f at H
 refine ent Tryd.func3 rfl [(0, .int .i64 a0), (1, .int .i64 a1), (2, .int .i64 a2), (3, .agg (cS_api_Addr a3).toArray), (4, .int .i64 a4)] rfl (by rfl) fun a ha => ?_
 have hC : Chg [] w w := Chg.refl _ _
 refine wp_seq_k fun K1 hK1 => ?_
 refine wp_region_lit ?_
 refine bx (cs := (cS_api_Addr a3)) ha rfl rfl rfl rfl rfl fun a w2 g3 hN4 ha => ?_
 have hn6 := hN4.notin hM
 have o1 : Ok [] (M) w.heap.size := Ok.nil _ _
 have o2 : Ok (M) (M) w.heap.size := (Ok.refl _ _)
 have hG := hG.chg hN4.chg o1 o2
 have hM : MS (M) w2 := (hM.chg hN4.chg)
 have hC := hC.trans hN4.chg (Ok.nil _ _)
 have hE5 : ∀ j v, (cS_api_Addr a3)[j]? = some v → w2.cell? ⟨g3, 0 + j, none⟩ = some v := Box.cells (New.box hN4)
 refine seg ha 1 [(0, .int .i64 a0), (1, .int .i64 a1), (2, .int .i64 a2), (4, .int .i64 a4), (8, .pointer (some ⟨g3, 0, none⟩))] (by kernel_rfl) fun a ha => ?_
 refine hK1 _ _ ?_; try clear hK1 K1
 refine wp_seq_k fun K7 hK7 => ?_
 refine wp_region_lit ?_
 obtain ⟨t8, H8, H⟩ := bind_some H
 refine cl ha (by rfl) (by kernel_rfl) (by rfl) (by rfl) (by rfl) (vinerylaw04_small.walk w2 _ hM hG  k _ H8) ?_
 rintro _ w8 ⟨rfl, hc8, hMn⟩ a ha
 have o1 : Ok [] (M) w2.heap.size := Ok.nil _ _
 have o2 : Ok (M) (M) w2.heap.size := (Ok.refl _ _)
 have hG := hG.chg hc8 o1 o2
 have q_hn6 : g3 ∉ M := fun h => (o2 g3 h).elim hn6 (fun h => absurd (lt_cell (hE5 0 _ rfl)) (Nat.not_lt.2 h))
 have hE5 : ∀ j v, (cS_api_Addr a3)[j]? = some v → w8.cell? ⟨g3, 0 + j, none⟩ = some v := fun j v hv => (cell_keep hc8 o1 hn6 (hE5 j v hv))
 have hn6 := q_hn6
 have hM : MS (M) w8 := (hM.chg hc8)
 have hC := hC.trans hc8 (Ok.nil _ _)
 refine seg ha 1 [(0, .int .i64 a0), (1, .int .i64 a1), (2, .int .i64 a2), (4, .int .i64 a4), (8, .pointer (some ⟨g3, 0, none⟩)), (11, .bool t8)] (by kernel_rfl) fun a ha => ?_
 refine hK7 _ _ ?_; try clear hK7 K7
 refine wp_seq_k fun K9 hK9 => ?_
 refine wp_region_lit ?_
 refine seg ha 3 [(1, .int .i64 a1), (4, .int .i64 a4), (8, .pointer (some ⟨g3, 0, none⟩)), (11, .bool t8), (20, .int .i64 a0), (21, .int .i64 a1), (22, .int .i64 a2)] (by kernel_rfl) fun a ha => ?_
 obtain ⟨t10, H10, H⟩ := bind_some H
 refine cl ha (by rfl) (by kernel_rfl) (by rfl) (by rfl) (by rfl) (community_Target.walk w8 _ hM a0 a1 a2 k _ H10) ?_
 rintro _ w10 ⟨rfl, hc10, hMn⟩ a ha
 have o1 : Ok [] (M) w8.heap.size := Ok.nil _ _
 have o2 : Ok (M) (M) w8.heap.size := (Ok.refl _ _)
 have hG := hG.chg hc10 o1 o2
 have q_hn6 : g3 ∉ M := fun h => (o2 g3 h).elim hn6 (fun h => absurd (lt_cell (hE5 0 _ rfl)) (Nat.not_lt.2 h))
 have hE5 : ∀ j v, (cS_api_Addr a3)[j]? = some v → w10.cell? ⟨g3, 0 + j, none⟩ = some v := fun j v hv => (cell_keep hc10 o1 hn6 (hE5 j v hv))
 have hn6 := q_hn6
 have hM : MS (M) w10 := (hM.chg hc10)
 have hC := hC.trans hc10 (Ok.nil _ _)
 refine seg ha 3 [(1, .int .i64 a1), (4, .int .i64 a4), (8, .pointer (some ⟨g3, 0, none⟩)), (11, .bool t8), (24, .agg (cA .u8 8 t10.1).toArray), (25, .int .i64 t10.2)] (by kernel_rfl) fun a ha => ?_
 refine al (cs := (cA .u8 8 (List.replicate 8 (0 : Int)))) (z := .agg (cA .u8 8 (List.replicate 8 (0 : Int))).toArray) ha (fun w => by kernel_rfl) rfl rfl rfl rfl fun a w11 g12 hN13 ha => ?_
 have o1 : Ok [] (M) w10.heap.size := Ok.nil _ _
 have o2 : Ok ([g12] ++ (M)) (M) w10.heap.size := (Ok.app (hN13.ok _) (Ok.refl _ _))
 have hG := hG.chg hN13.chg o1 o2
 have q_hn6 : g3 ∉ [g12] ++ (M) := fun h => (o2 g3 h).elim hn6 (fun h => absurd (lt_cell (hE5 0 _ rfl)) (Nat.not_lt.2 h))
 have hE5 : ∀ j v, (cS_api_Addr a3)[j]? = some v → w11.cell? ⟨g3, 0 + j, none⟩ = some v := fun j v hv => (cell_keep hN13.chg o1 hn6 (hE5 j v hv))
 have hn6 := q_hn6
 have p_i14_M : ∀ x ∈ [g12], x ∉ M := fun x hx hy => absurd (hM x (hy)) (Nat.not_lt.2 ((hN13.ge1) x hx))
 have e_i14 : ∀ x ∈ [g12], w.heap.size ≤ x := fun x hx => Nat.le_trans hC.size ((hN13.ge1) x hx)
 have hM : MS ([g12] ++ (M)) w11 := (MS.app hN13.ms (hM.chg hN13.chg))
 have hC := hC.trans hN13.chg (Ok.nil _ _)
 have hBg12 : Box w11 g12 (cA .u8 8 (List.replicate 8 (0 : Int))) := hN13.box
 refine stA (l := (cA .u8 8 t10.1)) ha rfl rfl rfl (by kernel_rfl) rfl rfl hBg12 rfl fun a w15 ha hb2 hc16 _ => ?_
 have o1 : Ok [g12] ([g12] ++ (M)) w11.heap.size := (fun _ h => .inl (ml h))
 have o2 : Ok ([g12] ++ (M)) ([g12] ++ (M)) w11.heap.size := (Ok.refl _ _)
 have hG := hG.chg hc16 o1 o2
 have q_hn6 : g3 ∉ [g12] ++ (M) := fun h => (o2 g3 h).elim hn6 (fun h => absurd (lt_cell (hE5 0 _ rfl)) (Nat.not_lt.2 h))
 have hE5 : ∀ j v, (cS_api_Addr a3)[j]? = some v → w15.cell? ⟨g3, 0 + j, none⟩ = some v := fun j v hv => (cell_keep hc16 o1 hn6 (hE5 j v hv))
 have hn6 := q_hn6
 have hM : MS ([g12] ++ (M)) w15 := (hM.chg hc16)
 have hC := hC.trans hc16 (fun x h => .inr (e_i14 x h))
 have hBg12 : Box w15 g12 (cA .u8 8 t10.1) := hb2
 refine seg ha 1 [(1, .int .i64 a1), (4, .int .i64 a4), (8, .pointer (some ⟨g3, 0, none⟩)), (11, .bool t8), (12, .pointer (some ⟨g12, 0, none⟩)), (13, .int .i64 t10.2)] (by kernel_rfl) fun a ha => ?_
 refine hK9 _ _ ?_; try clear hK9 K9
 refine wp_seq_k fun K17 hK17 => ?_
 refine wp_region_lit ?_
 refine ldA (cs := (cS_api_Addr a3)) ha rfl (by kernel_rfl) rfl rfl rfl (cells_sub hE5 (all := (cS_api_Addr a3)) [] [] (by kernel_rfl)) fun a ha => ?_
 refine seg ha 1 [(1, .int .i64 a1), (11, .bool t8), (12, .pointer (some ⟨g12, 0, none⟩)), (13, .int .i64 t10.2), (27, .agg (cS_api_Addr a3).toArray), (28, .int .i64 a4)] (by kernel_rfl) fun a ha => ?_
 obtain ⟨t18, H18, H⟩ := bind_some H
 refine cl ha (by rfl) (by kernel_rfl) (by rfl) (by rfl) (by rfl) (community_Import.walk w15 _ hM a3 a4 k _ H18) ?_
 rintro _ w18 ⟨rfl, hc18, hMn⟩ a ha
 have o1 : Ok [] ([g12] ++ (M)) w15.heap.size := Ok.nil _ _
 have o2 : Ok ([g12] ++ (M)) ([g12] ++ (M)) w15.heap.size := (Ok.refl _ _)
 have hG := hG.chg hc18 o1 o2
 have hBg12 := hBg12.chg hc18 (fun h => nomatch h)
 have hM : MS ([g12] ++ (M)) w18 := (hM.chg hc18)
 have hC := hC.trans hc18 (Ok.nil _ _)
 refine seg ha 3 [(1, .int .i64 a1), (11, .bool t8), (12, .pointer (some ⟨g12, 0, none⟩)), (13, .int .i64 t10.2), (30, .agg (cA .u8 8 t18.1).toArray), (31, .int .i64 t18.2)] (by kernel_rfl) fun a ha => ?_
 refine al (cs := (cA .u8 8 (List.replicate 8 (0 : Int)))) (z := .agg (cA .u8 8 (List.replicate 8 (0 : Int))).toArray) ha (fun w => by kernel_rfl) rfl rfl rfl rfl fun a w19 g20 hN21 ha => ?_
 have o1 : Ok [] ([g12] ++ (M)) w18.heap.size := Ok.nil _ _
 have o2 : Ok ([g20] ++ ([g12] ++ (M))) ([g12] ++ (M)) w18.heap.size := (Ok.app (hN21.ok _) (Ok.refl _ _))
 have hG := hG.chg hN21.chg o1 o2
 have hBg12 := hBg12.chg hN21.chg (fun h => nomatch h)
 have p_i22_i14 : ∀ x ∈ [g20], x ∉ ([g12]) := fun x hx hy => absurd (hM x (ml hy)) (Nat.not_lt.2 ((hN21.ge1) x hx))
 have p_i22_M : ∀ x ∈ [g20], x ∉ M := fun x hx hy => absurd (hM x (mr (hy))) (Nat.not_lt.2 ((hN21.ge1) x hx))
 have e_i22 : ∀ x ∈ [g20], w.heap.size ≤ x := fun x hx => Nat.le_trans hC.size ((hN21.ge1) x hx)
 have hM : MS ([g20] ++ ([g12] ++ (M))) w19 := (MS.app hN21.ms (hM.chg hN21.chg))
 have hC := hC.trans hN21.chg (Ok.nil _ _)
 have hBg20 : Box w19 g20 (cA .u8 8 (List.replicate 8 (0 : Int))) := hN21.box
 refine stA (l := (cA .u8 8 t18.1)) ha rfl rfl rfl (by kernel_rfl) rfl rfl hBg20 rfl fun a w23 ha hb2 hc24 _ => ?_
 have o1 : Ok [g20] ([g20] ++ ([g12] ++ (M))) w19.heap.size := (fun _ h => .inl (ml h))
 have o2 : Ok ([g20] ++ ([g12] ++ (M))) ([g20] ++ ([g12] ++ (M))) w19.heap.size := (Ok.refl _ _)
 have hG := hG.chg hc24 o1 o2
 have hBg12 := hBg12.chg hc24 ((fun x (hx : x ∈ [g12]) (hy : x ∈ [g20]) => p_i22_i14 x hy hx) g12 (by simp))
 have hM : MS ([g20] ++ ([g12] ++ (M))) w23 := (hM.chg hc24)
 have hC := hC.trans hc24 (fun x h => .inr (e_i22 x h))
 have hBg20 : Box w23 g20 (cA .u8 8 t18.1) := hb2
 refine seg ha 1 [(1, .int .i64 a1), (11, .bool t8), (12, .pointer (some ⟨g12, 0, none⟩)), (13, .int .i64 t10.2), (14, .pointer (some ⟨g20, 0, none⟩)), (15, .int .i64 t18.2)] (by kernel_rfl) fun a ha => ?_
 refine hK17 _ _ ?_; try clear hK17 K17
 refine wp_seq_k fun K25 hK25 => ?_
 refine wp_region_lit ?_
 refine seg ha 1 [(11, .bool t8), (12, .pointer (some ⟨g12, 0, none⟩)), (13, .int .i64 t10.2), (14, .pointer (some ⟨g20, 0, none⟩)), (15, .int .i64 t18.2), (33, .int .i64 a1)] (by kernel_rfl) fun a ha => ?_
 obtain ⟨t26, H26, H⟩ := bind_some H
 refine cl ha (by rfl) (by kernel_rfl) (by rfl) (by rfl) (by rfl) (community_Source.walk w23 _ hM a1 k _ H26) ?_
 rintro _ w26 ⟨rfl, hc26, hMn⟩ a ha
 have o1 : Ok [] ([g20] ++ ([g12] ++ (M))) w23.heap.size := Ok.nil _ _
 have o2 : Ok ([g20] ++ ([g12] ++ (M))) ([g20] ++ ([g12] ++ (M))) w23.heap.size := (Ok.refl _ _)
 have hG := hG.chg hc26 o1 o2
 have hBg12 := hBg12.chg hc26 (fun h => nomatch h)
 have hBg20 := hBg20.chg hc26 (fun h => nomatch h)
 have hM : MS ([g20] ++ ([g12] ++ (M))) w26 := (hM.chg hc26)
 have hC := hC.trans hc26 (Ok.nil _ _)
 refine seg ha 3 [(11, .bool t8), (12, .pointer (some ⟨g12, 0, none⟩)), (13, .int .i64 t10.2), (14, .pointer (some ⟨g20, 0, none⟩)), (15, .int .i64 t18.2), (35, .agg (cA .u8 8 t26.1).toArray), (36, .int .i64 t26.2)] (by kernel_rfl) fun a ha => ?_
 refine al (cs := (cA .u8 8 (List.replicate 8 (0 : Int)))) (z := .agg (cA .u8 8 (List.replicate 8 (0 : Int))).toArray) ha (fun w => by kernel_rfl) rfl rfl rfl rfl fun a w27 g28 hN29 ha => ?_
 have o1 : Ok [] ([g20] ++ ([g12] ++ (M))) w26.heap.size := Ok.nil _ _
 have o2 : Ok ([g28] ++ ([g20] ++ ([g12] ++ (M)))) ([g20] ++ ([g12] ++ (M))) w26.heap.size := (Ok.app (hN29.ok _) (Ok.refl _ _))
 have hG := hG.chg hN29.chg o1 o2
 have hBg12 := hBg12.chg hN29.chg (fun h => nomatch h)
 have hBg20 := hBg20.chg hN29.chg (fun h => nomatch h)
 have p_i30_i22 : ∀ x ∈ [g28], x ∉ ([g20]) := fun x hx hy => absurd (hM x (ml hy)) (Nat.not_lt.2 ((hN29.ge1) x hx))
 have p_i30_i14 : ∀ x ∈ [g28], x ∉ ([g12]) := fun x hx hy => absurd (hM x (mr (ml hy))) (Nat.not_lt.2 ((hN29.ge1) x hx))
 have p_i30_M : ∀ x ∈ [g28], x ∉ M := fun x hx hy => absurd (hM x (mr (mr (hy)))) (Nat.not_lt.2 ((hN29.ge1) x hx))
 have e_i30 : ∀ x ∈ [g28], w.heap.size ≤ x := fun x hx => Nat.le_trans hC.size ((hN29.ge1) x hx)
 have hM : MS ([g28] ++ ([g20] ++ ([g12] ++ (M)))) w27 := (MS.app hN29.ms (hM.chg hN29.chg))
 have hC := hC.trans hN29.chg (Ok.nil _ _)
 have hBg28 : Box w27 g28 (cA .u8 8 (List.replicate 8 (0 : Int))) := hN29.box
 refine stA (l := (cA .u8 8 t26.1)) ha rfl rfl rfl (by kernel_rfl) rfl rfl hBg28 rfl fun a w31 ha hb2 hc32 _ => ?_
 have o1 : Ok [g28] ([g28] ++ ([g20] ++ ([g12] ++ (M)))) w27.heap.size := (fun _ h => .inl (ml h))
 have o2 : Ok ([g28] ++ ([g20] ++ ([g12] ++ (M)))) ([g28] ++ ([g20] ++ ([g12] ++ (M)))) w27.heap.size := (Ok.refl _ _)
 have hG := hG.chg hc32 o1 o2
 have hBg12 := hBg12.chg hc32 ((fun x (hx : x ∈ [g12]) (hy : x ∈ [g28]) => p_i30_i14 x hy hx) g12 (by simp))
 have hBg20 := hBg20.chg hc32 ((fun x (hx : x ∈ [g20]) (hy : x ∈ [g28]) => p_i30_i22 x hy hx) g20 (by simp))
 have hM : MS ([g28] ++ ([g20] ++ ([g12] ++ (M)))) w31 := (hM.chg hc32)
 have hC := hC.trans hc32 (fun x h => .inr (e_i30 x h))
 have hBg28 : Box w31 g28 (cA .u8 8 t26.1) := hb2
 refine seg ha 1 [(11, .bool t8), (12, .pointer (some ⟨g12, 0, none⟩)), (13, .int .i64 t10.2), (14, .pointer (some ⟨g20, 0, none⟩)), (15, .int .i64 t18.2), (16, .pointer (some ⟨g28, 0, none⟩)), (17, .int .i64 t26.2)] (by kernel_rfl) fun a ha => ?_
 refine hK25 _ _ ?_; try clear hK25 K25
 refine wp_seq_k fun K33 hK33 => ?_
 refine wp_seq_k fun K34 hK34 => ?_
 refine wp_region_lit ?_
 obtain ⟨s35, H35, H⟩ := bind_some H
 have J35 : ∀ (a : Act) (w35 : World), Has a Tryd.f3.ntmps [(11, .bool t8), (14, .pointer (some ⟨g20, 0, none⟩)), (15, .int .i64 t18.2), (16, .pointer (some ⟨g28, 0, none⟩)), (17, .int .i64 t26.2), (53, .bool s35)] → (Box w35 g12 (cA .u8 8 t10.1)) → (Box w35 g20 (cA .u8 8 t18.1)) → (Box w35 g28 (cA .u8 8 t26.1)) → (GF w35 ([g28] ++ ([g20] ++ ([g12] ++ (M))))) → (Chg [] w w35) → (MS ([g28] ++ ([g20] ++ ([g12] ++ (M)))) w35) → K34 a w35 := by
  intro a w35 ha hBg12 hBg20 hBg28 hG hC hM
  refine hK34 _ _ ?_; try clear hK34 K34
  refine cnd ha rfl (fun hc36 => ?_) (fun hc36 => ?_)
  ·have H := ite_t hc36 H
   refine wp_seq_k fun K37 hK37 => ?_
   refine wp_region_lit ?_
   refine seg ha 1 [(10, .bool false)] (by kernel_rfl) fun a ha => ?_
   refine hK37 _ _ ?_; try clear hK37 K37
   refine wp_ret ?_
   try simp only [Exit.then, Exit.inBlock]
   have o1 : Ok [] ([g28] ++ ([g20] ++ ([g12] ++ (M)))) w35.heap.size := Ok.nil _ _
   have o2 : Ok (M) ([g28] ++ ([g20] ++ ([g12] ++ (M)))) w35.heap.size := (fun _ h => .inl (mr (mr (mr (h)))))
   have hG := hG.chg (Chg.refl [] _) o1 o2
   have hBg12 := hBg12.chg (Chg.refl [] _) (fun h => nomatch h)
   have hBg20 := hBg20.chg (Chg.refl [] _) (fun h => nomatch h)
   have hBg28 := hBg28.chg (Chg.refl [] _) (fun h => nomatch h)
   have hM : MS (M) w35 := (fun x h => hM.chg (Chg.refl [] _) x (mr (mr (mr (h)))))
   have hC := hC.trans (Chg.refl [] _) (Ok.nil _ _)
   obtain rfl := Option.some.inj H
   refine rt1 ha rfl rfl ?_
   exact ⟨rfl, hC, hM⟩
  ·have H := ite_f hc36 H
   refine wp_skip ?_
   refine hK33 _ _ ?_; try clear hK33 K33
   refine wp_seq_k fun K38 hK38 => ?_
   refine wp_region_lit ?_
   obtain ⟨s39, H39, H⟩ := bind_some H
   have J39 : ∀ (a : Act) (w39 : World), Has a Tryd.f3.ntmps [(10, .bool s39)] → (Box w39 g12 (cA .u8 8 t10.1)) → (Box w39 g20 (cA .u8 8 t18.1)) → (Box w39 g28 (cA .u8 8 t26.1)) → (GF w39 ([g28] ++ ([g20] ++ ([g12] ++ (M))))) → (Chg [] w w39) → (MS ([g28] ++ ([g20] ++ ([g12] ++ (M)))) w39) → K38 a w39 := by
    intro a w39 ha hBg12 hBg20 hBg28 hG hC hM
    refine hK38 _ _ ?_; try clear hK38 K38
    refine wp_ret ?_
    try simp only [Exit.then, Exit.inBlock]
    have o1 : Ok [] ([g28] ++ ([g20] ++ ([g12] ++ (M)))) w39.heap.size := Ok.nil _ _
    have o2 : Ok (M) ([g28] ++ ([g20] ++ ([g12] ++ (M)))) w39.heap.size := (fun _ h => .inl (mr (mr (mr (h)))))
    have hG := hG.chg (Chg.refl [] _) o1 o2
    have hBg12 := hBg12.chg (Chg.refl [] _) (fun h => nomatch h)
    have hBg20 := hBg20.chg (Chg.refl [] _) (fun h => nomatch h)
    have hBg28 := hBg28.chg (Chg.refl [] _) (fun h => nomatch h)
    have hM : MS (M) w39 := (fun x h => hM.chg (Chg.refl [] _) x (mr (mr (mr (h)))))
    have hC := hC.trans (Chg.refl [] _) (Ok.nil _ _)
    obtain rfl := Option.some.inj H
    refine rt1 ha rfl rfl ?_
    exact ⟨rfl, hC, hM⟩
   have H := H39
   refine seg ha 2 [(55, .bool t8), (14, .pointer (some ⟨g20, 0, none⟩)), (15, .int .i64 t18.2), (16, .pointer (some ⟨g28, 0, none⟩)), (17, .int .i64 t26.2)] (by kernel_rfl) fun a ha => ?_
   rcases Bool.eq_false_or_eq_true (t8) with hb40 | hb40
   ·have ha := ha.lit hb40
    have H := ite_t hb40 H
    refine sgh ha 3 [2, 2, 2] [(58, .bool (t18.2 != (0 : Int))), (14, .pointer (some ⟨g20, 0, none⟩)), (16, .pointer (some ⟨g28, 0, none⟩)), (17, .int .i64 t26.2), (55, .bool true)] (by kernel_rfl) fun a ha => ?_
    rcases Bool.eq_false_or_eq_true (t18.2 != (0 : Int)) with hb41 | hb41
    ·have ha := ha.lit hb41
     have H := ite_t hb41 H
     refine sgh ha 12 [1, 1, 1, 1, 1, 1, 5, 3, 0, 2, 2, 2] [(70, .bool (t26.2 != (0 : Int))), (16, .pointer (some ⟨g28, 0, none⟩)), (67, .bool true)] (by kernel_rfl) fun a ha => ?_
     rcases Bool.eq_false_or_eq_true (t26.2 != (0 : Int)) with hb42 | hb42
     ·have ha := ha.lit hb42
      have H := ite_t hb42 H
      refine sgh ha 9 [1, 1, 1, 1, 1, 1, 5, 3, 0] [(10, .bool true)] (by kernel_rfl) fun a ha => ?_
      obtain rfl := Option.some.inj H
      exact J39 _ _ (ha.sel (by kernel_rfl)) hBg12 hBg20 hBg28 hG hC hM
     ·have ha := ha.lit hb42
      have H := ite_f hb42 H
      refine ldA (cs := (cA .u8 8 t26.1)) ha rfl (by kernel_rfl) rfl rfl rfl (cells_sub (Box.cells hBg28) (all := (cA .u8 8 t26.1)) [] [] (by kernel_rfl)) fun a ha => ?_
      refine bslA (vals := ([.agg (cA .u8 8 t26.1).toArray] : List Value)) (T := 27) (z := .agg (cA .u8 8 (List.replicate 8 (0 : Int))).toArray) ha rfl (by kernel_rfl) rfl (by kernel_rfl) (s := 8) (by kernel_rfl) rfl rfl (fun w => by kernel_rfl) (by kernel_rfl) rfl rfl rfl fun a w43 g44 hN45 ha => ?_
      have hN45 := (show New _ _ _ (.cells (((cA .u8 8 t26.1) ++ ([] : List Value))).toArray 27 (0, 0)) from hN45)
      have o1 : Ok [] ([g28] ++ ([g20] ++ ([g12] ++ (M)))) w35.heap.size := Ok.nil _ _
      have o2 : Ok ([g44] ++ ([g28] ++ ([g20] ++ ([g12] ++ (M))))) ([g28] ++ ([g20] ++ ([g12] ++ (M)))) w35.heap.size := (Ok.app (hN45.ok _) (Ok.refl _ _))
      have hG := hG.chg hN45.chg o1 o2
      have hBg12 := hBg12.chg hN45.chg (fun h => nomatch h)
      have hBg20 := hBg20.chg hN45.chg (fun h => nomatch h)
      have hBg28 := hBg28.chg hN45.chg (fun h => nomatch h)
      have p_i46_i30 : ∀ x ∈ [g44], x ∉ ([g28]) := fun x hx hy => absurd (hM x (ml hy)) (Nat.not_lt.2 ((hN45.ge1) x hx))
      have p_i46_i22 : ∀ x ∈ [g44], x ∉ ([g20]) := fun x hx hy => absurd (hM x (mr (ml hy))) (Nat.not_lt.2 ((hN45.ge1) x hx))
      have p_i46_i14 : ∀ x ∈ [g44], x ∉ ([g12]) := fun x hx hy => absurd (hM x (mr (mr (ml hy)))) (Nat.not_lt.2 ((hN45.ge1) x hx))
      have p_i46_M : ∀ x ∈ [g44], x ∉ M := fun x hx hy => absurd (hM x (mr (mr (mr (hy))))) (Nat.not_lt.2 ((hN45.ge1) x hx))
      have e_i46 : ∀ x ∈ [g44], w.heap.size ≤ x := fun x hx => Nat.le_trans hC.size ((hN45.ge1) x hx)
      have hM : MS ([g44] ++ ([g28] ++ ([g20] ++ ([g12] ++ (M))))) w43 := (MS.app hN45.ms (hM.chg hN45.chg))
      have hC := hC.trans hN45.chg (Ok.nil _ _)
      have f47 : Own (rArr .u8 8) 27 w43 ([g44] ++ ([g28] ++ ([g20] ++ ([g12] ++ (M))))) (some ⟨g44, 0, none⟩) 1 ([t26.1] : List (List Int)) := hN45.own ⟨(cA .u8 8 t26.1), _, rfl, rfl, rfl⟩ (Nat.le_of_ble_eq_true rfl)
      refine ldA (cs := (cA .u8 8 t26.1)) ha rfl (by kernel_rfl) rfl rfl rfl (cells_sub (Box.cells hBg28) (all := (cA .u8 8 t26.1)) [] [] (by kernel_rfl)) fun a ha => ?_
      refine bslA (vals := ([.agg (cA .u8 8 t26.1).toArray] : List Value)) (T := 27) (z := .agg (cA .u8 8 (List.replicate 8 (0 : Int))).toArray) ha rfl (by kernel_rfl) rfl (by kernel_rfl) (s := 8) (by kernel_rfl) rfl rfl (fun w => by kernel_rfl) (by kernel_rfl) rfl rfl rfl fun a w48 g49 hN50 ha => ?_
      have hN50 := (show New _ _ _ (.cells (((cA .u8 8 t26.1) ++ ([] : List Value))).toArray 27 (0, 0)) from hN50)
      have o1 : Ok [] ([g44] ++ ([g28] ++ ([g20] ++ ([g12] ++ (M))))) w43.heap.size := Ok.nil _ _
      have o2 : Ok ([g49] ++ ([g44] ++ ([g28] ++ ([g20] ++ ([g12] ++ (M)))))) ([g44] ++ ([g28] ++ ([g20] ++ ([g12] ++ (M))))) w43.heap.size := (Ok.app (hN50.ok _) (Ok.refl _ _))
      have hG := hG.chg hN50.chg o1 o2
      have f47 := f47.chg hN50.chg o1 o2 (fun _ _ h => nomatch h) (fun _ h => mr (ml h))
      have hBg12 := hBg12.chg hN50.chg (fun h => nomatch h)
      have hBg20 := hBg20.chg hN50.chg (fun h => nomatch h)
      have hBg28 := hBg28.chg hN50.chg (fun h => nomatch h)
      have p_i51_i46 : ∀ x ∈ [g49], x ∉ ([g44]) := fun x hx hy => absurd (hM x (ml hy)) (Nat.not_lt.2 ((hN50.ge1) x hx))
      have p_i51_i30 : ∀ x ∈ [g49], x ∉ ([g28]) := fun x hx hy => absurd (hM x (mr (ml hy))) (Nat.not_lt.2 ((hN50.ge1) x hx))
      have p_i51_i22 : ∀ x ∈ [g49], x ∉ ([g20]) := fun x hx hy => absurd (hM x (mr (mr (ml hy)))) (Nat.not_lt.2 ((hN50.ge1) x hx))
      have p_i51_i14 : ∀ x ∈ [g49], x ∉ ([g12]) := fun x hx hy => absurd (hM x (mr (mr (mr (ml hy))))) (Nat.not_lt.2 ((hN50.ge1) x hx))
      have p_i51_M : ∀ x ∈ [g49], x ∉ M := fun x hx hy => absurd (hM x (mr (mr (mr (mr (hy)))))) (Nat.not_lt.2 ((hN50.ge1) x hx))
      have e_i51 : ∀ x ∈ [g49], w.heap.size ≤ x := fun x hx => Nat.le_trans hC.size ((hN50.ge1) x hx)
      have hM : MS ([g49] ++ ([g44] ++ ([g28] ++ ([g20] ++ ([g12] ++ (M)))))) w48 := (MS.app hN50.ms (hM.chg hN50.chg))
      have hC := hC.trans hN50.chg (Ok.nil _ _)
      have f52 : Own (rArr .u8 8) 27 w48 ([g49] ++ ([g44] ++ ([g28] ++ ([g20] ++ ([g12] ++ (M)))))) (some ⟨g49, 0, none⟩) 1 ([t26.1] : List (List Int)) := hN50.own ⟨(cA .u8 8 t26.1), _, rfl, rfl, rfl⟩ (Nat.le_of_ble_eq_true rfl)
      have hML : MS ([g28] ++ ([g20] ++ ([g12] ++ (M)))) w48 := MS.rest hM (fun _ h => (List.mem_append.1 h).elim (fun h => mr (mr (ml h))) (fun h => (List.mem_append.1 h).elim (fun h => mr (mr (mr (ml h)))) (fun h => (List.mem_append.1 h).elim (fun h => mr (mr (mr (mr (ml h))))) (fun h => mr (mr (mr (mr (mr (h)))))))))
      have oL : Ok ([g28] ++ ([g20] ++ ([g12] ++ (M)))) ([g49] ++ ([g44] ++ ([g28] ++ ([g20] ++ ([g12] ++ (M)))))) w48.heap.size := (fun _ h => .inl (mr (mr (h))))
      obtain ⟨t53, H53, H⟩ := bind_some H
      refine cl ha (by rfl) (by kernel_rfl) (by rfl) (by rfl) (by rfl) (community_Meet.walk w48 _ hML ([t26.1] : List (List Int)) (some ⟨g44, 0, none⟩) 1 (Own.toRSl (M' := [g28] ++ ([g20] ++ ([g12] ++ (M)))) f47 oL (fun x hx hm => (List.mem_append.1 hm).elim (fun h => p_i46_i30 x hx h) (fun h => (List.mem_append.1 h).elim (fun h => p_i46_i22 x hx h) (fun h => (List.mem_append.1 h).elim (fun h => p_i46_i14 x hx h) (fun h => p_i46_M x hx h))))) ([t26.1] : List (List Int)) (some ⟨g49, 0, none⟩) 1 (Own.toRSl (M' := [g28] ++ ([g20] ++ ([g12] ++ (M)))) f52 oL (fun x hx hm => (List.mem_append.1 hm).elim (fun h => p_i51_i30 x hx h) (fun h => (List.mem_append.1 h).elim (fun h => p_i51_i22 x hx h) (fun h => (List.mem_append.1 h).elim (fun h => p_i51_i14 x hx h) (fun h => p_i51_M x hx h))))) k _ H53) ?_
      rintro _ w53 ⟨rfl, hc53, hMn⟩ a ha
      have o1 : Ok [] ([g49] ++ ([g44] ++ ([g28] ++ ([g20] ++ ([g12] ++ (M)))))) w48.heap.size := Ok.nil _ _
      have o2 : Ok ([g49] ++ ([g44] ++ ([g28] ++ ([g20] ++ ([g12] ++ (M)))))) ([g49] ++ ([g44] ++ ([g28] ++ ([g20] ++ ([g12] ++ (M)))))) w48.heap.size := (Ok.refl _ _)
      have hG := hG.chg hc53 o1 o2
      have f47 := f47.chg hc53 o1 o2 (fun _ _ h => nomatch h) (fun _ h => mr (ml h))
      have f52 := f52.chg hc53 o1 o2 (fun _ _ h => nomatch h) (fun _ h => ml h)
      have hBg12 := hBg12.chg hc53 (fun h => nomatch h)
      have hBg20 := hBg20.chg hc53 (fun h => nomatch h)
      have hBg28 := hBg28.chg hc53 (fun h => nomatch h)
      have hM : MS ([g49] ++ ([g44] ++ ([g28] ++ ([g20] ++ ([g12] ++ (M)))))) w53 := (hM.chg hc53)
      have hC := hC.trans hc53 (Ok.nil _ _)
      refine sgh ha 4 [2, 6, 3, 0] [(10, .bool (!t53))] (by kernel_rfl) fun a ha => ?_
      obtain rfl := Option.some.inj H
      have o1 : Ok [] ([g49] ++ ([g44] ++ ([g28] ++ ([g20] ++ ([g12] ++ (M)))))) w53.heap.size := Ok.nil _ _
      have o2 : Ok ([g28] ++ ([g20] ++ ([g12] ++ (M)))) ([g49] ++ ([g44] ++ ([g28] ++ ([g20] ++ ([g12] ++ (M)))))) w53.heap.size := (fun _ h => .inl (mr (mr (h))))
      have hG := hG.chg (Chg.refl [] _) o1 o2
      have hBg12 := hBg12.chg (Chg.refl [] _) (fun h => nomatch h)
      have hBg20 := hBg20.chg (Chg.refl [] _) (fun h => nomatch h)
      have hBg28 := hBg28.chg (Chg.refl [] _) (fun h => nomatch h)
      have hM : MS ([g28] ++ ([g20] ++ ([g12] ++ (M)))) w53 := (fun x h => hM.chg (Chg.refl [] _) x (mr (mr (h))))
      have hC := hC.trans (Chg.refl [] _) (Ok.nil _ _)
      exact J39 _ _ (ha.sel (by kernel_rfl)) hBg12 hBg20 hBg28 hG hC hM
    ·have ha := ha.lit hb41
     have H := ite_f hb41 H
     refine ldA (cs := (cA .u8 8 t18.1)) ha rfl (by kernel_rfl) rfl rfl rfl (cells_sub (Box.cells hBg20) (all := (cA .u8 8 t18.1)) [] [] (by kernel_rfl)) fun a ha => ?_
     refine bslA (vals := ([.agg (cA .u8 8 t18.1).toArray] : List Value)) (T := 27) (z := .agg (cA .u8 8 (List.replicate 8 (0 : Int))).toArray) ha rfl (by kernel_rfl) rfl (by kernel_rfl) (s := 8) (by kernel_rfl) rfl rfl (fun w => by kernel_rfl) (by kernel_rfl) rfl rfl rfl fun a w54 g55 hN56 ha => ?_
     have hN56 := (show New _ _ _ (.cells (((cA .u8 8 t18.1) ++ ([] : List Value))).toArray 27 (0, 0)) from hN56)
     have o1 : Ok [] ([g28] ++ ([g20] ++ ([g12] ++ (M)))) w35.heap.size := Ok.nil _ _
     have o2 : Ok ([g55] ++ ([g28] ++ ([g20] ++ ([g12] ++ (M))))) ([g28] ++ ([g20] ++ ([g12] ++ (M)))) w35.heap.size := (Ok.app (hN56.ok _) (Ok.refl _ _))
     have hG := hG.chg hN56.chg o1 o2
     have hBg12 := hBg12.chg hN56.chg (fun h => nomatch h)
     have hBg20 := hBg20.chg hN56.chg (fun h => nomatch h)
     have hBg28 := hBg28.chg hN56.chg (fun h => nomatch h)
     have p_i57_i30 : ∀ x ∈ [g55], x ∉ ([g28]) := fun x hx hy => absurd (hM x (ml hy)) (Nat.not_lt.2 ((hN56.ge1) x hx))
     have p_i57_i22 : ∀ x ∈ [g55], x ∉ ([g20]) := fun x hx hy => absurd (hM x (mr (ml hy))) (Nat.not_lt.2 ((hN56.ge1) x hx))
     have p_i57_i14 : ∀ x ∈ [g55], x ∉ ([g12]) := fun x hx hy => absurd (hM x (mr (mr (ml hy)))) (Nat.not_lt.2 ((hN56.ge1) x hx))
     have p_i57_M : ∀ x ∈ [g55], x ∉ M := fun x hx hy => absurd (hM x (mr (mr (mr (hy))))) (Nat.not_lt.2 ((hN56.ge1) x hx))
     have e_i57 : ∀ x ∈ [g55], w.heap.size ≤ x := fun x hx => Nat.le_trans hC.size ((hN56.ge1) x hx)
     have hM : MS ([g55] ++ ([g28] ++ ([g20] ++ ([g12] ++ (M))))) w54 := (MS.app hN56.ms (hM.chg hN56.chg))
     have hC := hC.trans hN56.chg (Ok.nil _ _)
     have f58 : Own (rArr .u8 8) 27 w54 ([g55] ++ ([g28] ++ ([g20] ++ ([g12] ++ (M))))) (some ⟨g55, 0, none⟩) 1 ([t18.1] : List (List Int)) := hN56.own ⟨(cA .u8 8 t18.1), _, rfl, rfl, rfl⟩ (Nat.le_of_ble_eq_true rfl)
     refine ldA (cs := (cA .u8 8 t18.1)) ha rfl (by kernel_rfl) rfl rfl rfl (cells_sub (Box.cells hBg20) (all := (cA .u8 8 t18.1)) [] [] (by kernel_rfl)) fun a ha => ?_
     refine bslA (vals := ([.agg (cA .u8 8 t18.1).toArray] : List Value)) (T := 27) (z := .agg (cA .u8 8 (List.replicate 8 (0 : Int))).toArray) ha rfl (by kernel_rfl) rfl (by kernel_rfl) (s := 8) (by kernel_rfl) rfl rfl (fun w => by kernel_rfl) (by kernel_rfl) rfl rfl rfl fun a w59 g60 hN61 ha => ?_
     have hN61 := (show New _ _ _ (.cells (((cA .u8 8 t18.1) ++ ([] : List Value))).toArray 27 (0, 0)) from hN61)
     have o1 : Ok [] ([g55] ++ ([g28] ++ ([g20] ++ ([g12] ++ (M))))) w54.heap.size := Ok.nil _ _
     have o2 : Ok ([g60] ++ ([g55] ++ ([g28] ++ ([g20] ++ ([g12] ++ (M)))))) ([g55] ++ ([g28] ++ ([g20] ++ ([g12] ++ (M))))) w54.heap.size := (Ok.app (hN61.ok _) (Ok.refl _ _))
     have hG := hG.chg hN61.chg o1 o2
     have f58 := f58.chg hN61.chg o1 o2 (fun _ _ h => nomatch h) (fun _ h => mr (ml h))
     have hBg12 := hBg12.chg hN61.chg (fun h => nomatch h)
     have hBg20 := hBg20.chg hN61.chg (fun h => nomatch h)
     have hBg28 := hBg28.chg hN61.chg (fun h => nomatch h)
     have p_i62_i57 : ∀ x ∈ [g60], x ∉ ([g55]) := fun x hx hy => absurd (hM x (ml hy)) (Nat.not_lt.2 ((hN61.ge1) x hx))
     have p_i62_i30 : ∀ x ∈ [g60], x ∉ ([g28]) := fun x hx hy => absurd (hM x (mr (ml hy))) (Nat.not_lt.2 ((hN61.ge1) x hx))
     have p_i62_i22 : ∀ x ∈ [g60], x ∉ ([g20]) := fun x hx hy => absurd (hM x (mr (mr (ml hy)))) (Nat.not_lt.2 ((hN61.ge1) x hx))
     have p_i62_i14 : ∀ x ∈ [g60], x ∉ ([g12]) := fun x hx hy => absurd (hM x (mr (mr (mr (ml hy))))) (Nat.not_lt.2 ((hN61.ge1) x hx))
     have p_i62_M : ∀ x ∈ [g60], x ∉ M := fun x hx hy => absurd (hM x (mr (mr (mr (mr (hy)))))) (Nat.not_lt.2 ((hN61.ge1) x hx))
     have e_i62 : ∀ x ∈ [g60], w.heap.size ≤ x := fun x hx => Nat.le_trans hC.size ((hN61.ge1) x hx)
     have hM : MS ([g60] ++ ([g55] ++ ([g28] ++ ([g20] ++ ([g12] ++ (M)))))) w59 := (MS.app hN61.ms (hM.chg hN61.chg))
     have hC := hC.trans hN61.chg (Ok.nil _ _)
     have f63 : Own (rArr .u8 8) 27 w59 ([g60] ++ ([g55] ++ ([g28] ++ ([g20] ++ ([g12] ++ (M)))))) (some ⟨g60, 0, none⟩) 1 ([t18.1] : List (List Int)) := hN61.own ⟨(cA .u8 8 t18.1), _, rfl, rfl, rfl⟩ (Nat.le_of_ble_eq_true rfl)
     have hML : MS ([g28] ++ ([g20] ++ ([g12] ++ (M)))) w59 := MS.rest hM (fun _ h => (List.mem_append.1 h).elim (fun h => mr (mr (ml h))) (fun h => (List.mem_append.1 h).elim (fun h => mr (mr (mr (ml h)))) (fun h => (List.mem_append.1 h).elim (fun h => mr (mr (mr (mr (ml h))))) (fun h => mr (mr (mr (mr (mr (h)))))))))
     have oL : Ok ([g28] ++ ([g20] ++ ([g12] ++ (M)))) ([g60] ++ ([g55] ++ ([g28] ++ ([g20] ++ ([g12] ++ (M)))))) w59.heap.size := (fun _ h => .inl (mr (mr (h))))
     obtain ⟨t64, H64, H⟩ := bind_some H
     refine cl ha (by rfl) (by kernel_rfl) (by rfl) (by rfl) (by rfl) (community_Meet.walk w59 _ hML ([t18.1] : List (List Int)) (some ⟨g55, 0, none⟩) 1 (Own.toRSl (M' := [g28] ++ ([g20] ++ ([g12] ++ (M)))) f58 oL (fun x hx hm => (List.mem_append.1 hm).elim (fun h => p_i57_i30 x hx h) (fun h => (List.mem_append.1 h).elim (fun h => p_i57_i22 x hx h) (fun h => (List.mem_append.1 h).elim (fun h => p_i57_i14 x hx h) (fun h => p_i57_M x hx h))))) ([t18.1] : List (List Int)) (some ⟨g60, 0, none⟩) 1 (Own.toRSl (M' := [g28] ++ ([g20] ++ ([g12] ++ (M)))) f63 oL (fun x hx hm => (List.mem_append.1 hm).elim (fun h => p_i62_i30 x hx h) (fun h => (List.mem_append.1 h).elim (fun h => p_i62_i22 x hx h) (fun h => (List.mem_append.1 h).elim (fun h => p_i62_i14 x hx h) (fun h => p_i62_M x hx h))))) k _ H64) ?_
     rintro _ w64 ⟨rfl, hc64, hMn⟩ a ha
     have o1 : Ok [] ([g60] ++ ([g55] ++ ([g28] ++ ([g20] ++ ([g12] ++ (M)))))) w59.heap.size := Ok.nil _ _
     have o2 : Ok ([g60] ++ ([g55] ++ ([g28] ++ ([g20] ++ ([g12] ++ (M)))))) ([g60] ++ ([g55] ++ ([g28] ++ ([g20] ++ ([g12] ++ (M)))))) w59.heap.size := (Ok.refl _ _)
     have hG := hG.chg hc64 o1 o2
     have f58 := f58.chg hc64 o1 o2 (fun _ _ h => nomatch h) (fun _ h => mr (ml h))
     have f63 := f63.chg hc64 o1 o2 (fun _ _ h => nomatch h) (fun _ h => ml h)
     have hBg12 := hBg12.chg hc64 (fun h => nomatch h)
     have hBg20 := hBg20.chg hc64 (fun h => nomatch h)
     have hBg28 := hBg28.chg hc64 (fun h => nomatch h)
     have hM : MS ([g60] ++ ([g55] ++ ([g28] ++ ([g20] ++ ([g12] ++ (M)))))) w64 := (hM.chg hc64)
     have hC := hC.trans hc64 (Ok.nil _ _)
     refine sgh ha 4 [2, 6, 3, 0] [(67, .bool (!t64)), (16, .pointer (some ⟨g28, 0, none⟩)), (17, .int .i64 t26.2)] (by kernel_rfl) fun a ha => ?_
     rcases Bool.eq_false_or_eq_true (!t64) with hb65 | hb65
     ·have ha := ha.lit hb65
      have H := ite_t hb65 H
      refine sgh ha 3 [2, 2, 2] [(70, .bool (t26.2 != (0 : Int))), (16, .pointer (some ⟨g28, 0, none⟩)), (67, .bool true)] (by kernel_rfl) fun a ha => ?_
      rcases Bool.eq_false_or_eq_true (t26.2 != (0 : Int)) with hb66 | hb66
      ·have ha := ha.lit hb66
       have H := ite_t hb66 H
       refine sgh ha 9 [1, 1, 1, 1, 1, 1, 5, 3, 0] [(10, .bool true)] (by kernel_rfl) fun a ha => ?_
       obtain rfl := Option.some.inj H
       have o1 : Ok [] ([g60] ++ ([g55] ++ ([g28] ++ ([g20] ++ ([g12] ++ (M)))))) w64.heap.size := Ok.nil _ _
       have o2 : Ok ([g28] ++ ([g20] ++ ([g12] ++ (M)))) ([g60] ++ ([g55] ++ ([g28] ++ ([g20] ++ ([g12] ++ (M)))))) w64.heap.size := (fun _ h => .inl (mr (mr (h))))
       have hG := hG.chg (Chg.refl [] _) o1 o2
       have hBg12 := hBg12.chg (Chg.refl [] _) (fun h => nomatch h)
       have hBg20 := hBg20.chg (Chg.refl [] _) (fun h => nomatch h)
       have hBg28 := hBg28.chg (Chg.refl [] _) (fun h => nomatch h)
       have hM : MS ([g28] ++ ([g20] ++ ([g12] ++ (M)))) w64 := (fun x h => hM.chg (Chg.refl [] _) x (mr (mr (h))))
       have hC := hC.trans (Chg.refl [] _) (Ok.nil _ _)
       exact J39 _ _ (ha.sel (by kernel_rfl)) hBg12 hBg20 hBg28 hG hC hM
      ·have ha := ha.lit hb66
       have H := ite_f hb66 H
       refine ldA (cs := (cA .u8 8 t26.1)) ha rfl (by kernel_rfl) rfl rfl rfl (cells_sub (Box.cells hBg28) (all := (cA .u8 8 t26.1)) [] [] (by kernel_rfl)) fun a ha => ?_
       refine bslA (vals := ([.agg (cA .u8 8 t26.1).toArray] : List Value)) (T := 27) (z := .agg (cA .u8 8 (List.replicate 8 (0 : Int))).toArray) ha rfl (by kernel_rfl) rfl (by kernel_rfl) (s := 8) (by kernel_rfl) rfl rfl (fun w => by kernel_rfl) (by kernel_rfl) rfl rfl rfl fun a w67 g68 hN69 ha => ?_
       have hN69 := (show New _ _ _ (.cells (((cA .u8 8 t26.1) ++ ([] : List Value))).toArray 27 (0, 0)) from hN69)
       have o1 : Ok [] ([g60] ++ ([g55] ++ ([g28] ++ ([g20] ++ ([g12] ++ (M)))))) w64.heap.size := Ok.nil _ _
       have o2 : Ok ([g68] ++ ([g60] ++ ([g55] ++ ([g28] ++ ([g20] ++ ([g12] ++ (M))))))) ([g60] ++ ([g55] ++ ([g28] ++ ([g20] ++ ([g12] ++ (M)))))) w64.heap.size := (Ok.app (hN69.ok _) (Ok.refl _ _))
       have hG := hG.chg hN69.chg o1 o2
       have hBg12 := hBg12.chg hN69.chg (fun h => nomatch h)
       have hBg20 := hBg20.chg hN69.chg (fun h => nomatch h)
       have hBg28 := hBg28.chg hN69.chg (fun h => nomatch h)
       have p_i70_i62 : ∀ x ∈ [g68], x ∉ ([g60]) := fun x hx hy => absurd (hM x (ml hy)) (Nat.not_lt.2 ((hN69.ge1) x hx))
       have p_i70_i57 : ∀ x ∈ [g68], x ∉ ([g55]) := fun x hx hy => absurd (hM x (mr (ml hy))) (Nat.not_lt.2 ((hN69.ge1) x hx))
       have p_i70_i30 : ∀ x ∈ [g68], x ∉ ([g28]) := fun x hx hy => absurd (hM x (mr (mr (ml hy)))) (Nat.not_lt.2 ((hN69.ge1) x hx))
       have p_i70_i22 : ∀ x ∈ [g68], x ∉ ([g20]) := fun x hx hy => absurd (hM x (mr (mr (mr (ml hy))))) (Nat.not_lt.2 ((hN69.ge1) x hx))
       have p_i70_i14 : ∀ x ∈ [g68], x ∉ ([g12]) := fun x hx hy => absurd (hM x (mr (mr (mr (mr (ml hy)))))) (Nat.not_lt.2 ((hN69.ge1) x hx))
       have p_i70_M : ∀ x ∈ [g68], x ∉ M := fun x hx hy => absurd (hM x (mr (mr (mr (mr (mr (hy))))))) (Nat.not_lt.2 ((hN69.ge1) x hx))
       have e_i70 : ∀ x ∈ [g68], w.heap.size ≤ x := fun x hx => Nat.le_trans hC.size ((hN69.ge1) x hx)
       have hM : MS ([g68] ++ ([g60] ++ ([g55] ++ ([g28] ++ ([g20] ++ ([g12] ++ (M))))))) w67 := (MS.app hN69.ms (hM.chg hN69.chg))
       have hC := hC.trans hN69.chg (Ok.nil _ _)
       have f71 : Own (rArr .u8 8) 27 w67 ([g68] ++ ([g60] ++ ([g55] ++ ([g28] ++ ([g20] ++ ([g12] ++ (M))))))) (some ⟨g68, 0, none⟩) 1 ([t26.1] : List (List Int)) := hN69.own ⟨(cA .u8 8 t26.1), _, rfl, rfl, rfl⟩ (Nat.le_of_ble_eq_true rfl)
       refine ldA (cs := (cA .u8 8 t26.1)) ha rfl (by kernel_rfl) rfl rfl rfl (cells_sub (Box.cells hBg28) (all := (cA .u8 8 t26.1)) [] [] (by kernel_rfl)) fun a ha => ?_
       refine bslA (vals := ([.agg (cA .u8 8 t26.1).toArray] : List Value)) (T := 27) (z := .agg (cA .u8 8 (List.replicate 8 (0 : Int))).toArray) ha rfl (by kernel_rfl) rfl (by kernel_rfl) (s := 8) (by kernel_rfl) rfl rfl (fun w => by kernel_rfl) (by kernel_rfl) rfl rfl rfl fun a w72 g73 hN74 ha => ?_
       have hN74 := (show New _ _ _ (.cells (((cA .u8 8 t26.1) ++ ([] : List Value))).toArray 27 (0, 0)) from hN74)
       have o1 : Ok [] ([g68] ++ ([g60] ++ ([g55] ++ ([g28] ++ ([g20] ++ ([g12] ++ (M))))))) w67.heap.size := Ok.nil _ _
       have o2 : Ok ([g73] ++ ([g68] ++ ([g60] ++ ([g55] ++ ([g28] ++ ([g20] ++ ([g12] ++ (M)))))))) ([g68] ++ ([g60] ++ ([g55] ++ ([g28] ++ ([g20] ++ ([g12] ++ (M))))))) w67.heap.size := (Ok.app (hN74.ok _) (Ok.refl _ _))
       have hG := hG.chg hN74.chg o1 o2
       have f71 := f71.chg hN74.chg o1 o2 (fun _ _ h => nomatch h) (fun _ h => mr (ml h))
       have hBg12 := hBg12.chg hN74.chg (fun h => nomatch h)
       have hBg20 := hBg20.chg hN74.chg (fun h => nomatch h)
       have hBg28 := hBg28.chg hN74.chg (fun h => nomatch h)
       have p_i75_i70 : ∀ x ∈ [g73], x ∉ ([g68]) := fun x hx hy => absurd (hM x (ml hy)) (Nat.not_lt.2 ((hN74.ge1) x hx))
       have p_i75_i62 : ∀ x ∈ [g73], x ∉ ([g60]) := fun x hx hy => absurd (hM x (mr (ml hy))) (Nat.not_lt.2 ((hN74.ge1) x hx))
       have p_i75_i57 : ∀ x ∈ [g73], x ∉ ([g55]) := fun x hx hy => absurd (hM x (mr (mr (ml hy)))) (Nat.not_lt.2 ((hN74.ge1) x hx))
       have p_i75_i30 : ∀ x ∈ [g73], x ∉ ([g28]) := fun x hx hy => absurd (hM x (mr (mr (mr (ml hy))))) (Nat.not_lt.2 ((hN74.ge1) x hx))
       have p_i75_i22 : ∀ x ∈ [g73], x ∉ ([g20]) := fun x hx hy => absurd (hM x (mr (mr (mr (mr (ml hy)))))) (Nat.not_lt.2 ((hN74.ge1) x hx))
       have p_i75_i14 : ∀ x ∈ [g73], x ∉ ([g12]) := fun x hx hy => absurd (hM x (mr (mr (mr (mr (mr (ml hy))))))) (Nat.not_lt.2 ((hN74.ge1) x hx))
       have p_i75_M : ∀ x ∈ [g73], x ∉ M := fun x hx hy => absurd (hM x (mr (mr (mr (mr (mr (mr (hy)))))))) (Nat.not_lt.2 ((hN74.ge1) x hx))
       have e_i75 : ∀ x ∈ [g73], w.heap.size ≤ x := fun x hx => Nat.le_trans hC.size ((hN74.ge1) x hx)
       have hM : MS ([g73] ++ ([g68] ++ ([g60] ++ ([g55] ++ ([g28] ++ ([g20] ++ ([g12] ++ (M)))))))) w72 := (MS.app hN74.ms (hM.chg hN74.chg))
       have hC := hC.trans hN74.chg (Ok.nil _ _)
       have f76 : Own (rArr .u8 8) 27 w72 ([g73] ++ ([g68] ++ ([g60] ++ ([g55] ++ ([g28] ++ ([g20] ++ ([g12] ++ (M)))))))) (some ⟨g73, 0, none⟩) 1 ([t26.1] : List (List Int)) := hN74.own ⟨(cA .u8 8 t26.1), _, rfl, rfl, rfl⟩ (Nat.le_of_ble_eq_true rfl)
       have hML : MS ([g60] ++ ([g55] ++ ([g28] ++ ([g20] ++ ([g12] ++ (M)))))) w72 := MS.rest hM (fun _ h => (List.mem_append.1 h).elim (fun h => mr (mr (ml h))) (fun h => (List.mem_append.1 h).elim (fun h => mr (mr (mr (ml h)))) (fun h => (List.mem_append.1 h).elim (fun h => mr (mr (mr (mr (ml h))))) (fun h => (List.mem_append.1 h).elim (fun h => mr (mr (mr (mr (mr (ml h)))))) (fun h => (List.mem_append.1 h).elim (fun h => mr (mr (mr (mr (mr (mr (ml h))))))) (fun h => mr (mr (mr (mr (mr (mr (mr (h)))))))))))))
       have oL : Ok ([g60] ++ ([g55] ++ ([g28] ++ ([g20] ++ ([g12] ++ (M)))))) ([g73] ++ ([g68] ++ ([g60] ++ ([g55] ++ ([g28] ++ ([g20] ++ ([g12] ++ (M)))))))) w72.heap.size := (fun _ h => .inl (mr (mr (h))))
       obtain ⟨t77, H77, H⟩ := bind_some H
       refine cl ha (by rfl) (by kernel_rfl) (by rfl) (by rfl) (by rfl) (community_Meet.walk w72 _ hML ([t26.1] : List (List Int)) (some ⟨g68, 0, none⟩) 1 (Own.toRSl (M' := [g60] ++ ([g55] ++ ([g28] ++ ([g20] ++ ([g12] ++ (M)))))) f71 oL (fun x hx hm => (List.mem_append.1 hm).elim (fun h => p_i70_i62 x hx h) (fun h => (List.mem_append.1 h).elim (fun h => p_i70_i57 x hx h) (fun h => (List.mem_append.1 h).elim (fun h => p_i70_i30 x hx h) (fun h => (List.mem_append.1 h).elim (fun h => p_i70_i22 x hx h) (fun h => (List.mem_append.1 h).elim (fun h => p_i70_i14 x hx h) (fun h => p_i70_M x hx h))))))) ([t26.1] : List (List Int)) (some ⟨g73, 0, none⟩) 1 (Own.toRSl (M' := [g60] ++ ([g55] ++ ([g28] ++ ([g20] ++ ([g12] ++ (M)))))) f76 oL (fun x hx hm => (List.mem_append.1 hm).elim (fun h => p_i75_i62 x hx h) (fun h => (List.mem_append.1 h).elim (fun h => p_i75_i57 x hx h) (fun h => (List.mem_append.1 h).elim (fun h => p_i75_i30 x hx h) (fun h => (List.mem_append.1 h).elim (fun h => p_i75_i22 x hx h) (fun h => (List.mem_append.1 h).elim (fun h => p_i75_i14 x hx h) (fun h => p_i75_M x hx h))))))) k _ H77) ?_
       rintro _ w77 ⟨rfl, hc77, hMn⟩ a ha
       have o1 : Ok [] ([g73] ++ ([g68] ++ ([g60] ++ ([g55] ++ ([g28] ++ ([g20] ++ ([g12] ++ (M)))))))) w72.heap.size := Ok.nil _ _
       have o2 : Ok ([g73] ++ ([g68] ++ ([g60] ++ ([g55] ++ ([g28] ++ ([g20] ++ ([g12] ++ (M)))))))) ([g73] ++ ([g68] ++ ([g60] ++ ([g55] ++ ([g28] ++ ([g20] ++ ([g12] ++ (M)))))))) w72.heap.size := (Ok.refl _ _)
       have hG := hG.chg hc77 o1 o2
       have f71 := f71.chg hc77 o1 o2 (fun _ _ h => nomatch h) (fun _ h => mr (ml h))
       have f76 := f76.chg hc77 o1 o2 (fun _ _ h => nomatch h) (fun _ h => ml h)
       have hBg12 := hBg12.chg hc77 (fun h => nomatch h)
       have hBg20 := hBg20.chg hc77 (fun h => nomatch h)
       have hBg28 := hBg28.chg hc77 (fun h => nomatch h)
       have hM : MS ([g73] ++ ([g68] ++ ([g60] ++ ([g55] ++ ([g28] ++ ([g20] ++ ([g12] ++ (M)))))))) w77 := (hM.chg hc77)
       have hC := hC.trans hc77 (Ok.nil _ _)
       refine sgh ha 4 [2, 6, 3, 0] [(10, .bool (!t77))] (by kernel_rfl) fun a ha => ?_
       obtain rfl := Option.some.inj H
       have o1 : Ok [] ([g73] ++ ([g68] ++ ([g60] ++ ([g55] ++ ([g28] ++ ([g20] ++ ([g12] ++ (M)))))))) w77.heap.size := Ok.nil _ _
       have o2 : Ok ([g28] ++ ([g20] ++ ([g12] ++ (M)))) ([g73] ++ ([g68] ++ ([g60] ++ ([g55] ++ ([g28] ++ ([g20] ++ ([g12] ++ (M)))))))) w77.heap.size := (fun _ h => .inl (mr (mr (mr (mr (h))))))
       have hG := hG.chg (Chg.refl [] _) o1 o2
       have hBg12 := hBg12.chg (Chg.refl [] _) (fun h => nomatch h)
       have hBg20 := hBg20.chg (Chg.refl [] _) (fun h => nomatch h)
       have hBg28 := hBg28.chg (Chg.refl [] _) (fun h => nomatch h)
       have hM : MS ([g28] ++ ([g20] ++ ([g12] ++ (M)))) w77 := (fun x h => hM.chg (Chg.refl [] _) x (mr (mr (mr (mr (h))))))
       have hC := hC.trans (Chg.refl [] _) (Ok.nil _ _)
       exact J39 _ _ (ha.sel (by kernel_rfl)) hBg12 hBg20 hBg28 hG hC hM
     ·have ha := ha.lit hb65
      have H := ite_f hb65 H
      refine sgh ha 12 [1, 1, 1, 1, 1, 1, 1, 1, 1, 1, 4, 0] [(10, .bool false)] (by kernel_rfl) fun a ha => ?_
      obtain rfl := Option.some.inj H
      have o1 : Ok [] ([g60] ++ ([g55] ++ ([g28] ++ ([g20] ++ ([g12] ++ (M)))))) w64.heap.size := Ok.nil _ _
      have o2 : Ok ([g28] ++ ([g20] ++ ([g12] ++ (M)))) ([g60] ++ ([g55] ++ ([g28] ++ ([g20] ++ ([g12] ++ (M)))))) w64.heap.size := (fun _ h => .inl (mr (mr (h))))
      have hG := hG.chg (Chg.refl [] _) o1 o2
      have hBg12 := hBg12.chg (Chg.refl [] _) (fun h => nomatch h)
      have hBg20 := hBg20.chg (Chg.refl [] _) (fun h => nomatch h)
      have hBg28 := hBg28.chg (Chg.refl [] _) (fun h => nomatch h)
      have hM : MS ([g28] ++ ([g20] ++ ([g12] ++ (M)))) w64 := (fun x h => hM.chg (Chg.refl [] _) x (mr (mr (h))))
      have hC := hC.trans (Chg.refl [] _) (Ok.nil _ _)
      exact J39 _ _ (ha.sel (by kernel_rfl)) hBg12 hBg20 hBg28 hG hC hM
   ·have ha := ha.lit hb40
    have H := ite_f hb40 H
    refine sgh ha 24 [1, 1, 1, 1, 1, 1, 1, 1, 1, 1, 4, 0, 1, 1, 1, 1, 1, 1, 1, 1, 1, 1, 4, 0] [(10, .bool false)] (by kernel_rfl) fun a ha => ?_
    obtain rfl := Option.some.inj H
    exact J39 _ _ (ha.sel (by kernel_rfl)) hBg12 hBg20 hBg28 hG hC hM
 have H := H35
 refine seg ha 3 [(39, .bool (t10.2 == (0 : Int))), (11, .bool t8), (12, .pointer (some ⟨g12, 0, none⟩)), (14, .pointer (some ⟨g20, 0, none⟩)), (15, .int .i64 t18.2), (16, .pointer (some ⟨g28, 0, none⟩)), (17, .int .i64 t26.2)] (by kernel_rfl) fun a ha => ?_
 rcases Bool.eq_false_or_eq_true (t10.2 == (0 : Int)) with hb78 | hb78
 ·have ha := ha.lit hb78
  have H := ite_t hb78 H
  refine ldA (cs := (cA .u8 8 t10.1)) ha rfl (by kernel_rfl) rfl rfl rfl (cells_sub (Box.cells hBg12) (all := (cA .u8 8 t10.1)) [] [] (by kernel_rfl)) fun a ha => ?_
  obtain ⟨t79, H79, H⟩ := bind_some H
  refine cl ha (by rfl) (by kernel_rfl) (by rfl) (by rfl) (by rfl) (community_Kind.walk w31 _ hM t10.1 _ H79) ?_
  rintro _ w79 ⟨rfl, hc79, hMn⟩ a ha
  have o1 : Ok [] ([g28] ++ ([g20] ++ ([g12] ++ (M)))) w31.heap.size := Ok.nil _ _
  have o2 : Ok ([g28] ++ ([g20] ++ ([g12] ++ (M)))) ([g28] ++ ([g20] ++ ([g12] ++ (M)))) w31.heap.size := (Ok.refl _ _)
  have hG := hG.chg hc79 o1 o2
  have hBg12 := hBg12.chg hc79 (fun h => nomatch h)
  have hBg20 := hBg20.chg hc79 (fun h => nomatch h)
  have hBg28 := hBg28.chg hc79 (fun h => nomatch h)
  have hM : MS ([g28] ++ ([g20] ++ ([g12] ++ (M)))) w79 := (hM.chg hc79)
  have hC := hC.trans hc79 (Ok.nil _ _)
  refine sgh ha 2 [2, 2] [(43, .bool (t79 != (1 : Int))), (11, .bool t8), (12, .pointer (some ⟨g12, 0, none⟩)), (14, .pointer (some ⟨g20, 0, none⟩)), (15, .int .i64 t18.2), (16, .pointer (some ⟨g28, 0, none⟩)), (17, .int .i64 t26.2), (39, .bool true)] (by kernel_rfl) fun a ha => ?_
  rcases Bool.eq_false_or_eq_true (t79 != (1 : Int)) with hb80 | hb80
  ·have ha := ha.lit hb80
   have H := ite_t hb80 H
   refine sgh ha 10 [1, 1, 1, 1, 1, 1, 1, 1, 5, 3] [(11, .bool t8), (14, .pointer (some ⟨g20, 0, none⟩)), (15, .int .i64 t18.2), (16, .pointer (some ⟨g28, 0, none⟩)), (17, .int .i64 t26.2), (53, .bool true)] (by kernel_rfl) fun a ha => ?_
   obtain rfl := Option.some.inj H
   exact J35 _ _ (ha.sel (by kernel_rfl)) hBg12 hBg20 hBg28 hG hC hM
  ·have ha := ha.lit hb80
   have H := ite_f hb80 H
   refine ldA (cs := (cA .u8 8 t18.1)) ha rfl (by kernel_rfl) rfl rfl rfl (cells_sub (Box.cells hBg20) (all := (cA .u8 8 t18.1)) [] [] (by kernel_rfl)) fun a ha => ?_
   refine ldA (cs := (cA .u8 8 t10.1)) ha rfl (by kernel_rfl) rfl rfl rfl (cells_sub (Box.cells hBg12) (all := (cA .u8 8 t10.1)) [] [] (by kernel_rfl)) fun a ha => ?_
   refine bslA (vals := ([.agg (cA .u8 8 t18.1).toArray, .agg (cA .u8 8 t10.1).toArray] : List Value)) (T := 27) (z := .agg (cA .u8 8 (List.replicate 8 (0 : Int))).toArray) ha rfl (by kernel_rfl) rfl (by kernel_rfl) (s := 8) (by kernel_rfl) rfl rfl (fun w => by kernel_rfl) (by kernel_rfl) rfl rfl rfl fun a w81 g82 hN83 ha => ?_
   have hN83 := (show New _ _ _ (.cells (((cA .u8 8 t18.1) ++ ((cA .u8 8 t10.1) ++ ([] : List Value)))).toArray 27 (0, 0)) from hN83)
   have o1 : Ok [] ([g28] ++ ([g20] ++ ([g12] ++ (M)))) w79.heap.size := Ok.nil _ _
   have o2 : Ok ([g82] ++ ([g28] ++ ([g20] ++ ([g12] ++ (M))))) ([g28] ++ ([g20] ++ ([g12] ++ (M)))) w79.heap.size := (Ok.app (hN83.ok _) (Ok.refl _ _))
   have hG := hG.chg hN83.chg o1 o2
   have hBg12 := hBg12.chg hN83.chg (fun h => nomatch h)
   have hBg20 := hBg20.chg hN83.chg (fun h => nomatch h)
   have hBg28 := hBg28.chg hN83.chg (fun h => nomatch h)
   have p_i84_i30 : ∀ x ∈ [g82], x ∉ ([g28]) := fun x hx hy => absurd (hM x (ml hy)) (Nat.not_lt.2 ((hN83.ge1) x hx))
   have p_i84_i22 : ∀ x ∈ [g82], x ∉ ([g20]) := fun x hx hy => absurd (hM x (mr (ml hy))) (Nat.not_lt.2 ((hN83.ge1) x hx))
   have p_i84_i14 : ∀ x ∈ [g82], x ∉ ([g12]) := fun x hx hy => absurd (hM x (mr (mr (ml hy)))) (Nat.not_lt.2 ((hN83.ge1) x hx))
   have p_i84_M : ∀ x ∈ [g82], x ∉ M := fun x hx hy => absurd (hM x (mr (mr (mr (hy))))) (Nat.not_lt.2 ((hN83.ge1) x hx))
   have e_i84 : ∀ x ∈ [g82], w.heap.size ≤ x := fun x hx => Nat.le_trans hC.size ((hN83.ge1) x hx)
   have hM : MS ([g82] ++ ([g28] ++ ([g20] ++ ([g12] ++ (M))))) w81 := (MS.app hN83.ms (hM.chg hN83.chg))
   have hC := hC.trans hN83.chg (Ok.nil _ _)
   have f85 : Own (rArr .u8 8) 27 w81 ([g82] ++ ([g28] ++ ([g20] ++ ([g12] ++ (M))))) (some ⟨g82, 0, none⟩) 2 ([t18.1, t10.1] : List (List Int)) := hN83.own ⟨(cA .u8 8 t18.1), _, rfl, rfl, ⟨(cA .u8 8 t10.1), _, rfl, rfl, rfl⟩⟩ (Nat.le_of_ble_eq_true rfl)
   refine ldA (cs := (cA .u8 8 t10.1)) ha rfl (by kernel_rfl) rfl rfl rfl (cells_sub (Box.cells hBg12) (all := (cA .u8 8 t10.1)) [] [] (by kernel_rfl)) fun a ha => ?_
   refine ldA (cs := (cA .u8 8 t26.1)) ha rfl (by kernel_rfl) rfl rfl rfl (cells_sub (Box.cells hBg28) (all := (cA .u8 8 t26.1)) [] [] (by kernel_rfl)) fun a ha => ?_
   refine bslA (vals := ([.agg (cA .u8 8 t10.1).toArray, .agg (cA .u8 8 t26.1).toArray] : List Value)) (T := 27) (z := .agg (cA .u8 8 (List.replicate 8 (0 : Int))).toArray) ha rfl (by kernel_rfl) rfl (by kernel_rfl) (s := 8) (by kernel_rfl) rfl rfl (fun w => by kernel_rfl) (by kernel_rfl) rfl rfl rfl fun a w86 g87 hN88 ha => ?_
   have hN88 := (show New _ _ _ (.cells (((cA .u8 8 t10.1) ++ ((cA .u8 8 t26.1) ++ ([] : List Value)))).toArray 27 (0, 0)) from hN88)
   have o1 : Ok [] ([g82] ++ ([g28] ++ ([g20] ++ ([g12] ++ (M))))) w81.heap.size := Ok.nil _ _
   have o2 : Ok ([g87] ++ ([g82] ++ ([g28] ++ ([g20] ++ ([g12] ++ (M)))))) ([g82] ++ ([g28] ++ ([g20] ++ ([g12] ++ (M))))) w81.heap.size := (Ok.app (hN88.ok _) (Ok.refl _ _))
   have hG := hG.chg hN88.chg o1 o2
   have f85 := f85.chg hN88.chg o1 o2 (fun _ _ h => nomatch h) (fun _ h => mr (ml h))
   have hBg12 := hBg12.chg hN88.chg (fun h => nomatch h)
   have hBg20 := hBg20.chg hN88.chg (fun h => nomatch h)
   have hBg28 := hBg28.chg hN88.chg (fun h => nomatch h)
   have p_i89_i84 : ∀ x ∈ [g87], x ∉ ([g82]) := fun x hx hy => absurd (hM x (ml hy)) (Nat.not_lt.2 ((hN88.ge1) x hx))
   have p_i89_i30 : ∀ x ∈ [g87], x ∉ ([g28]) := fun x hx hy => absurd (hM x (mr (ml hy))) (Nat.not_lt.2 ((hN88.ge1) x hx))
   have p_i89_i22 : ∀ x ∈ [g87], x ∉ ([g20]) := fun x hx hy => absurd (hM x (mr (mr (ml hy)))) (Nat.not_lt.2 ((hN88.ge1) x hx))
   have p_i89_i14 : ∀ x ∈ [g87], x ∉ ([g12]) := fun x hx hy => absurd (hM x (mr (mr (mr (ml hy))))) (Nat.not_lt.2 ((hN88.ge1) x hx))
   have p_i89_M : ∀ x ∈ [g87], x ∉ M := fun x hx hy => absurd (hM x (mr (mr (mr (mr (hy)))))) (Nat.not_lt.2 ((hN88.ge1) x hx))
   have e_i89 : ∀ x ∈ [g87], w.heap.size ≤ x := fun x hx => Nat.le_trans hC.size ((hN88.ge1) x hx)
   have hM : MS ([g87] ++ ([g82] ++ ([g28] ++ ([g20] ++ ([g12] ++ (M)))))) w86 := (MS.app hN88.ms (hM.chg hN88.chg))
   have hC := hC.trans hN88.chg (Ok.nil _ _)
   have f90 : Own (rArr .u8 8) 27 w86 ([g87] ++ ([g82] ++ ([g28] ++ ([g20] ++ ([g12] ++ (M)))))) (some ⟨g87, 0, none⟩) 2 ([t10.1, t26.1] : List (List Int)) := hN88.own ⟨(cA .u8 8 t10.1), _, rfl, rfl, ⟨(cA .u8 8 t26.1), _, rfl, rfl, rfl⟩⟩ (Nat.le_of_ble_eq_true rfl)
   have hML : MS ([g28] ++ ([g20] ++ ([g12] ++ (M)))) w86 := MS.rest hM (fun _ h => (List.mem_append.1 h).elim (fun h => mr (mr (ml h))) (fun h => (List.mem_append.1 h).elim (fun h => mr (mr (mr (ml h)))) (fun h => (List.mem_append.1 h).elim (fun h => mr (mr (mr (mr (ml h))))) (fun h => mr (mr (mr (mr (mr (h)))))))))
   have oL : Ok ([g28] ++ ([g20] ++ ([g12] ++ (M)))) ([g87] ++ ([g82] ++ ([g28] ++ ([g20] ++ ([g12] ++ (M)))))) w86.heap.size := (fun _ h => .inl (mr (mr (h))))
   obtain ⟨t91, H91, H⟩ := bind_some H
   refine cl ha (by rfl) (by kernel_rfl) (by rfl) (by rfl) (by rfl) (community_Meet.walk w86 _ hML ([t18.1, t10.1] : List (List Int)) (some ⟨g82, 0, none⟩) 2 (Own.toRSl (M' := [g28] ++ ([g20] ++ ([g12] ++ (M)))) f85 oL (fun x hx hm => (List.mem_append.1 hm).elim (fun h => p_i84_i30 x hx h) (fun h => (List.mem_append.1 h).elim (fun h => p_i84_i22 x hx h) (fun h => (List.mem_append.1 h).elim (fun h => p_i84_i14 x hx h) (fun h => p_i84_M x hx h))))) ([t10.1, t26.1] : List (List Int)) (some ⟨g87, 0, none⟩) 2 (Own.toRSl (M' := [g28] ++ ([g20] ++ ([g12] ++ (M)))) f90 oL (fun x hx hm => (List.mem_append.1 hm).elim (fun h => p_i89_i30 x hx h) (fun h => (List.mem_append.1 h).elim (fun h => p_i89_i22 x hx h) (fun h => (List.mem_append.1 h).elim (fun h => p_i89_i14 x hx h) (fun h => p_i89_M x hx h))))) k _ H91) ?_
   rintro _ w91 ⟨rfl, hc91, hMn⟩ a ha
   have o1 : Ok [] ([g87] ++ ([g82] ++ ([g28] ++ ([g20] ++ ([g12] ++ (M)))))) w86.heap.size := Ok.nil _ _
   have o2 : Ok ([g87] ++ ([g82] ++ ([g28] ++ ([g20] ++ ([g12] ++ (M)))))) ([g87] ++ ([g82] ++ ([g28] ++ ([g20] ++ ([g12] ++ (M)))))) w86.heap.size := (Ok.refl _ _)
   have hG := hG.chg hc91 o1 o2
   have f85 := f85.chg hc91 o1 o2 (fun _ _ h => nomatch h) (fun _ h => mr (ml h))
   have f90 := f90.chg hc91 o1 o2 (fun _ _ h => nomatch h) (fun _ h => ml h)
   have hBg12 := hBg12.chg hc91 (fun h => nomatch h)
   have hBg20 := hBg20.chg hc91 (fun h => nomatch h)
   have hBg28 := hBg28.chg hc91 (fun h => nomatch h)
   have hM : MS ([g87] ++ ([g82] ++ ([g28] ++ ([g20] ++ ([g12] ++ (M)))))) w91 := (hM.chg hc91)
   have hC := hC.trans hc91 (Ok.nil _ _)
   refine sgh ha 3 [2, 6, 3] [(11, .bool t8), (14, .pointer (some ⟨g20, 0, none⟩)), (15, .int .i64 t18.2), (16, .pointer (some ⟨g28, 0, none⟩)), (17, .int .i64 t26.2), (53, .bool (!t91))] (by kernel_rfl) fun a ha => ?_
   obtain rfl := Option.some.inj H
   have o1 : Ok [] ([g87] ++ ([g82] ++ ([g28] ++ ([g20] ++ ([g12] ++ (M)))))) w91.heap.size := Ok.nil _ _
   have o2 : Ok ([g28] ++ ([g20] ++ ([g12] ++ (M)))) ([g87] ++ ([g82] ++ ([g28] ++ ([g20] ++ ([g12] ++ (M)))))) w91.heap.size := (fun _ h => .inl (mr (mr (h))))
   have hG := hG.chg (Chg.refl [] _) o1 o2
   have hBg12 := hBg12.chg (Chg.refl [] _) (fun h => nomatch h)
   have hBg20 := hBg20.chg (Chg.refl [] _) (fun h => nomatch h)
   have hBg28 := hBg28.chg (Chg.refl [] _) (fun h => nomatch h)
   have hM : MS ([g28] ++ ([g20] ++ ([g12] ++ (M)))) w91 := (fun x h => hM.chg (Chg.refl [] _) x (mr (mr (h))))
   have hC := hC.trans (Chg.refl [] _) (Ok.nil _ _)
   exact J35 _ _ (ha.sel (by kernel_rfl)) hBg12 hBg20 hBg28 hG hC hM
 ·have ha := ha.lit hb78
  have H := ite_f hb78 H
  refine sgh ha 14 [1, 1, 1, 1, 1, 1, 1, 1, 1, 1, 1, 1, 1, 4] [(11, .bool t8), (14, .pointer (some ⟨g20, 0, none⟩)), (15, .int .i64 t18.2), (16, .pointer (some ⟨g28, 0, none⟩)), (17, .int .i64 t26.2), (53, .bool false)] (by kernel_rfl) fun a ha => ?_
  obtain rfl := Option.some.inj H
  exact J35 _ _ (ha.sel (by kernel_rfl)) hBg12 hBg20 hBg28 hG hC hM
end Go.E
