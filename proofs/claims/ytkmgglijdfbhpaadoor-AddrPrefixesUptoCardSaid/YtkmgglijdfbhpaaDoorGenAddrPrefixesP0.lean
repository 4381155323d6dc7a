/- What the functions that the law reaches compute, and the walks that show it. -/
import Derived.Test.YtkmgglijdfbhpaaDoorEngU
import Derived.Test.YtkmgglijdfbhpaaDoorShelf
import Derived.Test.YtkmgglijdfbhpaaDoorProg
set_option linter.unusedVariables false
set_option linter.unusedSimpArgs false
namespace Go.E
open Go.RowKit Go.Proofs
def dbTab : List Int := [0, 1, 56, 2, 57, 49, 28, 3, 61, 58, 42, 50, 38, 29, 17, 4, 62, 47, 59, 36, 45, 43, 51, 22, 53, 39, 33, 30, 24, 18, 12, 5, 63, 55, 48, 27, 60, 41, 37, 16, 46, 35, 44, 21, 52, 32, 23, 11, 54, 26, 40, 15, 34, 20, 31, 10, 25, 14, 19, 9, 13, 8, 7, 6]
def GF (w : World) (M : List Nat) : Prop := TabOk Tryd.prog w M "internal/strconv.uint64pow10" .u64 Lib.pow10Tab 1 ∧ TabOk Tryd.prog w M "math/bits.deBruijn64tab" .u8 dbTab 5 ∧ IntOk w M 0
theorem GF.chg {w w' : World} {M M' gs : List Nat} (h : GF w M) (hc : Chg gs w w') (ho : Ok gs M w.heap.size) (hm : Ok M' M w.heap.size) : GF w' M' :=
  ⟨h.1.chg (by kernel_rfl) hc ho hm, h.2.1.chg (by kernel_rfl) hc ho hm, h.2.2.chg hc ho hm⟩
structure S_api_Addr where
  Size : Int
  B : List Int
  deriving DecidableEq, Inhabited
def cS_api_Addr (x : S_api_Addr) : List Value := ([.int .i64 x.Size] : List Value) ++ (cA .u8 16 x.B)
def rS_api_Addr : Rep S_api_Addr := rIso (fun x : S_api_Addr => (x.Size, x.B)) (rPair (rInt .i64) (rArr .u8 16))
theorem rS_api_Addr.open {w : World} {M : List Nat} {cs : List Value} {x : S_api_Addr} (h : rS_api_Addr.R w M cs x) : cs = cS_api_Addr x := by
  obtain ⟨c0, k0, e0, h0, h1⟩ := h
  obtain rfl := h0
  obtain rfl := h1
  subst e0
  exact rfl
theorem rS_api_Addr.mk {w : World} {M : List Nat} (x : S_api_Addr) : rS_api_Addr.R w M (cS_api_Addr x) x := ⟨_, _, rfl, rfl, rfl⟩
def okS_api_Addr (x : S_api_Addr) : Prop := (okI .i64) x.Size ∧ (okA .u8 16) x.B
structure S_api_Prefix where
  Addr : S_api_Addr
  Bits : Int
  deriving DecidableEq, Inhabited
def cS_api_Prefix (x : S_api_Prefix) : List Value := cS_api_Addr x.Addr ++ (([.int .i64 x.Bits] : List Value))
def rS_api_Prefix : Rep S_api_Prefix := rIso (fun x : S_api_Prefix => (x.Addr, x.Bits)) (rPair rS_api_Addr (rInt .i64))
theorem rS_api_Prefix.open {w : World} {M : List Nat} {cs : List Value} {x : S_api_Prefix} (h : rS_api_Prefix.R w M cs x) : cs = cS_api_Prefix x := by
  obtain ⟨c0, k0, e0, h0, h1⟩ := h
  have h0 := rS_api_Addr.open h0
  obtain rfl := h0
  obtain rfl := h1
  subst e0
  exact rfl
theorem rS_api_Prefix.mk {w : World} {M : List Nat} (x : S_api_Prefix) : rS_api_Prefix.R w M (cS_api_Prefix x) x := ⟨_, _, rfl, (rS_api_Addr.mk x.Addr), rfl⟩
def okS_api_Prefix (x : S_api_Prefix) : Prop := (okS_api_Addr) x.Addr ∧ (okI .i64) x.Bits
def addr_value.f (a0 : Int) (a1 : Int) : Option (Int × Bool) := (if (if (decide (a0 ≥ (48 : Int))) = true then (decide (a0 ≤ (57 : Int))) else false) = true then some ((IntKind.i64.wrap (IntKind.i32.wrap (a0 - (48 : Int))) : Int), (decide ((IntKind.i64.wrap (IntKind.i32.wrap (a0 - (48 : Int)))) < a1) : Bool)) else (if (if (decide (a0 ≥ (97 : Int))) = true then (decide (a0 ≤ (102 : Int))) else false) = true then some ((IntKind.i64.wrap ((IntKind.i64.wrap (IntKind.i32.wrap (a0 - (97 : Int)))) + (10 : Int)) : Int), (decide ((IntKind.i64.wrap ((IntKind.i64.wrap (IntKind.i32.wrap (a0 - (97 : Int)))) + (10 : Int))) < a1) : Bool)) else some ((a1 : Int), (decide (a1 < a1) : Bool))))
set_option maxRecDepth 100000 in
theorem addr_value.walk (w : World) (M : List Nat) (hM : MS M w) (a0 : Int) (a1 : Int) (r : Int × Bool) (H : addr_value.f a0 a1 = some r) :
    To Tryd.prog 70 [.int .i32 a0, .int .i64 a1] w fun v w' => v = .tuple #[.int .i64 r.1, .bool r.2] ∧ Chg [] w w' ∧ MS (M) w' := by
 unfold addr_value.f at H
 refine ent Tryd.func70 rfl [(0, .int .i32 a0), (1, .int .i64 a1)] rfl (by rfl) fun a ha => ?_
 have hC : Chg [] w w := Chg.refl _ _
 refine wp_seq_k fun K1 hK1 => ?_
 refine wp_region_lit ?_
 refine seg ha 2 [(0, .int .i32 a0), (1, .int .i64 a1)] (by kernel_rfl) fun a ha => ?_
 refine hK1 _ _ ?_; try clear hK1 K1
 refine wp_seq_k fun K2 hK2 => ?_
 refine wp_region_lit ?_
 refine seg ha 2 [(0, .int .i32 a0), (1, .int .i64 a1), (6, .int .i64 a1)] (by kernel_rfl) fun a ha => ?_
 refine hK2 _ _ ?_; try clear hK2 K2
 refine wp_seq_k fun K3 hK3 => ?_
 refine wp_block ?_
 refine wp_seq_k fun K4 hK4 => ?_
 refine wp_region_lit ?_
 refine seg ha 7 [(0, .int .i32 a0), (1, .int .i64 a1), (6, .int .i64 a1), (8, .bool (if (decide (a0 ≥ (48 : Int))) = true then (decide (a0 ≤ (57 : Int))) else false))] (by kernel_rfl) fun a ha => ?_
 refine hK4 _ _ ?_; try clear hK4 K4
 refine cnd ha rfl (fun hc5 => ?_) (fun hc5 => ?_)
 ·have H := ite_t hc5 H
  refine wp_region_lit ?_
  refine seg ha 4 [(1, .int .i64 a1), (6, .int .i64 (IntKind.i64.wrap (IntKind.i32.wrap (a0 - (48 : Int)))))] (by kernel_rfl) fun a ha => ?_
  refine hK3 _ _ ?_; try clear hK3 K3
  refine wp_seq_k fun K6 hK6 => ?_
  refine wp_region_lit ?_
  refine seg ha 6 [(4, .int .i64 (IntKind.i64.wrap (IntKind.i32.wrap (a0 - (48 : Int))))), (5, .bool (decide ((IntKind.i64.wrap (IntKind.i32.wrap (a0 - (48 : Int)))) < a1)))] (by kernel_rfl) fun a ha => ?_
  refine hK6 _ _ ?_; try clear hK6 K6
  refine wp_ret ?_
  try simp only [Exit.then, Exit.inBlock]
  obtain rfl := Option.some.inj H
  refine rt2 ha rfl rfl rfl ?_
  exact ⟨rfl, hC, hM⟩
 ·have H := ite_f hc5 H
  refine wp_seq_k fun K7 hK7 => ?_
  refine wp_region_lit ?_
  refine seg ha 7 [(0, .int .i32 a0), (1, .int .i64 a1), (6, .int .i64 a1), (18, .bool (if (decide (a0 ≥ (97 : Int))) = true then (decide (a0 ≤ (102 : Int))) else false))] (by kernel_rfl) fun a ha => ?_
  refine hK7 _ _ ?_; try clear hK7 K7
  refine cnd ha rfl (fun hc8 => ?_) (fun hc8 => ?_)
  ·have H := ite_t hc8 H
   refine wp_region_lit ?_
   refine seg ha 5 [(1, .int .i64 a1), (6, .int .i64 (IntKind.i64.wrap ((IntKind.i64.wrap (IntKind.i32.wrap (a0 - (97 : Int)))) + (10 : Int))))] (by kernel_rfl) fun a ha => ?_
   refine hK3 _ _ ?_; try clear hK3 K3
   refine wp_seq_k fun K9 hK9 => ?_
   refine wp_region_lit ?_
   refine seg ha 6 [(4, .int .i64 (IntKind.i64.wrap ((IntKind.i64.wrap (IntKind.i32.wrap (a0 - (97 : Int)))) + (10 : Int)))), (5, .bool (decide ((IntKind.i64.wrap ((IntKind.i64.wrap (IntKind.i32.wrap (a0 - (97 : Int)))) + (10 : Int))) < a1)))] (by kernel_rfl) fun a ha => ?_
   refine hK9 _ _ ?_; try clear hK9 K9
   refine wp_ret ?_
   try simp only [Exit.then, Exit.inBlock]
   obtain rfl := Option.some.inj H
   refine rt2 ha rfl rfl rfl ?_
   exact ⟨rfl, hC, hM⟩
  ·have H := ite_f hc8 H
   refine wp_skip ?_
   refine hK3 _ _ ?_; try clear hK3 K3
   refine wp_seq_k fun K10 hK10 => ?_
   refine wp_region_lit ?_
   refine seg ha 6 [(4, .int .i64 a1), (5, .bool (decide (a1 < a1)))] (by kernel_rfl) fun a ha => ?_
   refine hK10 _ _ ?_; try clear hK10 K10
   refine wp_ret ?_
   try simp only [Exit.then, Exit.inBlock]
   obtain rfl := Option.some.inj H
   refine rt2 ha rfl rfl rfl ?_
   exact ⟨rfl, hC, hM⟩
def addr_parts.l0 (a0 : List UInt8) (a1 : Int) (a2 : Int) (a3 : Int) : Nat → (List Int) → Nat → Option ((List Int × Bool) ⊕ (List Int × Nat))
  | 0, _, _ => none
  | kk + 1, x16, x17 => (if x17 < a0.length then (if (((dec a0 x17).1 : Int) == a1) = true then (if (x16.length + ([(-1 : Int)] : List Int).length) * 8 ≤ 140737488355328 then addr_parts.l0 a0 a1 a2 a3 kk (x16 ++ ([(-1 : Int)] : List Int)) (x17 + (dec a0 x17).2) else none) else (addr_value.f ((dec a0 x17).1 : Int) a2).bind fun t38 => (if 0 ≤ (IntKind.i64.wrap ((x16.length : Int) - (1 : Int))) ∧ (IntKind.i64.wrap ((x16.length : Int) - (1 : Int))) < (x16.length : Int) then ((if (!t38.2) = true then some (true : Bool) else (if (decide ((IntKind.i64.wrap ((IntKind.i64.wrap ((if (0 : Int) > (rd x16 (IntKind.i64.wrap ((x16.length : Int) - (1 : Int)))) then (0 : Int) else (rd x16 (IntKind.i64.wrap ((x16.length : Int) - (1 : Int))))) * a2)) + t38.1)) ≥ a3)) = true then some (true : Bool) else (if 0 ≤ (IntKind.i64.wrap ((x16.length : Int) - (1 : Int))) ∧ (IntKind.i64.wrap ((x16.length : Int) - (1 : Int))) < (x16.length : Int) then some ((rd x16 (IntKind.i64.wrap ((x16.length : Int) - (1 : Int)))) == (0 : Int) : Bool) else none)))).bind fun s50 => (if s50 = true then some (.inl ((([] : List Int) : List Int), (false : Bool))) else (if 0 ≤ (IntKind.i64.wrap ((x16.length : Int) - (1 : Int))) ∧ (IntKind.i64.wrap ((x16.length : Int) - (1 : Int))) < (x16.length : Int) then addr_parts.l0 a0 a1 a2 a3 kk (x16.set (Int.toNat (IntKind.i64.wrap ((x16.length : Int) - (1 : Int)))) (IntKind.i64.wrap ((IntKind.i64.wrap ((if (0 : Int) > (rd x16 (IntKind.i64.wrap ((x16.length : Int) - (1 : Int)))) then (0 : Int) else (rd x16 (IntKind.i64.wrap ((x16.length : Int) - (1 : Int))))) * a2)) + t38.1))) (x17 + (dec a0 x17).2) else none)) else none)) else some (.inr ((x16 : List Int), (x17 : Nat))))
def addr_parts.f (k : Nat) (a0 : List UInt8) (a1 : Int) (a2 : Int) (a3 : Int) : Option (List Int × Bool) := (addr_parts.l0 a0 a1 a2 a3 k ([(-1 : Int)] : List Int) (0 : Nat)).bind fun s14 => match s14 with | .inl r => some r | .inr s14' => some ((s14'.1 : List Int), (true : Bool))
set_option maxRecDepth 100000 in
theorem addr_parts.walk (w : World) (M : List Nat) (hM : MS M w) (a0 : List UInt8) (a1 : Int) (a2 : Int) (a3 : Int) (k : Nat) (r : List Int × Bool) (H : addr_parts.f k a0 a1 a2 a3 = some r) :
    To Tryd.prog 49 [.string (bstr a0), .int .i32 a1, .int .i64 a2, .int .i64 a3] w fun v w' => ∃ (ao69 : Option Addr) (cap69 : Nat), v = .tuple #[.slice ao69 r.1.length cap69, .bool r.2] ∧ (Own (rInt .i64) 3 w' (blkL ao69 ++ (M)) ao69 cap69 r.1) ∧ (∀ x ∈ blkL ao69, w.heap.size ≤ x) ∧ Chg [] w w' ∧ MS (blkL ao69 ++ (M)) w' := by
 unfold addr_parts.f at H
 refine ent Tryd.func49 rfl [(0, .string (bstr a0)), (1, .int .i32 a1), (2, .int .i64 a2), (3, .int .i64 a3)] rfl (by rfl) fun a ha => ?_
 have hC : Chg [] w w := Chg.refl _ _
 refine wp_seq_k fun K1 hK1 => ?_
 refine wp_region_lit ?_
 refine seg ha 2 [(0, .string (bstr a0)), (1, .int .i32 a1), (2, .int .i64 a2), (3, .int .i64 a3)] (by kernel_rfl) fun a ha => ?_
 refine hK1 _ _ ?_; try clear hK1 K1
 refine wp_seq_k fun K2 hK2 => ?_
 refine wp_region_lit ?_
 refine bsl (vals := ([.int .i64 (-1 : Int)] : List Value)) (T := 3) ha rfl (([.int .i64 (-1 : Int)] : List Value) ++ ([] : List Value)) (fun w => by kernel_rfl) rfl rfl rfl fun a w3 g4 hN5 ha => ?_
 have p_i6_M : ∀ x ∈ [g4], x ∉ M := fun x hx hy => absurd (hM x (hy)) (Nat.not_lt.2 ((hN5.ge1) x hx))
 have e_i6 : ∀ x ∈ [g4], w.heap.size ≤ x := fun x hx => Nat.le_trans hC.size ((hN5.ge1) x hx)
 have hM : MS ([g4] ++ (M)) w3 := (MS.app hN5.ms (hM.chg hN5.chg))
 have hC := hC.trans hN5.chg (Ok.nil _ _)
 have f7 : Own (rInt .i64) 3 w3 ([g4] ++ (M)) (some ⟨g4, 0, none⟩) 1 ([(-1 : Int)] : List Int) := hN5.own ⟨([.int .i64 (-1 : Int)] : List Value), _, rfl, rfl, rfl⟩ (Nat.le_of_ble_eq_true rfl)
 refine seg ha 1 [(0, .string (bstr a0)), (1, .int .i32 a1), (2, .int .i64 a2), (3, .int .i64 a3), (10, .slice (some ⟨g4, 0, none⟩) ([(-1 : Int)] : List Int).length 1)] (by kernel_rfl) fun a ha => ?_
 refine hK2 _ _ ?_; try clear hK2 K2
 refine wp_seq_k fun K8 hK8 => ?_
 refine wp_seq_k fun K9 hK9 => ?_
 refine wp_region_lit ?_
 refine seg ha 1 [(1, .int .i32 a1), (2, .int .i64 a2), (3, .int .i64 a3), (10, .slice (some ⟨g4, 0, none⟩) ([(-1 : Int)] : List Int).length 1), (18, .string (bstr a0))] (by kernel_rfl) fun a ha => ?_
 refine rng (s := a0) ha (by kernel_rfl) rfl rfl rfl rfl fun a w10 g11 hN12 ha => ?_
 have o1 : Ok [] ([g4] ++ (M)) w3.heap.size := Ok.nil _ _
 have o2 : Ok ([g11] ++ ([g4] ++ (M))) ([g4] ++ (M)) w3.heap.size := (Ok.app (hN12.ok _) (Ok.refl _ _))
 have f7 := f7.chg hN12.chg o1 o2 (fun _ _ h => nomatch h) (fun _ h => mr (ml h))
 have p_i13_i6 : ∀ x ∈ [g11], x ∉ ([g4]) := fun x hx hy => absurd (hM x (ml hy)) (Nat.not_lt.2 ((hN12.ge1) x hx))
 have p_i13_M : ∀ x ∈ [g11], x ∉ M := fun x hx hy => absurd (hM x (mr (hy))) (Nat.not_lt.2 ((hN12.ge1) x hx))
 have e_i13 : ∀ x ∈ [g11], w.heap.size ≤ x := fun x hx => Nat.le_trans hC.size ((hN12.ge1) x hx)
 have hM : MS ([g11] ++ ([g4] ++ (M))) w10 := (MS.app hN12.ms (hM.chg hN12.chg))
 have hC := hC.trans hN12.chg (Ok.nil _ _)
 have hBg11 : Iter w10 g11 a0 0 := hN12.at_
 refine hK9 _ _ ?_; try clear hK9 K9
 refine wp_block ?_
 obtain ⟨s14, H14, H⟩ := bind_some H
 have J14 : ∀ s14' (a : Act) (wx14 : World) (ao18 : Option Addr) (cap18 : Nat), s14 = .inr s14' → Has a Tryd.f49.ntmps [(10, .slice ao18 s14'.1.length cap18)] → (Own (rInt .i64) 3 wx14 (blkL ao18 ++ ([g11] ++ (M))) ao18 cap18 s14'.1) → (Iter wx14 g11 a0 s14'.2) → (∀ x ∈ blkL ao18, w.heap.size ≤ x) → (∀ x ∈ blkL ao18, x ∉ [g11]) → (∀ x ∈ blkL ao18, x ∉ M) → (Chg [] w wx14) → (MS (blkL ao18 ++ ([g11] ++ (M))) wx14) → K8 a wx14 := by
  intro s14' a wx14 ao18 cap18 hs ha f18 hBg11 e_i18 p_i18_i13 p_i18_M hC hM
  subst hs
  refine hK8 _ _ ?_; try clear hK8 K8
  refine wp_seq_k fun K19 hK19 => ?_
  refine wp_region_lit ?_
  refine seg ha 3 [(8, .slice ao18 s14'.1.length cap18), (9, .bool true)] (by kernel_rfl) fun a ha => ?_
  refine hK19 _ _ ?_; try clear hK19 K19
  refine wp_ret ?_
  try simp only [Exit.then, Exit.inBlock]
  have o1 : Ok [] (blkL ao18 ++ ([g11] ++ (M))) wx14.heap.size := Ok.nil _ _
  have o2 : Ok (blkL ao18 ++ (M)) (blkL ao18 ++ ([g11] ++ (M))) wx14.heap.size := (Ok.app (fun _ h => .inl (ml h)) (fun _ h => .inl (mr (mr (h)))))
  have f18 := f18.chg (Chg.refl [] _) o1 o2 (fun _ _ h => nomatch h) (fun _ h => ml h)
  have hBg11 := hBg11.chg (Chg.refl [] _) (fun h => nomatch h)
  have hM : MS (blkL ao18 ++ (M)) wx14 := (MS.app (fun x h => hM.chg (Chg.refl [] _) x (ml h)) (fun x h => hM.chg (Chg.refl [] _) x (mr (mr (h)))))
  have hC := hC.trans (Chg.refl [] _) (Ok.nil _ _)
  obtain rfl := Option.some.inj H
  refine rt2 ha rfl rfl rfl ?_
  exact ⟨ao18, cap18, rfl, f18, e_i18, hC, hM⟩
 have Hc14 := H
 have H := H14
 refine wp_loop_ghost (fun kk a w14 => ∃ (x16 : List Int) (x17 : Nat) (ao15 : Option Addr) (cap15 : Nat), addr_parts.l0 a0 a1 a2 a3 kk x16 x17 = some s14 ∧ Has a Tryd.f49.ntmps [(1, .int .i32 a1), (2, .int .i64 a2), (3, .int .i64 a3), (10, .slice ao15 x16.length cap15), (19, .pointer (some ⟨g11, 0, none⟩))] ∧ (Own (rInt .i64) 3 w14 (blkL ao15 ++ ([g11] ++ (M))) ao15 cap15 x16) ∧ (Iter w14 g11 a0 x17) ∧ (∀ x ∈ blkL ao15, w.heap.size ≤ x) ∧ (∀ x ∈ blkL ao15, x ∉ [g11]) ∧ (∀ x ∈ blkL ao15, x ∉ M) ∧ (Chg [] w w14) ∧ (MS (blkL ao15 ++ ([g11] ++ (M))) w14)) k ?_ ?_
 ·skip
  have o1 : Ok [] ([g11] ++ ([g4] ++ (M))) w10.heap.size := Ok.nil _ _
  have o2 : Ok ([g4] ++ ([g11] ++ (M))) ([g11] ++ ([g4] ++ (M))) w10.heap.size := (Ok.app (fun _ h => .inl (mr (ml h))) (Ok.app (fun _ h => .inl (ml h)) (fun _ h => .inl (mr (mr (h))))))
  have f7 := f7.chg (Chg.refl [] _) o1 o2 (fun _ _ h => nomatch h) (fun _ h => ml h)
  have hBg11 := hBg11.chg (Chg.refl [] _) (fun h => nomatch h)
  have hM : MS ([g4] ++ ([g11] ++ (M))) w10 := (MS.app (fun x h => hM.chg (Chg.refl [] _) x (mr (ml h))) (MS.app (fun x h => hM.chg (Chg.refl [] _) x (ml h)) (fun x h => hM.chg (Chg.refl [] _) x (mr (mr (h))))))
  have hC := hC.trans (Chg.refl [] _) (Ok.nil _ _)
  exact ⟨([(-1 : Int)] : List Int), (0 : Nat), (some ⟨g4, 0, none⟩), 1, H, (ha.sel (by kernel_rfl)), f7, hBg11, e_i6, (fun x hx hy => p_i13_i6 x hy hx), p_i6_M, hC, hM⟩
 ·rintro kk a w14 ⟨x16, x17, ao15, cap15, H, ha, f15, hBg11, e_i15, p_i15_i13, p_i15_M, hC, hM⟩
  obtain _ | kk := kk
  ·exact nomatch (show none = some _ from H)
  rw [addr_parts.l0] at H
  refine wp_seq_k fun K20 hK20 => ?_
  refine wp_region_lit ?_
  by_cases hp21 : x17 < a0.length
  ·have H := (if_pos hp21).symm.trans H
   refine nxt_more ha rfl rfl rfl rfl hBg11 hp21 fun a w21 hI21 hc21 ha => ?_
   have o1 : Ok [g11] (blkL ao15 ++ ([g11] ++ (M))) w14.heap.size := (fun _ h => .inl (mr (ml h)))
   have o2 : Ok (blkL ao15 ++ ([g11] ++ (M))) (blkL ao15 ++ ([g11] ++ (M))) w14.heap.size := (Ok.refl _ _)
   have f15 := f15.chg hc21 o1 o2 p_i15_i13 (fun _ h => ml h)
   have hM : MS (blkL ao15 ++ ([g11] ++ (M))) w21 := (hM.chg hc21)
   have hC := hC.trans hc21 (fun x h => .inr (e_i13 x h))
   have hBg11 := hI21
   refine seg ha 1 [(1, .int .i32 a1), (2, .int .i64 a2), (3, .int .i64 a3), (10, .slice ao15 x16.length cap15), (19, .pointer (some ⟨g11, 0, none⟩)), (20, .tuple #[.bool true, .int .i64 (x17 : Int), .int .i32 ((dec a0 x17).1 : Int)]), (21, .bool true)] (by kernel_rfl) fun a ha => ?_
   refine hK20 _ _ ?_; try clear hK20 K20
   refine wp_seq_k fun K22 hK22 => ?_
   refine cnd ha rfl (fun _ => ?_) (fun h => nomatch h)
   refine wp_skip ?_
   refine hK22 _ _ ?_; try clear hK22 K22
   refine wp_block ?_
   refine wp_seq_k fun K24 hK24 => ?_
   refine wp_region_lit ?_
   refine seg ha 2 [(1, .int .i32 a1), (2, .int .i64 a2), (3, .int .i64 a3), (10, .slice ao15 x16.length cap15), (12, .int .i32 ((dec a0 x17).1 : Int)), (19, .pointer (some ⟨g11, 0, none⟩))] (by kernel_rfl) fun a ha => ?_
   refine hK24 _ _ ?_; try clear hK24 K24
   refine wp_seq_k fun K25 hK25 => ?_
   refine wp_seq_k fun K26 hK26 => ?_
   refine wp_region_lit ?_
   refine seg ha 3 [(1, .int .i32 a1), (2, .int .i64 a2), (3, .int .i64 a3), (10, .slice ao15 x16.length cap15), (12, .int .i32 ((dec a0 x17).1 : Int)), (19, .pointer (some ⟨g11, 0, none⟩)), (25, .bool (((dec a0 x17).1 : Int) == a1))] (by kernel_rfl) fun a ha => ?_
   refine hK26 _ _ ?_; try clear hK26 K26
   refine cnd ha rfl (fun hc27 => ?_) (fun hc27 => ?_)
   ·have H := ite_t hc27 H
    refine wp_seq_k fun K28 hK28 => ?_
    refine wp_region_lit ?_
    refine seg ha 1 [(1, .int .i32 a1), (2, .int .i64 a2), (3, .int .i64 a3), (19, .pointer (some ⟨g11, 0, none⟩)), (26, .slice ao15 x16.length cap15)] (by kernel_rfl) fun a ha => ?_
    refine bsl (vals := ([.int .i64 (-1 : Int)] : List Value)) (T := 3) ha rfl (([.int .i64 (-1 : Int)] : List Value) ++ ([] : List Value)) (fun w => by kernel_rfl) rfl rfl rfl fun a w29 g30 hN31 ha => ?_
    have o1 : Ok [] (blkL ao15 ++ ([g11] ++ (M))) w21.heap.size := Ok.nil _ _
    have o2 : Ok ([g30] ++ (blkL ao15 ++ ([g11] ++ (M)))) (blkL ao15 ++ ([g11] ++ (M))) w21.heap.size := (Ok.app (hN31.ok _) (Ok.refl _ _))
    have f15 := f15.chg hN31.chg o1 o2 (fun _ _ h => nomatch h) (fun _ h => mr (ml h))
    have hBg11 := hBg11.chg hN31.chg (fun h => nomatch h)
    have p_i32_i15 : ∀ x ∈ [g30], x ∉ (blkL ao15) := fun x hx hy => absurd (hM x (ml hy)) (Nat.not_lt.2 ((hN31.ge1) x hx))
    have p_i32_i13 : ∀ x ∈ [g30], x ∉ ([g11]) := fun x hx hy => absurd (hM x (mr (ml hy))) (Nat.not_lt.2 ((hN31.ge1) x hx))
    have p_i32_M : ∀ x ∈ [g30], x ∉ M := fun x hx hy => absurd (hM x (mr (mr (hy)))) (Nat.not_lt.2 ((hN31.ge1) x hx))
    have e_i32 : ∀ x ∈ [g30], w.heap.size ≤ x := fun x hx => Nat.le_trans hC.size ((hN31.ge1) x hx)
    have hM : MS ([g30] ++ (blkL ao15 ++ ([g11] ++ (M)))) w29 := (MS.app hN31.ms (hM.chg hN31.chg))
    have hC := hC.trans hN31.chg (Ok.nil _ _)
    have f33 : Own (rInt .i64) 3 w29 ([g30] ++ (blkL ao15 ++ ([g11] ++ (M)))) (some ⟨g30, 0, none⟩) 1 ([(-1 : Int)] : List Int) := hN31.own ⟨([.int .i64 (-1 : Int)] : List Value), _, rfl, rfl, rfl⟩ (Nat.le_of_ble_eq_true rfl)
    obtain ⟨hx34, H⟩ := ite_some H
    refine app (r := (rInt .i64)) (xs := x16) (ys := ([(-1 : Int)] : List Int)) ha (ElemT.mk' (bytes := 8) (by kernel_rfl)) rfl rfl rfl rfl rfl f15 f33.src hx34 (by decide) fun a w35 ao36 cap36 hO36 hc36 hk36 hl36 ha => ?_
    have o1 : Ok (blkL ao15) ([g30] ++ (blkL ao15 ++ ([g11] ++ (M)))) w29.heap.size := (fun _ h => .inl (mr (ml h)))
    have o2 : Ok (blkL ao36 ++ ([g30] ++ ([g11] ++ (M)))) ([g30] ++ (blkL ao15 ++ ([g11] ++ (M)))) w29.heap.size := (Ok.app (Ok.to hk36 (fun _ h => mr (ml h))) (Ok.app (fun _ h => .inl (ml h)) (fun _ h => .inl (mr (mr (h))))))
    have f33 := f33.chg hc36 o1 o2 p_i32_i15 (fun _ h => mr (ml h))
    have hBg11 := hBg11.chg hc36 ((fun x (hx : x ∈ [g11]) (hy : x ∈ blkL ao15) => p_i15_i13 x hy hx) g11 (by simp))
    have p_i36_i32 : ∀ x ∈ blkL ao36, x ∉ ([g30]) := fun x hx hy => (hk36 x hx).elim (fun h => (fun x hx hy => p_i32_i15 x hy hx) x h hy) (fun h => absurd (hM x (ml hy)) (Nat.not_lt.2 h))
    have p_i36_i13 : ∀ x ∈ blkL ao36, x ∉ ([g11]) := fun x hx hy => (hk36 x hx).elim (fun h => p_i15_i13 x h hy) (fun h => absurd (hM x (mr (mr (ml hy)))) (Nat.not_lt.2 h))
    have p_i36_M : ∀ x ∈ blkL ao36, x ∉ M := fun x hx hy => (hk36 x hx).elim (fun h => p_i15_M x h hy) (fun h => absurd (hM x (mr (mr (mr (hy))))) (Nat.not_lt.2 h))
    have e_i36 : ∀ x ∈ blkL ao36, w.heap.size ≤ x := fun x hx => (hk36 x hx).elim (e_i15 x) (Nat.le_trans hC.size)
    have hM : MS (blkL ao36 ++ ([g30] ++ ([g11] ++ (M)))) w35 := (MS.app hl36 (MS.app (fun x h => hM.chg hc36 x (ml h)) (fun x h => hM.chg hc36 x (mr (mr (h))))))
    have hC := hC.trans hc36 (fun x h => .inr (e_i15 x h))
    have f36 := hO36.chg (M' := blkL ao36 ++ ([g30] ++ ([g11] ++ (M)))) (Chg.refl [] _) (Ok.nil _ _) (Ok.app (fun _ h => .inl (ml h)) (Ok.to (Ok.app (fun _ h => .inl (ml h)) (fun _ h => .inl (mr (mr (h))))) (fun _ h => mr h))) (fun _ _ h => nomatch h) (fun _ h => ml h)
    refine seg ha 1 [(1, .int .i32 a1), (2, .int .i64 a2), (3, .int .i64 a3), (10, .slice ao36 (x16 ++ ([(-1 : Int)] : List Int)).length cap36), (19, .pointer (some ⟨g11, 0, none⟩))] (by kernel_rfl) fun a ha => ?_
    refine hK28 _ _ ?_; try clear hK28 K28
    refine wp_exit ?_
    simp only [Exit.then, Exit.inBlock, ↓reduceIte, Nat.reduceEqDiff]
    have o1 : Ok [] (blkL ao36 ++ ([g30] ++ ([g11] ++ (M)))) w35.heap.size := Ok.nil _ _
    have o2 : Ok (blkL ao36 ++ ([g11] ++ (M))) (blkL ao36 ++ ([g30] ++ ([g11] ++ (M)))) w35.heap.size := (Ok.app (fun _ h => .inl (ml h)) (fun _ h => .inl (mr (mr (h)))))
    have f36 := f36.chg (Chg.refl [] _) o1 o2 (fun _ _ h => nomatch h) (fun _ h => ml h)
    have hBg11 := hBg11.chg (Chg.refl [] _) (fun h => nomatch h)
    have hM : MS (blkL ao36 ++ ([g11] ++ (M))) w35 := (MS.app (fun x h => hM.chg (Chg.refl [] _) x (ml h)) (fun x h => hM.chg (Chg.refl [] _) x (mr (mr (h)))))
    have hC := hC.trans (Chg.refl [] _) (Ok.nil _ _)
    exact ⟨kk, Nat.lt_succ_self _, ⟨(x16 ++ ([(-1 : Int)] : List Int)), x17 + (dec a0 x17).2, ao36, cap36, H, (ha.sel (by kernel_rfl)), f36, hBg11, e_i36, p_i36_i13, p_i36_M, hC, hM⟩⟩
   ·have H := ite_f hc27 H
    refine wp_skip ?_
    refine hK25 _ _ ?_; try clear hK25 K25
    refine wp_seq_k fun K37 hK37 => ?_
    refine wp_region_lit ?_
    refine seg ha 2 [(1, .int .i32 a1), (2, .int .i64 a2), (3, .int .i64 a3), (10, .slice ao15 x16.length cap15), (19, .pointer (some ⟨g11, 0, none⟩)), (30, .int .i32 ((dec a0 x17).1 : Int)), (31, .int .i64 a2)] (by kernel_rfl) fun a ha => ?_
    obtain ⟨t38, H38, H⟩ := bind_some H
    refine cl ha (by rfl) (by kernel_rfl) (by rfl) (by rfl) (by rfl) (addr_value.walk w21 _ hM ((dec a0 x17).1 : Int) a2 _ H38) ?_
    rintro _ w38 ⟨rfl, hc38, hMn⟩ a ha
    have o1 : Ok [] (blkL ao15 ++ ([g11] ++ (M))) w21.heap.size := Ok.nil _ _
    have o2 : Ok (blkL ao15 ++ ([g11] ++ (M))) (blkL ao15 ++ ([g11] ++ (M))) w21.heap.size := (Ok.refl _ _)
    have f15 := f15.chg hc38 o1 o2 (fun _ _ h => nomatch h) (fun _ h => ml h)
    have hBg11 := hBg11.chg hc38 (fun h => nomatch h)
    have hM : MS (blkL ao15 ++ ([g11] ++ (M))) w38 := (hM.chg hc38)
    have hC := hC.trans hc38 (Ok.nil _ _)
    refine seg ha 5 [(1, .int .i32 a1), (2, .int .i64 a2), (3, .int .i64 a3), (10, .slice ao15 x16.length cap15), (13, .int .i64 t38.1), (14, .bool t38.2), (19, .pointer (some ⟨g11, 0, none⟩))] (by kernel_rfl) fun a ha => ?_
    refine hK37 _ _ ?_; try clear hK37 K37
    refine wp_seq_k fun K39 hK39 => ?_
    refine wp_region_lit ?_
    refine seg ha 4 [(1, .int .i32 a1), (2, .int .i64 a2), (3, .int .i64 a3), (10, .slice ao15 x16.length cap15), (13, .int .i64 t38.1), (14, .bool t38.2), (15, .int .i64 (IntKind.i64.wrap ((x16.length : Int) - (1 : Int)))), (19, .pointer (some ⟨g11, 0, none⟩))] (by kernel_rfl) fun a ha => ?_
    refine hK39 _ _ ?_; try clear hK39 K39
    refine wp_seq_k fun K40 hK40 => ?_
    refine wp_region_lit ?_
    refine seg ha 2 [(1, .int .i32 a1), (2, .int .i64 a2), (3, .int .i64 a3), (10, .slice ao15 x16.length cap15), (13, .int .i64 t38.1), (14, .bool t38.2), (15, .int .i64 (IntKind.i64.wrap ((x16.length : Int) - (1 : Int)))), (19, .pointer (some ⟨g11, 0, none⟩)), (38, .slice ao15 x16.length cap15), (39, .int .i64 (IntKind.i64.wrap ((x16.length : Int) - (1 : Int))))] (by kernel_rfl) fun a ha => ?_
    obtain ⟨⟨hx41, hx41'⟩, H⟩ := ite_some H
    refine ix (r := (rInt .i64)) ha (by kernel_rfl) (by kernel_rfl) rfl rfl rfl rfl rfl (Own.toRSl (M' := []) f15 (Ok.nil _ _) (fun _ _ h => nomatch h)) hx41 hx41' fun a ge42 oe43 cs44 hn47 hR45 hE46 ha => ?_
    rw [rd_get] at hR45
    obtain rfl := hR45
    have hE46 : ∀ j v, ([.int .i64 (rd x16 (IntKind.i64.wrap ((x16.length : Int) - (1 : Int))))] : List Value)[j]? = some v → w38.cell? ⟨ge42, oe43 + j, none⟩ = some v := hE46
    refine ld ha rfl (by kernel_rfl) rfl rfl rfl (hE46 0 (.int .i64 (rd x16 (IntKind.i64.wrap ((x16.length : Int) - (1 : Int))))) (by kernel_rfl)) fun a ha => ?_
    refine opk (v := .int .i64 (if (0 : Int) > (rd x16 (IntKind.i64.wrap ((x16.length : Int) - (1 : Int)))) then (0 : Int) else (rd x16 (IntKind.i64.wrap ((x16.length : Int) - (1 : Int)))))) ha rfl rfl rfl rfl rfl (fun w => by kernel_rfl) fun a ha => ?_
    refine seg ha 5 [(1, .int .i32 a1), (2, .int .i64 a2), (3, .int .i64 a3), (10, .slice ao15 x16.length cap15), (14, .bool t38.2), (15, .int .i64 (IntKind.i64.wrap ((x16.length : Int) - (1 : Int)))), (16, .int .i64 (IntKind.i64.wrap ((IntKind.i64.wrap ((if (0 : Int) > (rd x16 (IntKind.i64.wrap ((x16.length : Int) - (1 : Int)))) then (0 : Int) else (rd x16 (IntKind.i64.wrap ((x16.length : Int) - (1 : Int))))) * a2)) + t38.1))), (19, .pointer (some ⟨g11, 0, none⟩))] (by kernel_rfl) fun a ha => ?_
    refine hK40 _ _ ?_; try clear hK40 K40
    refine wp_seq_k fun K48 hK48 => ?_
    refine wp_seq_k fun K49 hK49 => ?_
    refine wp_region_lit ?_
    obtain ⟨s50, H50, H⟩ := bind_some H
    have J50 : ∀ (a : Act) (w50 : World), Has a Tryd.f49.ntmps [(1, .int .i32 a1), (2, .int .i64 a2), (3, .int .i64 a3), (10, .slice ao15 x16.length cap15), (15, .int .i64 (IntKind.i64.wrap ((x16.length : Int) - (1 : Int)))), (16, .int .i64 (IntKind.i64.wrap ((IntKind.i64.wrap ((if (0 : Int) > (rd x16 (IntKind.i64.wrap ((x16.length : Int) - (1 : Int)))) then (0 : Int) else (rd x16 (IntKind.i64.wrap ((x16.length : Int) - (1 : Int))))) * a2)) + t38.1))), (19, .pointer (some ⟨g11, 0, none⟩)), (60, .bool s50)] → (Own (rInt .i64) 3 w50 (blkL ao15 ++ ([g11] ++ (M))) ao15 cap15 x16) → (Iter w50 g11 a0 (x17 + (dec a0 x17).2)) → (Chg [] w w50) → (MS (blkL ao15 ++ ([g11] ++ (M))) w50) → K49 a w50 := by
     intro a w50 ha f15 hBg11 hC hM
     refine hK49 _ _ ?_; try clear hK49 K49
     refine cnd ha rfl (fun hc51 => ?_) (fun hc51 => ?_)
     ·have H := ite_t hc51 H
      refine wp_seq_k fun K52 hK52 => ?_
      refine wp_region_lit ?_
      refine seg ha 2 [(8, .slice none 0 0), (9, .bool false)] (by kernel_rfl) fun a ha => ?_
      refine hK52 _ _ ?_; try clear hK52 K52
      refine wp_ret ?_
      try simp only [Exit.then, Exit.inBlock]
      have hBg11 := hBg11.chg (Chg.refl [] _) (fun h => nomatch h)
      have p_z53_M : ∀ x ∈ blkL none, x ∉ M := fun x hx hy => absurd (hM x (mr (mr (hy)))) (Nat.not_lt.2 ((fun _ h => nomatch h) x hx))
      have e_z53 : ∀ x ∈ blkL none, w.heap.size ≤ x := fun x hx => Nat.le_trans hC.size ((fun _ h => nomatch h) x hx)
      have hM : MS (blkL none ++ (M)) w50 := (MS.app (fun _ h => nomatch h) (fun x h => hM.chg (Chg.refl [] _) x (mr (mr (h)))))
      have hC := hC.trans (Chg.refl [] _) (Ok.nil _ _)
      obtain rfl := Option.some.inj H
      have H := (show some _ = some _ from Hc14)
      obtain rfl := Option.some.inj H
      refine rt2 ha rfl rfl rfl ?_
      exact ⟨none, 0, rfl, Own.nil, e_z53, hC, hM⟩
     ·have H := ite_f hc51 H
      refine wp_skip ?_
      refine hK48 _ _ ?_; try clear hK48 K48
      refine wp_region_lit ?_
      refine seg ha 3 [(1, .int .i32 a1), (2, .int .i64 a2), (3, .int .i64 a3), (10, .slice ao15 x16.length cap15), (19, .pointer (some ⟨g11, 0, none⟩)), (61, .slice ao15 x16.length cap15), (62, .int .i64 (IntKind.i64.wrap ((x16.length : Int) - (1 : Int)))), (63, .int .i64 (IntKind.i64.wrap ((IntKind.i64.wrap ((if (0 : Int) > (rd x16 (IntKind.i64.wrap ((x16.length : Int) - (1 : Int)))) then (0 : Int) else (rd x16 (IntKind.i64.wrap ((x16.length : Int) - (1 : Int))))) * a2)) + t38.1)))] (by kernel_rfl) fun a ha => ?_
      obtain ⟨⟨hx54, hx54'⟩, H⟩ := ite_some H
      have hi54 : (Int.toNat (IntKind.i64.wrap ((x16.length : Int) - (1 : Int)))) < x16.length := by omega
      obtain ⟨ge54, ee54⟩ := Own.addr f15 hi54
      refine hop (v := .pointer (some ⟨ge54, (Int.toNat (IntKind.i64.wrap ((x16.length : Int) - (1 : Int)))), none⟩)) (w' := w50) ha rfl rfl rfl (ixO_run (r := (rInt .i64)) (T := 3) (k := .i64) (i := IntKind.i64.wrap ((x16.length : Int) - (1 : Int))) rfl ha (by kernel_rfl) (by kernel_rfl) (by rfl) (by rfl) ee54 hx54 hx54' _) fun a ha => ?_
      refine stO (r := (rInt .i64)) (z := IntKind.i64.wrap ((IntKind.i64.wrap ((if (0 : Int) > (rd x16 (IntKind.i64.wrap ((x16.length : Int) - (1 : Int)))) then (0 : Int) else (rd x16 (IntKind.i64.wrap ((x16.length : Int) - (1 : Int))))) * a2)) + t38.1)) ha rfl rfl (by kernel_rfl) rfl rfl f15 rfl ee54 hi54 (fun _ _ => rfl) fun a w55 ha hO57 hc56 => ?_
      have o1 : Ok (blkL ao15) (blkL ao15 ++ ([g11] ++ (M))) w50.heap.size := (fun _ h => .inl (ml h))
      have o2 : Ok (blkL ao15 ++ ([g11] ++ (M))) (blkL ao15 ++ ([g11] ++ (M))) w50.heap.size := (Ok.refl _ _)
      have hBg11 := hBg11.chg hc56 ((fun x (hx : x ∈ [g11]) (hy : x ∈ blkL ao15) => p_i15_i13 x hy hx) g11 (by simp))
      have hM : MS (blkL ao15 ++ ([g11] ++ (M))) w55 := (hM.chg hc56)
      have hC := hC.trans hc56 (fun x h => .inr (e_i15 x h))
      have f57 := hO57
      have hl57 : (x16.set (Int.toNat (IntKind.i64.wrap ((x16.length : Int) - (1 : Int)))) (IntKind.i64.wrap ((IntKind.i64.wrap ((if (0 : Int) > (rd x16 (IntKind.i64.wrap ((x16.length : Int) - (1 : Int)))) then (0 : Int) else (rd x16 (IntKind.i64.wrap ((x16.length : Int) - (1 : Int))))) * a2)) + t38.1))).length = x16.length := List.length_set
      have ha : Has a Tryd.f49.ntmps [(1, .int .i32 a1), (2, .int .i64 a2), (3, .int .i64 a3), (10, .slice ao15 (x16.set (Int.toNat (IntKind.i64.wrap ((x16.length : Int) - (1 : Int)))) (IntKind.i64.wrap ((IntKind.i64.wrap ((if (0 : Int) > (rd x16 (IntKind.i64.wrap ((x16.length : Int) - (1 : Int)))) then (0 : Int) else (rd x16 (IntKind.i64.wrap ((x16.length : Int) - (1 : Int))))) * a2)) + t38.1))).length cap15), (19, .pointer (some ⟨g11, 0, none⟩)), (63, .int .i64 (IntKind.i64.wrap ((IntKind.i64.wrap ((if (0 : Int) > (rd x16 (IntKind.i64.wrap ((x16.length : Int) - (1 : Int)))) then (0 : Int) else (rd x16 (IntKind.i64.wrap ((x16.length : Int) - (1 : Int))))) * a2)) + t38.1)))] := by rw [hl57]; exact ha.sel (by kernel_rfl)
      exact ⟨kk, Nat.lt_succ_self _, ⟨(x16.set (Int.toNat (IntKind.i64.wrap ((x16.length : Int) - (1 : Int)))) (IntKind.i64.wrap ((IntKind.i64.wrap ((if (0 : Int) > (rd x16 (IntKind.i64.wrap ((x16.length : Int) - (1 : Int)))) then (0 : Int) else (rd x16 (IntKind.i64.wrap ((x16.length : Int) - (1 : Int))))) * a2)) + t38.1))), x17 + (dec a0 x17).2, ao15, cap15, H, (ha.sel (by kernel_rfl)), f57, hBg11, e_i15, p_i15_i13, p_i15_M, hC, hM⟩⟩
    have H := H50
    refine seg ha 3 [(49, .bool (!t38.2)), (1, .int .i32 a1), (2, .int .i64 a2), (3, .int .i64 a3), (10, .slice ao15 x16.length cap15), (15, .int .i64 (IntKind.i64.wrap ((x16.length : Int) - (1 : Int)))), (16, .int .i64 (IntKind.i64.wrap ((IntKind.i64.wrap ((if (0 : Int) > (rd x16 (IntKind.i64.wrap ((x16.length : Int) - (1 : Int)))) then (0 : Int) else (rd x16 (IntKind.i64.wrap ((x16.length : Int) - (1 : Int))))) * a2)) + t38.1))), (19, .pointer (some ⟨g11, 0, none⟩))] (by kernel_rfl) fun a ha => ?_
    rcases Bool.eq_false_or_eq_true (!t38.2) with hb58 | hb58
    ·have ha := ha.lit hb58
     have H := ite_t hb58 H
     refine sgh ha 11 [1, 1, 1, 3, 0, 1, 1, 1, 1, 1, 3] [(1, .int .i32 a1), (2, .int .i64 a2), (3, .int .i64 a3), (10, .slice ao15 x16.length cap15), (15, .int .i64 (IntKind.i64.wrap ((x16.length : Int) - (1 : Int)))), (16, .int .i64 (IntKind.i64.wrap ((IntKind.i64.wrap ((if (0 : Int) > (rd x16 (IntKind.i64.wrap ((x16.length : Int) - (1 : Int)))) then (0 : Int) else (rd x16 (IntKind.i64.wrap ((x16.length : Int) - (1 : Int))))) * a2)) + t38.1))), (19, .pointer (some ⟨g11, 0, none⟩)), (60, .bool true)] (by kernel_rfl) fun a ha => ?_
     obtain rfl := Option.some.inj H
     exact J50 _ _ (ha.sel (by kernel_rfl)) f15 hBg11 hC hM
    ·have ha := ha.lit hb58
     have H := ite_f hb58 H
     refine sgh ha 5 [2, 2, 2, 4, 0] [(54, .bool (decide ((IntKind.i64.wrap ((IntKind.i64.wrap ((if (0 : Int) > (rd x16 (IntKind.i64.wrap ((x16.length : Int) - (1 : Int)))) then (0 : Int) else (rd x16 (IntKind.i64.wrap ((x16.length : Int) - (1 : Int))))) * a2)) + t38.1)) ≥ a3))), (1, .int .i32 a1), (2, .int .i64 a2), (3, .int .i64 a3), (10, .slice ao15 x16.length cap15), (15, .int .i64 (IntKind.i64.wrap ((x16.length : Int) - (1 : Int)))), (16, .int .i64 (IntKind.i64.wrap ((IntKind.i64.wrap ((if (0 : Int) > (rd x16 (IntKind.i64.wrap ((x16.length : Int) - (1 : Int)))) then (0 : Int) else (rd x16 (IntKind.i64.wrap ((x16.length : Int) - (1 : Int))))) * a2)) + t38.1))), (19, .pointer (some ⟨g11, 0, none⟩))] (by kernel_rfl) fun a ha => ?_
     rcases Bool.eq_false_or_eq_true (decide ((IntKind.i64.wrap ((IntKind.i64.wrap ((if (0 : Int) > (rd x16 (IntKind.i64.wrap ((x16.length : Int) - (1 : Int)))) then (0 : Int) else (rd x16 (IntKind.i64.wrap ((x16.length : Int) - (1 : Int))))) * a2)) + t38.1)) ≥ a3)) with hb59 | hb59
     ·have ha := ha.lit hb59
      have H := ite_t hb59 H
      refine sgh ha 6 [1, 1, 1, 1, 1, 3] [(1, .int .i32 a1), (2, .int .i64 a2), (3, .int .i64 a3), (10, .slice ao15 x16.length cap15), (15, .int .i64 (IntKind.i64.wrap ((x16.length : Int) - (1 : Int)))), (16, .int .i64 (IntKind.i64.wrap ((IntKind.i64.wrap ((if (0 : Int) > (rd x16 (IntKind.i64.wrap ((x16.length : Int) - (1 : Int)))) then (0 : Int) else (rd x16 (IntKind.i64.wrap ((x16.length : Int) - (1 : Int))))) * a2)) + t38.1))), (19, .pointer (some ⟨g11, 0, none⟩)), (60, .bool true)] (by kernel_rfl) fun a ha => ?_
      obtain rfl := Option.some.inj H
      exact J50 _ _ (ha.sel (by kernel_rfl)) f15 hBg11 hC hM
     ·have ha := ha.lit hb59
      have H := ite_f hb59 H
      refine sgh ha 2 [2, 2] [(1, .int .i32 a1), (2, .int .i64 a2), (3, .int .i64 a3), (10, .slice ao15 x16.length cap15), (15, .int .i64 (IntKind.i64.wrap ((x16.length : Int) - (1 : Int)))), (16, .int .i64 (IntKind.i64.wrap ((IntKind.i64.wrap ((if (0 : Int) > (rd x16 (IntKind.i64.wrap ((x16.length : Int) - (1 : Int)))) then (0 : Int) else (rd x16 (IntKind.i64.wrap ((x16.length : Int) - (1 : Int))))) * a2)) + t38.1))), (19, .pointer (some ⟨g11, 0, none⟩)), (54, .bool false), (55, .slice ao15 x16.length cap15), (56, .int .i64 (IntKind.i64.wrap ((x16.length : Int) - (1 : Int))))] (by kernel_rfl) fun a ha => ?_
      obtain ⟨⟨hx60, hx60'⟩, H⟩ := ite_some H
      refine ix (r := (rInt .i64)) ha (by kernel_rfl) (by kernel_rfl) rfl rfl rfl rfl rfl (Own.toRSl (M' := []) f15 (Ok.nil _ _) (fun _ _ h => nomatch h)) hx60 hx60' fun a ge61 oe62 cs63 hn66 hR64 hE65 ha => ?_
      rw [rd_get] at hR64
      obtain rfl := hR64
      have hE65 : ∀ j v, ([.int .i64 (rd x16 (IntKind.i64.wrap ((x16.length : Int) - (1 : Int))))] : List Value)[j]? = some v → w38.cell? ⟨ge61, oe62 + j, none⟩ = some v := hE65
      refine ld ha rfl (by kernel_rfl) rfl rfl rfl (hE65 0 (.int .i64 (rd x16 (IntKind.i64.wrap ((x16.length : Int) - (1 : Int))))) (by kernel_rfl)) fun a ha => ?_
      refine sgh ha 2 [2, 4] [(1, .int .i32 a1), (2, .int .i64 a2), (3, .int .i64 a3), (10, .slice ao15 x16.length cap15), (15, .int .i64 (IntKind.i64.wrap ((x16.length : Int) - (1 : Int)))), (16, .int .i64 (IntKind.i64.wrap ((IntKind.i64.wrap ((if (0 : Int) > (rd x16 (IntKind.i64.wrap ((x16.length : Int) - (1 : Int)))) then (0 : Int) else (rd x16 (IntKind.i64.wrap ((x16.length : Int) - (1 : Int))))) * a2)) + t38.1))), (19, .pointer (some ⟨g11, 0, none⟩)), (60, .bool ((rd x16 (IntKind.i64.wrap ((x16.length : Int) - (1 : Int)))) == (0 : Int)))] (by kernel_rfl) fun a ha => ?_
      obtain rfl := Option.some.inj H
      exact J50 _ _ (ha.sel (by kernel_rfl)) f15 hBg11 hC hM
  ·have H := (if_neg hp21).symm.trans H
   refine nxt_over ha rfl rfl rfl rfl hBg11 hp21 fun a ha => ?_
   refine seg ha 1 [(1, .int .i32 a1), (2, .int .i64 a2), (3, .int .i64 a3), (10, .slice ao15 x16.length cap15), (19, .pointer (some ⟨g11, 0, none⟩)), (20, .tuple #[.bool false]), (21, .bool false)] (by kernel_rfl) fun a ha => ?_
   refine hK20 _ _ ?_; try clear hK20 K20
   refine wp_seq_k fun K67 hK67 => ?_
   refine cnd ha rfl (fun h => nomatch h) (fun _ => ?_)
   refine wp_exit ?_
   simp only [Exit.then, Exit.inBlock, ↓reduceIte, Nat.reduceEqDiff]
   obtain rfl := Option.some.inj H
   exact J14 _ _ _ ao15 cap15 rfl (ha.sel (by kernel_rfl)) f15 hBg11 e_i15 p_i15_i13 p_i15_M hC hM
def addr_read4.l0 (t7 : List Int × Bool) : Nat → Int → (List Int) → Option ((S_api_Addr × Bool) ⊕ (List Int))
  | 0, _, _ => none
  | kk + 1, x21, x22 => (if (decide (x21 < (t7.1.length : Int))) = true then (if 0 ≤ x21 ∧ x21 < (t7.1.length : Int) then (if (decide ((rd t7.1 x21) < (0 : Int))) = true then some (.inl (((⟨(0 : Int), (List.replicate 16 (0 : Int))⟩ : S_api_Addr) : S_api_Addr), (false : Bool))) else (if 0 ≤ x21 ∧ x21 < (16 : Int) then addr_read4.l0 t7 kk (IntKind.i64.wrap (x21 + (1 : Int))) ((arL 16 x22).set (Int.toNat x21) (IntKind.u8.wrap (rd t7.1 x21))) else none)) else none) else some (.inr (x22 : List Int)))
def addr_read4.f (k : Nat) (a0 : List UInt8) : Option (S_api_Addr × Bool) := (addr_parts.f k a0 (46 : Int) (10 : Int) (256 : Int)).bind fun t7 => (if (if (!t7.2) = true then true else ((t7.1.length : Int) != (4 : Int))) = true then some (((⟨(0 : Int), (List.replicate 16 (0 : Int))⟩ : S_api_Addr) : S_api_Addr), (false : Bool)) else (addr_read4.l0 t7 k (0 : Int) (List.replicate 16 (0 : Int))).bind fun s20 => match s20 with | .inl r => some r | .inr s20' => some (((⟨(4 : Int), s20'⟩ : S_api_Addr) : S_api_Addr), (true : Bool)))
set_option maxRecDepth 100000 in
theorem addr_read4.walk (w : World) (M : List Nat) (hM : MS M w) (a0 : List UInt8) (k : Nat) (r : S_api_Addr × Bool) (H : addr_read4.f k a0 = some r) :
    To Tryd.prog 37 [.string (bstr a0)] w fun v w' => v = .tuple #[.agg (cS_api_Addr r.1).toArray, .bool r.2] ∧ Chg [] w w' ∧ MS (M) w' := by
 unfold addr_read4.f at H
 refine ent Tryd.func37 rfl [(0, .string (bstr a0))] rfl (by rfl) fun a ha => ?_
 have hC : Chg [] w w := Chg.refl _ _
 refine wp_seq_k fun K1 hK1 => ?_
 refine wp_region_lit ?_
 refine al (cs := (cS_api_Addr (⟨(0 : Int), (List.replicate 16 (0 : Int))⟩ : S_api_Addr))) (z := .agg (cS_api_Addr (⟨(0 : Int), (List.replicate 16 (0 : Int))⟩ : S_api_Addr)).toArray) ha (fun w => by kernel_rfl) rfl rfl rfl rfl fun a w2 g3 hN4 ha => ?_
 have p_i5_M : ∀ x ∈ [g3], x ∉ M := fun x hx hy => absurd (hM x (hy)) (Nat.not_lt.2 ((hN4.ge1) x hx))
 have e_i5 : ∀ x ∈ [g3], w.heap.size ≤ x := fun x hx => Nat.le_trans hC.size ((hN4.ge1) x hx)
 have hM : MS ([g3] ++ (M)) w2 := (MS.app hN4.ms (hM.chg hN4.chg))
 have hC := hC.trans hN4.chg (Ok.nil _ _)
 have hBg3 : Box w2 g3 (cS_api_Addr (⟨(0 : Int), (List.replicate 16 (0 : Int))⟩ : S_api_Addr)) := hN4.box
 refine seg ha 1 [(0, .string (bstr a0)), (2, .pointer (some ⟨g3, 0, none⟩))] (by kernel_rfl) fun a ha => ?_
 refine hK1 _ _ ?_; try clear hK1 K1
 refine wp_seq_k fun K6 hK6 => ?_
 refine wp_region_lit ?_
 refine seg ha 1 [(2, .pointer (some ⟨g3, 0, none⟩)), (8, .string (bstr a0))] (by kernel_rfl) fun a ha => ?_
 obtain ⟨t7, H7, H⟩ := bind_some H
 refine cl ha (by rfl) (by kernel_rfl) (by rfl) (by rfl) (by rfl) (addr_parts.walk w2 _ hM a0 (46 : Int) (10 : Int) (256 : Int) k _ H7) ?_
 rintro _ w7 ⟨ao8, cap8, rfl, f8, ne_i8, hc7, hMn⟩ a ha
 have hBg3 := hBg3.chg hc7 (fun h => nomatch h)
 have p_i8_i5 : ∀ x ∈ blkL ao8, x ∉ ([g3]) := fun x hx hy => absurd (hM x (ml hy)) (Nat.not_lt.2 (ne_i8 x hx))
 have p_i8_M : ∀ x ∈ blkL ao8, x ∉ M := fun x hx hy => absurd (hM x (mr (hy))) (Nat.not_lt.2 (ne_i8 x hx))
 have e_i8 : ∀ x ∈ blkL ao8, w.heap.size ≤ x := fun x hx => Nat.le_trans hC.size (ne_i8 x hx)
 have hM : MS (blkL ao8 ++ ([g3] ++ (M))) w7 := (MS.app (fun x h => hMn x (ml h)) (hM.chg hc7))
 have hC := hC.trans hc7 (Ok.nil _ _)
 refine seg ha 5 [(2, .pointer (some ⟨g3, 0, none⟩)), (3, .bool t7.2), (4, .slice ao8 t7.1.length cap8)] (by kernel_rfl) fun a ha => ?_
 refine hK6 _ _ ?_; try clear hK6 K6
 refine wp_seq_k fun K9 hK9 => ?_
 refine wp_seq_k fun K10 hK10 => ?_
 refine wp_region_lit ?_
 refine seg ha 7 [(2, .pointer (some ⟨g3, 0, none⟩)), (4, .slice ao8 t7.1.length cap8), (18, .bool (if (!t7.2) = true then true else ((t7.1.length : Int) != (4 : Int))))] (by kernel_rfl) fun a ha => ?_
 refine hK10 _ _ ?_; try clear hK10 K10
 refine cnd ha rfl (fun hc11 => ?_) (fun hc11 => ?_)
 ·have H := ite_t hc11 H
  refine wp_seq_k fun K12 hK12 => ?_
  refine wp_region_lit ?_
  refine ldA (cs := (cS_api_Addr (⟨(0 : Int), (List.replicate 16 (0 : Int))⟩ : S_api_Addr))) ha rfl (by kernel_rfl) rfl rfl rfl (cells_sub (Box.cells hBg3) (all := (cS_api_Addr (⟨(0 : Int), (List.replicate 16 (0 : Int))⟩ : S_api_Addr))) [] [] (by kernel_rfl)) fun a ha => ?_
  refine stA (l := (cS_api_Addr (⟨(0 : Int), (List.replicate 16 (0 : Int))⟩ : S_api_Addr))) ha rfl rfl rfl (by kernel_rfl) rfl rfl hBg3 rfl fun a w13 ha hb2 hc14 _ => ?_
  have hM : MS (blkL ao8 ++ ([g3] ++ (M))) w13 := (hM.chg hc14)
  have hC := hC.trans hc14 (fun x h => .inr (e_i5 x h))
  have hBg3 : Box w13 g3 (cS_api_Addr (⟨(0 : Int), (List.replicate 16 (0 : Int))⟩ : S_api_Addr)) := hb2
  refine seg ha 1 [(2, .pointer (some ⟨g3, 0, none⟩)), (3, .bool false)] (by kernel_rfl) fun a ha => ?_
  refine hK12 _ _ ?_; try clear hK12 K12
  refine wp_ret ?_
  try simp only [Exit.then, Exit.inBlock]
  have hBg3 := hBg3.chg (Chg.refl [] _) (fun h => nomatch h)
  have hM : MS (M) w13 := (fun x h => hM.chg (Chg.refl [] _) x (mr (mr (h))))
  have hC := hC.trans (Chg.refl [] _) (Ok.nil _ _)
  obtain rfl := Option.some.inj H
  refine rtr ha (res2 rfl (roA ha rfl hBg3 (by kernel_rfl)) (roT ha rfl)) ?_
  exact ⟨rfl, hC, hM⟩
 ·have H := ite_f hc11 H
  refine wp_skip ?_
  refine hK9 _ _ ?_; try clear hK9 K9
  refine wp_seq_k fun K15 hK15 => ?_
  refine wp_region_lit ?_
  refine seg ha 1 [(2, .pointer (some ⟨g3, 0, none⟩)), (4, .slice ao8 t7.1.length cap8), (20, .pointer (some ⟨g3, 0, none⟩))] (by kernel_rfl) fun a ha => ?_
  refine st ha rfl rfl rfl (by kernel_rfl) rfl rfl hBg3 (Nat.le_of_ble_eq_true (by kernel_rfl)) fun a w16 ha hb2 hc17 _ => ?_
  have o1 : Ok [g3] (blkL ao8 ++ ([g3] ++ (M))) w7.heap.size := (fun _ h => .inl (mr (ml h)))
  have o2 : Ok (blkL ao8 ++ ([g3] ++ (M))) (blkL ao8 ++ ([g3] ++ (M))) w7.heap.size := (Ok.refl _ _)
  have f8 := f8.chg hc17 o1 o2 p_i8_i5 (fun _ h => ml h)
  have hM : MS (blkL ao8 ++ ([g3] ++ (M))) w16 := (hM.chg hc17)
  have hC := hC.trans hc17 (fun x h => .inr (e_i5 x h))
  have hBg3 : Box w16 g3 (cS_api_Addr (⟨(4 : Int), (List.replicate 16 (0 : Int))⟩ : S_api_Addr)) := hb2
  refine hK15 _ _ ?_; try clear hK15 K15
  refine wp_seq_k fun K18 hK18 => ?_
  refine wp_seq_k fun K19 hK19 => ?_
  refine wp_region_lit ?_
  refine seg ha 3 [(2, .pointer (some ⟨g3, 0, none⟩)), (21, .slice ao8 t7.1.length cap8), (22, .int .i64 (t7.1.length : Int)), (23, .int .i64 (0 : Int))] (by kernel_rfl) fun a ha => ?_
  refine hK19 _ _ ?_; try clear hK19 K19
  refine wp_block ?_
  obtain ⟨s20, H20, H⟩ := bind_some H
  have J20 : ∀ s20' (a : Act) (wx20 : World), s20 = .inr s20' → Has a Tryd.f37.ntmps [(2, .pointer (some ⟨g3, 0, none⟩))] → (Box wx20 g3 (cS_api_Addr (⟨(4 : Int), s20'⟩ : S_api_Addr))) → (Chg [] w wx20) → (MS ([g3] ++ (M)) wx20) → K18 a wx20 := by
   intro s20' a wx20 hs ha hBg3 hC hM
   subst hs
   refine hK18 _ _ ?_; try clear hK18 K18
   refine wp_seq_k fun K23 hK23 => ?_
   refine wp_region_lit ?_
   refine ldA (cs := (cS_api_Addr (⟨(4 : Int), s20'⟩ : S_api_Addr))) ha rfl (by kernel_rfl) rfl rfl rfl (cells_sub (Box.cells hBg3) (all := (cS_api_Addr (⟨(4 : Int), s20'⟩ : S_api_Addr))) [] [] (by kernel_rfl)) fun a ha => ?_
   refine stA (l := (cS_api_Addr (⟨(4 : Int), s20'⟩ : S_api_Addr))) ha rfl rfl rfl (by kernel_rfl) rfl rfl hBg3 rfl fun a w24 ha hb2 hc25 _ => ?_
   have hM : MS ([g3] ++ (M)) w24 := (hM.chg hc25)
   have hC := hC.trans hc25 (fun x h => .inr (e_i5 x h))
   have hBg3 : Box w24 g3 (cS_api_Addr (⟨(4 : Int), s20'⟩ : S_api_Addr)) := hb2
   refine seg ha 1 [(2, .pointer (some ⟨g3, 0, none⟩)), (3, .bool true)] (by kernel_rfl) fun a ha => ?_
   refine hK23 _ _ ?_; try clear hK23 K23
   refine wp_ret ?_
   try simp only [Exit.then, Exit.inBlock]
   have hBg3 := hBg3.chg (Chg.refl [] _) (fun h => nomatch h)
   have hM : MS (M) w24 := (fun x h => hM.chg (Chg.refl [] _) x (mr (h)))
   have hC := hC.trans (Chg.refl [] _) (Ok.nil _ _)
   obtain rfl := Option.some.inj H
   refine rtr ha (res2 rfl (roA ha rfl hBg3 (by kernel_rfl)) (roT ha rfl)) ?_
   exact ⟨rfl, hC, hM⟩
  have Hc20 := H
  have H := H20
  refine wp_loop_ghost (fun kk a w20 => ∃ (x21 : Int) (x22 : List Int), addr_read4.l0 t7 kk x21 x22 = some s20 ∧ Has a Tryd.f37.ntmps [(2, .pointer (some ⟨g3, 0, none⟩)), (21, .slice ao8 t7.1.length cap8), (22, .int .i64 (t7.1.length : Int)), (23, .int .i64 x21)] ∧ (Own (rInt .i64) 3 w20 (blkL ao8 ++ ([g3] ++ (M))) ao8 cap8 t7.1) ∧ (Box w20 g3 (cS_api_Addr (⟨(4 : Int), x22⟩ : S_api_Addr))) ∧ (Chg [] w w20) ∧ (MS (blkL ao8 ++ ([g3] ++ (M))) w20)) k ?_ ?_
  ·skip
   exact ⟨(0 : Int), (List.replicate 16 (0 : Int)), H, (ha.sel (by kernel_rfl)), f8, hBg3, hC, hM⟩
  ·rintro kk a w20 ⟨x21, x22, H, ha, f8, hBg3, hC, hM⟩
   obtain _ | kk := kk
   ·exact nomatch (show none = some _ from H)
   rw [addr_read4.l0] at H
   refine wp_seq_k fun K26 hK26 => ?_
   refine wp_region_lit ?_
   refine seg ha 1 [(2, .pointer (some ⟨g3, 0, none⟩)), (21, .slice ao8 t7.1.length cap8), (22, .int .i64 (t7.1.length : Int)), (23, .int .i64 x21), (24, .bool (decide (x21 < (t7.1.length : Int))))] (by kernel_rfl) fun a ha => ?_
   refine hK26 _ _ ?_; try clear hK26 K26
   refine wp_seq_k fun K27 hK27 => ?_
   refine cnd ha rfl (fun hc28 => ?_) (fun hc28 => ?_)
   ·have H := ite_t hc28 H
    refine wp_skip ?_
    refine hK27 _ _ ?_; try clear hK27 K27
    refine wp_seq_k fun K29 hK29 => ?_
    refine wp_block ?_
    refine wp_seq_k fun K30 hK30 => ?_
    refine wp_region_lit ?_
    refine seg ha 1 [(2, .pointer (some ⟨g3, 0, none⟩)), (21, .slice ao8 t7.1.length cap8), (22, .int .i64 (t7.1.length : Int)), (23, .int .i64 x21), (25, .int .i64 x21)] (by kernel_rfl) fun a ha => ?_
    obtain ⟨⟨hx31, hx31'⟩, H⟩ := ite_some H
    refine ix (r := (rInt .i64)) ha (by kernel_rfl) (by kernel_rfl) rfl rfl rfl rfl rfl (Own.toRSl (M' := []) f8 (Ok.nil _ _) (fun _ _ h => nomatch h)) hx31 hx31' fun a ge32 oe33 cs34 hn37 hR35 hE36 ha => ?_
    rw [rd_get] at hR35
    obtain rfl := hR35
    have hE36 : ∀ j v, ([.int .i64 (rd t7.1 x21)] : List Value)[j]? = some v → w20.cell? ⟨ge32, oe33 + j, none⟩ = some v := hE36
    refine ld ha rfl (by kernel_rfl) rfl rfl rfl (hE36 0 (.int .i64 (rd t7.1 x21)) (by kernel_rfl)) fun a ha => ?_
    refine seg ha 2 [(2, .pointer (some ⟨g3, 0, none⟩)), (5, .int .i64 x21), (6, .int .i64 (rd t7.1 x21)), (21, .slice ao8 t7.1.length cap8), (22, .int .i64 (t7.1.length : Int)), (23, .int .i64 x21)] (by kernel_rfl) fun a ha => ?_
    refine hK30 _ _ ?_; try clear hK30 K30
    refine wp_seq_k fun K38 hK38 => ?_
    refine wp_seq_k fun K39 hK39 => ?_
    refine wp_region_lit ?_
    refine seg ha 2 [(2, .pointer (some ⟨g3, 0, none⟩)), (5, .int .i64 x21), (6, .int .i64 (rd t7.1 x21)), (21, .slice ao8 t7.1.length cap8), (22, .int .i64 (t7.1.length : Int)), (23, .int .i64 x21), (29, .bool (decide ((rd t7.1 x21) < (0 : Int))))] (by kernel_rfl) fun a ha => ?_
    refine hK39 _ _ ?_; try clear hK39 K39
    refine cnd ha rfl (fun hc40 => ?_) (fun hc40 => ?_)
    ·have H := ite_t hc40 H
     refine wp_seq_k fun K41 hK41 => ?_
     refine wp_region_lit ?_
     refine opk (v := .agg (cS_api_Addr (⟨(0 : Int), (List.replicate 16 (0 : Int))⟩ : S_api_Addr)).toArray) ha rfl rfl rfl rfl rfl (fun w => by kernel_rfl) fun a ha => ?_
     refine stA (l := (cS_api_Addr (⟨(0 : Int), (List.replicate 16 (0 : Int))⟩ : S_api_Addr))) ha rfl rfl rfl (by kernel_rfl) rfl rfl hBg3 rfl fun a w42 ha hb2 hc43 _ => ?_
     have hM : MS (blkL ao8 ++ ([g3] ++ (M))) w42 := (hM.chg hc43)
     have hC := hC.trans hc43 (fun x h => .inr (e_i5 x h))
     have hBg3 : Box w42 g3 (cS_api_Addr (⟨(0 : Int), (List.replicate 16 (0 : Int))⟩ : S_api_Addr)) := hb2
     refine seg ha 1 [(2, .pointer (some ⟨g3, 0, none⟩)), (3, .bool false)] (by kernel_rfl) fun a ha => ?_
     refine hK41 _ _ ?_; try clear hK41 K41
     refine wp_ret ?_
     try simp only [Exit.then, Exit.inBlock]
     have hBg3 := hBg3.chg (Chg.refl [] _) (fun h => nomatch h)
     have hM : MS (M) w42 := (fun x h => hM.chg (Chg.refl [] _) x (mr (mr (h))))
     have hC := hC.trans (Chg.refl [] _) (Ok.nil _ _)
     obtain rfl := Option.some.inj H
     have H := (show some _ = some _ from Hc20)
     obtain rfl := Option.some.inj H
     refine rtr ha (res2 rfl (roA ha rfl hBg3 (by kernel_rfl)) (roT ha rfl)) ?_
     exact ⟨rfl, hC, hM⟩
    ·have H := ite_f hc40 H
     refine wp_skip ?_
     refine hK38 _ _ ?_; try clear hK38 K38
     refine wp_region_lit ?_
     refine seg ha 4 [(2, .pointer (some ⟨g3, 0, none⟩)), (21, .slice ao8 t7.1.length cap8), (22, .int .i64 (t7.1.length : Int)), (23, .int .i64 x21), (31, .int .i64 x21), (33, .int .u8 (IntKind.u8.wrap (rd t7.1 x21))), (34, .pointer (some ⟨g3, 1, none⟩))] (by kernel_rfl) fun a ha => ?_
     obtain ⟨⟨hx44, hx44'⟩, H⟩ := ite_some H
     have hi44 : (Int.toNat x21) < 16 := by omega
     refine hop (v := .pointer (some ⟨g3, 1 + (Int.toNat x21), none⟩)) (w' := w20) ha rfl rfl rfl (ixA_run (T := 5) (N := 16) (g := g3) (o' := 1) (k := .i64) (i := x21) ha (by kernel_rfl) (by kernel_rfl) (by rfl) (by rfl) hx44 hx44' _) fun a ha => ?_
     refine st (o' := 1 + (Int.toNat x21)) ha rfl rfl rfl (by kernel_rfl) rfl rfl hBg3 (arr_lt (k := .u8) (m := 16) (x := x22) ([.int .i64 (4 : Int)] : List Value) ([] : List Value) (by kernel_rfl) hi44) fun a w45 ha hb2 hc46 _ => ?_
     have o1 : Ok [g3] (blkL ao8 ++ ([g3] ++ (M))) w20.heap.size := (fun _ h => .inl (mr (ml h)))
     have o2 : Ok (blkL ao8 ++ ([g3] ++ (M))) (blkL ao8 ++ ([g3] ++ (M))) w20.heap.size := (Ok.refl _ _)
     have f8 := f8.chg hc46 o1 o2 p_i8_i5 (fun _ h => ml h)
     have hM : MS (blkL ao8 ++ ([g3] ++ (M))) w45 := (hM.chg hc46)
     have hC := hC.trans hc46 (fun x h => .inr (e_i5 x h))
     have hBg3 : Box w45 g3 (cS_api_Addr (⟨(4 : Int), ((arL 16 x22).set (Int.toNat x21) (IntKind.u8.wrap (rd t7.1 x21)))⟩ : S_api_Addr)) := Box.setA (k := .u8) (m := 16) (x := x22) ([.int .i64 (4 : Int)] : List Value) ([] : List Value) hb2 (by kernel_rfl) hi44 (by kernel_rfl)
     refine hK29 _ _ ?_; try clear hK29 K29
     refine wp_region_lit ?_
     refine seg ha 2 [(2, .pointer (some ⟨g3, 0, none⟩)), (21, .slice ao8 t7.1.length cap8), (22, .int .i64 (t7.1.length : Int)), (23, .int .i64 (IntKind.i64.wrap (x21 + (1 : Int))))] (by kernel_rfl) fun a ha => ?_
     exact ⟨kk, Nat.lt_succ_self _, ⟨IntKind.i64.wrap (x21 + (1 : Int)), ((arL 16 x22).set (Int.toNat x21) (IntKind.u8.wrap (rd t7.1 x21))), H, (ha.sel (by kernel_rfl)), f8, hBg3, hC, hM⟩⟩
   ·have H := ite_f hc28 H
    refine wp_exit ?_
    simp only [Exit.then, Exit.inBlock, ↓reduceIte, Nat.reduceEqDiff]
    obtain rfl := Option.some.inj H
    have hBg3 := hBg3.chg (Chg.refl [] _) (fun h => nomatch h)
    have hM : MS ([g3] ++ (M)) w20 := (fun x h => hM.chg (Chg.refl [] _) x (mr (h)))
    have hC := hC.trans (Chg.refl [] _) (Ok.nil _ _)
    exact J20 _ _ _ rfl (ha.sel (by kernel_rfl)) hBg3 hC hM

def strings_Cut.f (a0 a1 : List UInt8) : Option (List UInt8 × List UInt8 × Bool) := if a0.length < 4294967281 then some (Lib.cut a0 a1) else none
theorem strings_Cut.walk (w : World) (M : List Nat) (hM : MS M w) (hG : GF w M) (a0 a1 : List UInt8) (r : List UInt8 × List UInt8 × Bool) (H : strings_Cut.f a0 a1 = some r) :
    To Tryd.prog 48 [.string (bstr a0), .string (bstr a1)] w fun v w' => v = .tuple #[.string (bstr r.1), .string (bstr r.2.1), .bool r.2.2] ∧ Chg [] w w' ∧ MS M w' := by
  unfold strings_Cut.f at H
  obtain ⟨h0, H⟩ := ite_some H
  obtain rfl := Option.some.inj H
  obtain ⟨m, hm⟩ := hG.2.2.1
  have e0 : (bstr a0).data.toList = a0 := by simp [bstr]
  have e1 : (bstr a1).data.toList = a1 := by simp [bstr]
  have h := Tryd.strings_Cut (bstr a0) (bstr a1) m w h0 hm
  rw [e0, e1] at h
  refine Calls.mono h ?_
  rintro e w' ⟨rfl, n, rfl⟩
  exact ⟨_, rfl, rfl, chg_drewN w n, hM.chg (chg_drewN w n)⟩

def addr_half.l0 (t8 : List Int × Bool) : Nat → Int → Option ((List Int × Bool) ⊕ (Unit))
  | 0, _ => none
  | kk + 1, x18 => (if (decide (x18 < (t8.1.length : Int))) = true then (if 0 ≤ x18 ∧ x18 < (t8.1.length : Int) then (if (decide ((rd t8.1 x18) < (0 : Int))) = true then some (.inl ((([] : List Int) : List Int), (false : Bool))) else addr_half.l0 t8 kk (IntKind.i64.wrap (x18 + (1 : Int)))) else none) else some (.inr (() : Unit)))
def addr_half.f (k : Nat) (a0 : List UInt8) : Option (List Int × Bool) := (if ((bstr a0).toList == (bstr ([] : List UInt8)).toList) = true then some ((([] : List Int) : List Int), (true : Bool)) else (addr_parts.f k a0 (58 : Int) (16 : Int) (65536 : Int)).bind fun t8 => (if (if (!t8.2) = true then true else (decide ((t8.1.length : Int) > (8 : Int)))) = true then some ((([] : List Int) : List Int), (false : Bool)) else (addr_half.l0 t8 k (0 : Int)).bind fun s17 => match s17 with | .inl r => some r | .inr s17' => some ((t8.1 : List Int), (true : Bool))))
set_option maxRecDepth 100000 in
theorem addr_half.walk (w : World) (M : List Nat) (hM : MS M w) (a0 : List UInt8) (k : Nat) (r : List Int × Bool) (H : addr_half.f k a0 = some r) :
    To Tryd.prog 59 [.string (bstr a0)] w fun v w' => ∃ (ao36 : Option Addr) (cap36 : Nat), v = .tuple #[.slice ao36 r.1.length cap36, .bool r.2] ∧ (Own (rInt .i64) 3 w' (blkL ao36 ++ (M)) ao36 cap36 r.1) ∧ (∀ x ∈ blkL ao36, w.heap.size ≤ x) ∧ Chg [] w w' ∧ MS (blkL ao36 ++ (M)) w' := by
 unfold addr_half.f at H
 refine ent Tryd.func59 rfl [(0, .string (bstr a0))] rfl (by rfl) fun a ha => ?_
 have hC : Chg [] w w := Chg.refl _ _
 refine wp_seq_k fun K1 hK1 => ?_
 refine wp_region_lit ?_
 refine seg ha 2 [(0, .string (bstr a0))] (by kernel_rfl) fun a ha => ?_
 refine hK1 _ _ ?_; try clear hK1 K1
 refine wp_seq_k fun K2 hK2 => ?_
 refine wp_seq_k fun K3 hK3 => ?_
 refine wp_region_lit ?_
 refine seg ha 2 [(0, .string (bstr a0)), (9, .bool ((bstr a0).toList == (bstr ([] : List UInt8)).toList))] (by kernel_rfl) fun a ha => ?_
 refine hK3 _ _ ?_; try clear hK3 K3
 refine cnd ha rfl (fun hc4 => ?_) (fun hc4 => ?_)
 ·have H := ite_t hc4 H
  refine wp_seq_k fun K5 hK5 => ?_
  refine wp_region_lit ?_
  refine seg ha 2 [(2, .slice none 0 0), (3, .bool true)] (by kernel_rfl) fun a ha => ?_
  refine hK5 _ _ ?_; try clear hK5 K5
  refine wp_ret ?_
  try simp only [Exit.then, Exit.inBlock]
  have p_z6_M : ∀ x ∈ blkL none, x ∉ M := fun x hx hy => absurd (hM x (hy)) (Nat.not_lt.2 ((fun _ h => nomatch h) x hx))
  have e_z6 : ∀ x ∈ blkL none, w.heap.size ≤ x := fun x hx => Nat.le_trans hC.size ((fun _ h => nomatch h) x hx)
  have hM : MS (blkL none ++ (M)) w := (MS.app (fun _ h => nomatch h) (hM.chg (Chg.refl [] _)))
  have hC := hC.trans (Chg.refl [] _) (Ok.nil _ _)
  obtain rfl := Option.some.inj H
  refine rt2 ha rfl rfl rfl ?_
  exact ⟨none, 0, rfl, Own.nil, e_z6, hC, hM⟩
 ·have H := ite_f hc4 H
  refine wp_skip ?_
  refine hK2 _ _ ?_; try clear hK2 K2
  refine wp_seq_k fun K7 hK7 => ?_
  refine wp_region_lit ?_
  refine seg ha 1 [(11, .string (bstr a0))] (by kernel_rfl) fun a ha => ?_
  obtain ⟨t8, H8, H⟩ := bind_some H
  refine cl ha (by rfl) (by kernel_rfl) (by rfl) (by rfl) (by rfl) (addr_parts.walk w _ hM a0 (58 : Int) (16 : Int) (65536 : Int) k _ H8) ?_
  rintro _ w8 ⟨ao9, cap9, rfl, f9, ne_i9, hc8, hMn⟩ a ha
  have p_i9_M : ∀ x ∈ blkL ao9, x ∉ M := fun x hx hy => absurd (hM x (hy)) (Nat.not_lt.2 (ne_i9 x hx))
  have e_i9 : ∀ x ∈ blkL ao9, w.heap.size ≤ x := fun x hx => Nat.le_trans hC.size (ne_i9 x hx)
  have hM : MS (blkL ao9 ++ (M)) w8 := (MS.app (fun x h => hMn x (ml h)) (hM.chg hc8))
  have hC := hC.trans hc8 (Ok.nil _ _)
  refine seg ha 5 [(4, .slice ao9 t8.1.length cap9), (5, .bool t8.2)] (by kernel_rfl) fun a ha => ?_
  refine hK7 _ _ ?_; try clear hK7 K7
  refine wp_seq_k fun K10 hK10 => ?_
  refine wp_seq_k fun K11 hK11 => ?_
  refine wp_region_lit ?_
  refine seg ha 7 [(4, .slice ao9 t8.1.length cap9), (21, .bool (if (!t8.2) = true then true else (decide ((t8.1.length : Int) > (8 : Int)))))] (by kernel_rfl) fun a ha => ?_
  refine hK11 _ _ ?_; try clear hK11 K11
  refine cnd ha rfl (fun hc12 => ?_) (fun hc12 => ?_)
  ·have H := ite_t hc12 H
   refine wp_seq_k fun K13 hK13 => ?_
   refine wp_region_lit ?_
   refine seg ha 2 [(2, .slice none 0 0), (3, .bool false)] (by kernel_rfl) fun a ha => ?_
   refine hK13 _ _ ?_; try clear hK13 K13
   refine wp_ret ?_
   try simp only [Exit.then, Exit.inBlock]
   have p_z14_M : ∀ x ∈ blkL none, x ∉ M := fun x hx hy => absurd (hM x (mr (hy))) (Nat.not_lt.2 ((fun _ h => nomatch h) x hx))
   have e_z14 : ∀ x ∈ blkL none, w.heap.size ≤ x := fun x hx => Nat.le_trans hC.size ((fun _ h => nomatch h) x hx)
   have hM : MS (blkL none ++ (M)) w8 := (MS.app (fun _ h => nomatch h) (fun x h => hM.chg (Chg.refl [] _) x (mr (h))))
   have hC := hC.trans (Chg.refl [] _) (Ok.nil _ _)
   obtain rfl := Option.some.inj H
   refine rt2 ha rfl rfl rfl ?_
   exact ⟨none, 0, rfl, Own.nil, e_z14, hC, hM⟩
  ·have H := ite_f hc12 H
   refine wp_skip ?_
   refine hK10 _ _ ?_; try clear hK10 K10
   refine wp_seq_k fun K15 hK15 => ?_
   refine wp_seq_k fun K16 hK16 => ?_
   refine wp_region_lit ?_
   refine seg ha 3 [(4, .slice ao9 t8.1.length cap9), (22, .slice ao9 t8.1.length cap9), (23, .int .i64 (t8.1.length : Int)), (24, .int .i64 (0 : Int))] (by kernel_rfl) fun a ha => ?_
   refine hK16 _ _ ?_; try clear hK16 K16
   refine wp_block ?_
   obtain ⟨s17, H17, H⟩ := bind_some H
   have J17 : ∀ s17' (a : Act) (wx17 : World), s17 = .inr s17' → Has a Tryd.f59.ntmps [(4, .slice ao9 t8.1.length cap9)] → (Own (rInt .i64) 3 wx17 (blkL ao9 ++ (M)) ao9 cap9 t8.1) → (Chg [] w wx17) → (MS (blkL ao9 ++ (M)) wx17) → K15 a wx17 := by
    intro s17' a wx17 hs ha f9 hC hM
    subst hs
    refine hK15 _ _ ?_; try clear hK15 K15
    refine wp_seq_k fun K19 hK19 => ?_
    refine wp_region_lit ?_
    refine seg ha 3 [(2, .slice ao9 t8.1.length cap9), (3, .bool true)] (by kernel_rfl) fun a ha => ?_
    refine hK19 _ _ ?_; try clear hK19 K19
    refine wp_ret ?_
    try simp only [Exit.then, Exit.inBlock]
    obtain rfl := Option.some.inj H
    refine rt2 ha rfl rfl rfl ?_
    exact ⟨ao9, cap9, rfl, f9, e_i9, hC, hM⟩
   have Hc17 := H
   have H := H17
   refine wp_loop_ghost (fun kk a w17 => ∃ (x18 : Int), addr_half.l0 t8 kk x18 = some s17 ∧ Has a Tryd.f59.ntmps [(4, .slice ao9 t8.1.length cap9), (22, .slice ao9 t8.1.length cap9), (23, .int .i64 (t8.1.length : Int)), (24, .int .i64 x18)] ∧ (Own (rInt .i64) 3 w17 (blkL ao9 ++ (M)) ao9 cap9 t8.1) ∧ (Chg [] w w17) ∧ (MS (blkL ao9 ++ (M)) w17)) k ?_ ?_
   ·skip
    exact ⟨(0 : Int), H, (ha.sel (by kernel_rfl)), f9, hC, hM⟩
   ·rintro kk a w17 ⟨x18, H, ha, f9, hC, hM⟩
    obtain _ | kk := kk
    ·exact nomatch (show none = some _ from H)
    rw [addr_half.l0] at H
    refine wp_seq_k fun K20 hK20 => ?_
    refine wp_region_lit ?_
    refine seg ha 1 [(4, .slice ao9 t8.1.length cap9), (22, .slice ao9 t8.1.length cap9), (23, .int .i64 (t8.1.length : Int)), (24, .int .i64 x18), (25, .bool (decide (x18 < (t8.1.length : Int))))] (by kernel_rfl) fun a ha => ?_
    refine hK20 _ _ ?_; try clear hK20 K20
    refine wp_seq_k fun K21 hK21 => ?_
    refine cnd ha rfl (fun hc22 => ?_) (fun hc22 => ?_)
    ·have H := ite_t hc22 H
     refine wp_skip ?_
     refine hK21 _ _ ?_; try clear hK21 K21
     refine wp_seq_k fun K23 hK23 => ?_
     refine wp_block ?_
     refine wp_seq_k fun K24 hK24 => ?_
     refine wp_region_lit ?_
     obtain ⟨⟨hx25, hx25'⟩, H⟩ := ite_some H
     refine ix (r := (rInt .i64)) ha (by kernel_rfl) (by kernel_rfl) rfl rfl rfl rfl rfl (Own.toRSl (M' := []) f9 (Ok.nil _ _) (fun _ _ h => nomatch h)) hx25 hx25' fun a ge26 oe27 cs28 hn31 hR29 hE30 ha => ?_
     rw [rd_get] at hR29
     obtain rfl := hR29
     have hE30 : ∀ j v, ([.int .i64 (rd t8.1 x18)] : List Value)[j]? = some v → w17.cell? ⟨ge26, oe27 + j, none⟩ = some v := hE30
     refine ld ha rfl (by kernel_rfl) rfl rfl rfl (hE30 0 (.int .i64 (rd t8.1 x18)) (by kernel_rfl)) fun a ha => ?_
     refine seg ha 1 [(4, .slice ao9 t8.1.length cap9), (7, .int .i64 (rd t8.1 x18)), (22, .slice ao9 t8.1.length cap9), (23, .int .i64 (t8.1.length : Int)), (24, .int .i64 x18)] (by kernel_rfl) fun a ha => ?_
     refine hK24 _ _ ?_; try clear hK24 K24
     refine wp_seq_k fun K32 hK32 => ?_
     refine wp_region_lit ?_
     refine seg ha 2 [(4, .slice ao9 t8.1.length cap9), (22, .slice ao9 t8.1.length cap9), (23, .int .i64 (t8.1.length : Int)), (24, .int .i64 x18), (29, .bool (decide ((rd t8.1 x18) < (0 : Int))))] (by kernel_rfl) fun a ha => ?_
     refine hK32 _ _ ?_; try clear hK32 K32
     refine cnd ha rfl (fun hc33 => ?_) (fun hc33 => ?_)
     ·have H := ite_t hc33 H
      refine wp_seq_k fun K34 hK34 => ?_
      refine wp_region_lit ?_
      refine seg ha 2 [(2, .slice none 0 0), (3, .bool false)] (by kernel_rfl) fun a ha => ?_
      refine hK34 _ _ ?_; try clear hK34 K34
      refine wp_ret ?_
      try simp only [Exit.then, Exit.inBlock]
      have p_z35_M : ∀ x ∈ blkL none, x ∉ M := fun x hx hy => absurd (hM x (mr (hy))) (Nat.not_lt.2 ((fun _ h => nomatch h) x hx))
      have e_z35 : ∀ x ∈ blkL none, w.heap.size ≤ x := fun x hx => Nat.le_trans hC.size ((fun _ h => nomatch h) x hx)
      have hM : MS (blkL none ++ (M)) w17 := (MS.app (fun _ h => nomatch h) (fun x h => hM.chg (Chg.refl [] _) x (mr (h))))
      have hC := hC.trans (Chg.refl [] _) (Ok.nil _ _)
      obtain rfl := Option.some.inj H
      have H := (show some _ = some _ from Hc17)
      obtain rfl := Option.some.inj H
      refine rt2 ha rfl rfl rfl ?_
      exact ⟨none, 0, rfl, Own.nil, e_z35, hC, hM⟩
     ·have H := ite_f hc33 H
      refine wp_skip ?_
      refine hK23 _ _ ?_; try clear hK23 K23
      refine wp_region_lit ?_
      refine seg ha 2 [(4, .slice ao9 t8.1.length cap9), (22, .slice ao9 t8.1.length cap9), (23, .int .i64 (t8.1.length : Int)), (24, .int .i64 (IntKind.i64.wrap (x18 + (1 : Int))))] (by kernel_rfl) fun a ha => ?_
      exact ⟨kk, Nat.lt_succ_self _, ⟨IntKind.i64.wrap (x18 + (1 : Int)), H, (ha.sel (by kernel_rfl)), f9, hC, hM⟩⟩
    ·have H := ite_f hc22 H
     refine wp_exit ?_
     simp only [Exit.then, Exit.inBlock, ↓reduceIte, Nat.reduceEqDiff]
     obtain rfl := Option.some.inj H
     exact J17 _ _ _ rfl (ha.sel (by kernel_rfl)) f9 hC hM
def addr_put6.l0 (a1 : Int) (a2 : List Int) : Nat → Int → (List Int) → Option (List Int)
  | 0, _, _ => none
  | kk + 1, x4, x5 => (if (decide (x4 < (a2.length : Int))) = true then (if 0 ≤ x4 ∧ x4 < (a2.length : Int) then (if 0 ≤ (IntKind.i64.wrap ((2 : Int) * (IntKind.i64.wrap (a1 + x4)))) ∧ (IntKind.i64.wrap ((2 : Int) * (IntKind.i64.wrap (a1 + x4)))) < (16 : Int) then (if 0 ≤ (IntKind.i64.wrap ((IntKind.i64.wrap ((2 : Int) * (IntKind.i64.wrap (a1 + x4)))) + (1 : Int))) ∧ (IntKind.i64.wrap ((IntKind.i64.wrap ((2 : Int) * (IntKind.i64.wrap (a1 + x4)))) + (1 : Int))) < (16 : Int) then addr_put6.l0 a1 a2 kk (IntKind.i64.wrap (x4 + (1 : Int))) ((arL 16 ((arL 16 x5).set (Int.toNat (IntKind.i64.wrap ((2 : Int) * (IntKind.i64.wrap (a1 + x4))))) (IntKind.u8.wrap (Int.fdiv (rd a2 x4) (2 ^ (min (8 : Int).toNat IntKind.i64.bits)))))).set (Int.toNat (IntKind.i64.wrap ((IntKind.i64.wrap ((2 : Int) * (IntKind.i64.wrap (a1 + x4)))) + (1 : Int)))) (IntKind.u8.wrap (rd a2 x4))) else none) else none) else none) else some (x5 : List Int))
def addr_put6.f (k : Nat) (a0 : S_api_Addr) (a1 : Int) (a2 : List Int) : Option (S_api_Addr) := (addr_put6.l0 a1 a2 k (0 : Int) a0.B).bind fun s3 => some (((⟨a0.Size, s3⟩ : S_api_Addr) : S_api_Addr))
set_option maxRecDepth 100000 in
theorem addr_put6.walk (w : World) (M : List Nat) (hM : MS M w) (gp0 : Nat) (a0 : S_api_Addr) (hBgp0 : Box w gp0 (cS_api_Addr a0)) (hg_gp0 : gp0 ∈ M) (a1 : Int) (a2 : List Int) (ao1 : Option Addr) (cap1 : Nat) (f1 : RSl (rInt .i64) 3 w M ao1 cap1 a2) (k : Nat) (r : S_api_Addr) (H : addr_put6.f k a0 a1 a2 = some r) :
    To Tryd.prog 60 [.pointer (some ⟨gp0, 0, none⟩), .int .i64 a1, .slice ao1 a2.length cap1] w fun v w' => v = .tuple #[] ∧ (Box w' gp0 (cS_api_Addr r)) ∧ Chg [gp0] w w' ∧ MS (M) w' := by
 unfold addr_put6.f at H
 refine ent Tryd.func60 rfl [(0, .pointer (some ⟨gp0, 0, none⟩)), (1, .int .i64 a1), (2, .slice ao1 a2.length cap1)] rfl (by rfl) fun a ha => ?_
 have hC : Chg [gp0] w w := Chg.refl _ _
 refine wp_top_k fun K0 hK0 => ?_
 refine wp_seq_k fun K2 hK2 => ?_
 refine wp_region_lit ?_
 refine seg ha 3 [(0, .pointer (some ⟨gp0, 0, none⟩)), (1, .int .i64 a1), (8, .slice ao1 a2.length cap1), (9, .int .i64 (a2.length : Int)), (10, .int .i64 (0 : Int))] (by kernel_rfl) fun a ha => ?_
 refine hK2 _ _ ?_; try clear hK2 K2
 refine wp_block ?_
 obtain ⟨s3, H3, H⟩ := bind_some H
 have J3 : ∀ (a : Act) (wx3 : World), Has a Tryd.f60.ntmps [] → (Box wx3 gp0 (cS_api_Addr (⟨a0.Size, s3⟩ : S_api_Addr))) → (Chg [gp0] w wx3) → (MS (M) wx3) → K0 a wx3 := by
  intro a wx3 ha hBgp0 hC hM
  refine hK0 _ _ ?_
  obtain rfl := Option.some.inj H
  refine rt0 ha rfl ?_
  exact ⟨rfl, hBgp0, hC, hM⟩
 have Hc3 := H
 have H := H3
 refine wp_loop_ghost (fun kk a w3 => ∃ (x4 : Int) (x5 : List Int), addr_put6.l0 a1 a2 kk x4 x5 = some s3 ∧ Has a Tryd.f60.ntmps [(0, .pointer (some ⟨gp0, 0, none⟩)), (1, .int .i64 a1), (8, .slice ao1 a2.length cap1), (9, .int .i64 (a2.length : Int)), (10, .int .i64 x4)] ∧ (RSl (rInt .i64) 3 w3 (M) ao1 cap1 a2) ∧ (Box w3 gp0 (cS_api_Addr (⟨a0.Size, x5⟩ : S_api_Addr))) ∧ (Chg [gp0] w w3) ∧ (MS (M) w3)) k ?_ ?_
 ·skip
  exact ⟨(0 : Int), a0.B, H, (ha.sel (by kernel_rfl)), f1, hBgp0, hC, hM⟩
 ·rintro kk a w3 ⟨x4, x5, H, ha, f1, hBgp0, hC, hM⟩
  obtain _ | kk := kk
  ·exact nomatch (show none = some _ from H)
  rw [addr_put6.l0] at H
  refine wp_seq_k fun K6 hK6 => ?_
  refine wp_region_lit ?_
  refine seg ha 1 [(0, .pointer (some ⟨gp0, 0, none⟩)), (1, .int .i64 a1), (8, .slice ao1 a2.length cap1), (9, .int .i64 (a2.length : Int)), (10, .int .i64 x4), (11, .bool (decide (x4 < (a2.length : Int))))] (by kernel_rfl) fun a ha => ?_
  refine hK6 _ _ ?_; try clear hK6 K6
  refine wp_seq_k fun K7 hK7 => ?_
  refine cnd ha rfl (fun hc8 => ?_) (fun hc8 => ?_)
  ·have H := ite_t hc8 H
   refine wp_skip ?_
   refine hK7 _ _ ?_; try clear hK7 K7
   refine wp_seq_k fun K9 hK9 => ?_
   refine wp_block ?_
   refine wp_seq_k fun K10 hK10 => ?_
   refine wp_region_lit ?_
   refine seg ha 1 [(0, .pointer (some ⟨gp0, 0, none⟩)), (1, .int .i64 a1), (8, .slice ao1 a2.length cap1), (9, .int .i64 (a2.length : Int)), (10, .int .i64 x4), (12, .int .i64 x4)] (by kernel_rfl) fun a ha => ?_
   obtain ⟨⟨hx11, hx11'⟩, H⟩ := ite_some H
   refine ix (r := (rInt .i64)) ha (by kernel_rfl) (by kernel_rfl) rfl rfl rfl rfl rfl f1 hx11 hx11' fun a ge12 oe13 cs14 hn17 hR15 hE16 ha => ?_
   rw [rd_get] at hR15
   obtain rfl := hR15
   have hE16 : ∀ j v, ([.int .i64 (rd a2 x4)] : List Value)[j]? = some v → w3.cell? ⟨ge12, oe13 + j, none⟩ = some v := hE16
   refine ld ha rfl (by kernel_rfl) rfl rfl rfl (hE16 0 (.int .i64 (rd a2 x4)) (by kernel_rfl)) fun a ha => ?_
   refine seg ha 2 [(0, .pointer (some ⟨gp0, 0, none⟩)), (1, .int .i64 a1), (6, .int .i64 x4), (7, .int .i64 (rd a2 x4)), (8, .slice ao1 a2.length cap1), (9, .int .i64 (a2.length : Int)), (10, .int .i64 x4)] (by kernel_rfl) fun a ha => ?_
   refine hK10 _ _ ?_; try clear hK10 K10
   have okS : Ok ([gp0]) (M) w3.heap.size := (Ok.one (.inl (hg_gp0)))
   have z_f1 := f1
   refine drw (fun w' => Chg ([gp0]) w3 w') (by kernel_rfl) fun w18 hc19 _ => ?_
   have hS : Chg ([gp0]) w3 w18 := (Chg.refl ([gp0]) _).trans hc19 (Ok.nil _ _)
   have o1 : Ok [] (M) w3.heap.size := Ok.nil _ _
   have o2 : Ok (M) (M) w3.heap.size := (Ok.refl _ _)
   have f1 := f1.chg hc19 o1 o2
   have hBgp0 := hBgp0.chg hc19 (fun h => nomatch h)
   have hM : MS (M) w18 := (hM.chg hc19)
   have hC := hC.trans hc19 (Ok.nil _ _)
   refine tkpz 0 0 (.pointer (some ⟨gp0, 0, none⟩)) ha (s := hS) (q := fun a ha => ?_)
   refine tkpz 1 0 (.int .i64 a1) ha (s := hS) (q := fun a ha => ?_)
   refine tkpz 2 0 (.int .i64 x4) ha (s := hS) (q := fun a ha => ?_)
   refine tkpz 3 0 (.int .i64 (IntKind.i64.wrap (a1 + x4))) ha (s := hS) (q := fun a ha => ?_)
   refine tkpz 4 0 (.int .i64 (IntKind.i64.wrap ((2 : Int) * (IntKind.i64.wrap (a1 + x4))))) ha (s := hS) (q := fun a ha => ?_)
   refine tkpz 5 0 (.pointer (some ⟨gp0, 0, none⟩)) ha (s := hS) (q := fun a ha => ?_)
   refine tkpz 6 0 (.int .i64 a1) ha (s := hS) (q := fun a ha => ?_)
   refine tkpz 7 0 (.int .i64 x4) ha (s := hS) (q := fun a ha => ?_)
   refine tkpz 8 0 (.int .i64 (IntKind.i64.wrap (a1 + x4))) ha (s := hS) (q := fun a ha => ?_)
   refine tkpz 9 0 (.int .i64 (IntKind.i64.wrap ((2 : Int) * (IntKind.i64.wrap (a1 + x4))))) ha (s := hS) (q := fun a ha => ?_)
   refine tkpz 10 0 (.int .i64 (IntKind.i64.wrap ((IntKind.i64.wrap ((2 : Int) * (IntKind.i64.wrap (a1 + x4)))) + (1 : Int)))) ha (s := hS) (q := fun a ha => ?_)
   refine tkpz 11 0 (.int .i64 (rd a2 x4)) ha (s := hS) (q := fun a ha => ?_)
   refine tkpz 12 0 (.int .i64 (Int.fdiv (rd a2 x4) (2 ^ (min (8 : Int).toNat IntKind.i64.bits)))) ha (s := hS) (q := fun a ha => ?_)
   refine tkpz 13 0 (.int .u8 (IntKind.u8.wrap (Int.fdiv (rd a2 x4) (2 ^ (min (8 : Int).toNat IntKind.i64.bits))))) ha (s := hS) (q := fun a ha => ?_)
   refine tkpz 14 0 (.int .i64 (rd a2 x4)) ha (s := hS) (q := fun a ha => ?_)
   refine tkpz 15 0 (.int .u8 (IntKind.u8.wrap (rd a2 x4))) ha (s := hS) (q := fun a ha => ?_)
   refine tkpz 16 0 (.pointer (some ⟨gp0, 0, none⟩)) ha (s := hS) (q := fun a ha => ?_)
   refine tkpz 17 0 (.pointer (some ⟨gp0, 1, none⟩)) ha (s := hS) (q := fun a ha => ?_)
   obtain ⟨⟨hx20, hx20'⟩, H⟩ := ite_some H
   have hi20 : (Int.toNat (IntKind.i64.wrap ((2 : Int) * (IntKind.i64.wrap (a1 + x4))))) < 16 := by omega
   refine tkz 18 ha (v := .pointer (some ⟨gp0, 1 + (Int.toNat (IntKind.i64.wrap ((2 : Int) * (IntKind.i64.wrap (a1 + x4))))), none⟩)) (y := fun w' hs => ixA_run (T := 5) (N := 16) (g := gp0) (o' := 1) (k := .i64) (i := IntKind.i64.wrap ((2 : Int) * (IntKind.i64.wrap (a1 + x4)))) ha (by kernel_rfl) (by kernel_rfl) (by rfl) (by rfl) hx20 hx20' w') (s := hS) (q := fun a ha => ?_)
   refine tkpz 20 0 (.pointer (some ⟨gp0, 0, none⟩)) ha (s := hS) (q := fun a ha => ?_)
   refine tkpz 21 0 (.pointer (some ⟨gp0, 1, none⟩)) ha (s := hS) (q := fun a ha => ?_)
   refine ac 19 (by kernel_rfl) (by rfl) fun K21 hK21 => ?_
   refine st (o' := 1 + (Int.toNat (IntKind.i64.wrap ((2 : Int) * (IntKind.i64.wrap (a1 + x4)))))) ha rfl rfl rfl (by kernel_rfl) rfl rfl hBgp0 (arr_lt (k := .u8) (m := 16) (x := x5) ([.int .i64 a0.Size] : List Value) ([] : List Value) (by kernel_rfl) hi20) fun a w22 ha hb2 hc23 _ => ?_
   have o1 : Ok [gp0] (M) w18.heap.size := Ok.one (.inl (hg_gp0))
   have o2 : Ok (M) (M) w18.heap.size := (Ok.refl _ _)
   have f1 := f1.chg hc23 o1 o2
   have hM : MS (M) w22 := (hM.chg hc23)
   have hC := hC.trans hc23 (Ok.one (.inl (by simp)))
   have hS := hS.trans hc23 (fun x h => .inl (h))
   have hBgp0 : Box w22 gp0 (cS_api_Addr (⟨a0.Size, ((arL 16 x5).set (Int.toNat (IntKind.i64.wrap ((2 : Int) * (IntKind.i64.wrap (a1 + x4))))) (IntKind.u8.wrap (Int.fdiv (rd a2 x4) (2 ^ (min (8 : Int).toNat IntKind.i64.bits)))))⟩ : S_api_Addr)) := Box.setA (k := .u8) (m := 16) (x := x5) ([.int .i64 a0.Size] : List Value) ([] : List Value) hb2 (by kernel_rfl) hi20 (by kernel_rfl)
   refine ae hK21 hS ?_; clear hK21 K21
   obtain ⟨⟨hx24, hx24'⟩, H⟩ := ite_some H
   have hi24 : (Int.toNat (IntKind.i64.wrap ((IntKind.i64.wrap ((2 : Int) * (IntKind.i64.wrap (a1 + x4)))) + (1 : Int)))) < 16 := by omega
   refine tkz 22 ha (v := .pointer (some ⟨gp0, 1 + (Int.toNat (IntKind.i64.wrap ((IntKind.i64.wrap ((2 : Int) * (IntKind.i64.wrap (a1 + x4)))) + (1 : Int)))), none⟩)) (y := fun w' hs => ixA_run (T := 5) (N := 16) (g := gp0) (o' := 1) (k := .i64) (i := IntKind.i64.wrap ((IntKind.i64.wrap ((2 : Int) * (IntKind.i64.wrap (a1 + x4)))) + (1 : Int))) ha (by kernel_rfl) (by kernel_rfl) (by rfl) (by rfl) hx24 hx24' w') (s := hS) (q := fun a ha => ?_)
   refine ac 23 (by kernel_rfl) (by rfl) fun K25 hK25 => ?_
   refine st (o' := 1 + (Int.toNat (IntKind.i64.wrap ((IntKind.i64.wrap ((2 : Int) * (IntKind.i64.wrap (a1 + x4)))) + (1 : Int))))) ha rfl rfl rfl (by kernel_rfl) rfl rfl hBgp0 (arr_lt (k := .u8) (m := 16) (x := ((arL 16 x5).set (Int.toNat (IntKind.i64.wrap ((2 : Int) * (IntKind.i64.wrap (a1 + x4))))) (IntKind.u8.wrap (Int.fdiv (rd a2 x4) (2 ^ (min (8 : Int).toNat IntKind.i64.bits)))))) ([.int .i64 a0.Size] : List Value) ([] : List Value) (by kernel_rfl) hi24) fun a w26 ha hb2 hc27 _ => ?_
   have o1 : Ok [gp0] (M) w22.heap.size := Ok.one (.inl (hg_gp0))
   have o2 : Ok (M) (M) w22.heap.size := (Ok.refl _ _)
   have f1 := f1.chg hc27 o1 o2
   have hM : MS (M) w26 := (hM.chg hc27)
   have hC := hC.trans hc27 (Ok.one (.inl (by simp)))
   have hS := hS.trans hc27 (fun x h => .inl (h))
   have hBgp0 : Box w26 gp0 (cS_api_Addr (⟨a0.Size, ((arL 16 ((arL 16 x5).set (Int.toNat (IntKind.i64.wrap ((2 : Int) * (IntKind.i64.wrap (a1 + x4))))) (IntKind.u8.wrap (Int.fdiv (rd a2 x4) (2 ^ (min (8 : Int).toNat IntKind.i64.bits)))))).set (Int.toNat (IntKind.i64.wrap ((IntKind.i64.wrap ((2 : Int) * (IntKind.i64.wrap (a1 + x4)))) + (1 : Int)))) (IntKind.u8.wrap (rd a2 x4)))⟩ : S_api_Addr)) := Box.setA (k := .u8) (m := 16) (x := ((arL 16 x5).set (Int.toNat (IntKind.i64.wrap ((2 : Int) * (IntKind.i64.wrap (a1 + x4))))) (IntKind.u8.wrap (Int.fdiv (rd a2 x4) (2 ^ (min (8 : Int).toNat IntKind.i64.bits)))))) ([.int .i64 a0.Size] : List Value) ([] : List Value) hb2 (by kernel_rfl) hi24 (by kernel_rfl)
   refine ae hK25 hS ?_; clear hK25 K25
   refine dn (by kernel_rfl) ?_
   refine hK9 _ _ ?_; try clear hK9 K9
   refine wp_region_lit ?_
   refine seg ha 2 [(0, .pointer (some ⟨gp0, 0, none⟩)), (1, .int .i64 a1), (8, .slice ao1 a2.length cap1), (9, .int .i64 (a2.length : Int)), (10, .int .i64 (IntKind.i64.wrap (x4 + (1 : Int))))] (by kernel_rfl) fun a ha => ?_
   exact ⟨kk, Nat.lt_succ_self _, ⟨IntKind.i64.wrap (x4 + (1 : Int)), ((arL 16 ((arL 16 x5).set (Int.toNat (IntKind.i64.wrap ((2 : Int) * (IntKind.i64.wrap (a1 + x4))))) (IntKind.u8.wrap (Int.fdiv (rd a2 x4) (2 ^ (min (8 : Int).toNat IntKind.i64.bits)))))).set (Int.toNat (IntKind.i64.wrap ((IntKind.i64.wrap ((2 : Int) * (IntKind.i64.wrap (a1 + x4)))) + (1 : Int)))) (IntKind.u8.wrap (rd a2 x4))), H, (ha.sel (by kernel_rfl)), f1, hBgp0, hC, hM⟩⟩
  ·have H := ite_f hc8 H
   refine wp_exit ?_
   simp only [Exit.then, Exit.inBlock, ↓reduceIte, Nat.reduceEqDiff]
   obtain rfl := Option.some.inj H
   exact J3 _ _ (ha.sel (by kernel_rfl)) hBgp0 hC hM
def addr_read6.f (k : Nat) (a0 : List UInt8) : Option (S_api_Addr × Bool) := (strings_Cut.f a0 ([58, 58] : List UInt8)).bind fun t7 => (addr_half.f k t7.1).bind fun t9 => (addr_half.f k t7.2.1).bind fun t12 => (if (if (if (if (!t9.2) = true then true else (!t12.2)) = true then true else (decide ((IntKind.i64.wrap ((t9.1.length : Int) + (t12.1.length : Int))) > (8 : Int)))) = true then true else (if (!t7.2.2) = true then ((t9.1.length : Int) != (8 : Int)) else false)) = true then some (((⟨(0 : Int), (List.replicate 16 (0 : Int))⟩ : S_api_Addr) : S_api_Addr), (false : Bool)) else (addr_put6.f k (⟨(16 : Int), (List.replicate 16 (0 : Int))⟩ : S_api_Addr) (0 : Int) t9.1).bind fun t24 => (addr_put6.f k t24 (IntKind.i64.wrap ((8 : Int) - (t12.1.length : Int))) t12.1).bind fun t26 => some ((t26 : S_api_Addr), (true : Bool)))
set_option maxRecDepth 100000 in
theorem addr_read6.walk (w : World) (M : List Nat) (hM : MS M w) (hG : GF w M) (a0 : List UInt8) (k : Nat) (r : S_api_Addr × Bool) (H : addr_read6.f k a0 = some r) :
    To Tryd.prog 38 [.string (bstr a0)] w fun v w' => v = .tuple #[.agg (cS_api_Addr r.1).toArray, .bool r.2] ∧ Chg [] w w' ∧ MS (M) w' := by
 unfold addr_read6.f at H
 refine ent Tryd.func38 rfl [(0, .string (bstr a0))] rfl (by rfl) fun a ha => ?_
 have hC : Chg [] w w := Chg.refl _ _
 refine wp_seq_k fun K1 hK1 => ?_
 refine wp_region_lit ?_
 refine al (cs := (cS_api_Addr (⟨(0 : Int), (List.replicate 16 (0 : Int))⟩ : S_api_Addr))) (z := .agg (cS_api_Addr (⟨(0 : Int), (List.replicate 16 (0 : Int))⟩ : S_api_Addr)).toArray) ha (fun w => by kernel_rfl) rfl rfl rfl rfl fun a w2 g3 hN4 ha => ?_
 have o1 : Ok [] (M) w.heap.size := Ok.nil _ _
 have o2 : Ok ([g3] ++ (M)) (M) w.heap.size := (Ok.app (hN4.ok _) (Ok.refl _ _))
 have hG := hG.chg hN4.chg o1 o2
 have p_i5_M : ∀ x ∈ [g3], x ∉ M := fun x hx hy => absurd (hM x (hy)) (Nat.not_lt.2 ((hN4.ge1) x hx))
 have e_i5 : ∀ x ∈ [g3], w.heap.size ≤ x := fun x hx => Nat.le_trans hC.size ((hN4.ge1) x hx)
 have hM : MS ([g3] ++ (M)) w2 := (MS.app hN4.ms (hM.chg hN4.chg))
 have hC := hC.trans hN4.chg (Ok.nil _ _)
 have hBg3 : Box w2 g3 (cS_api_Addr (⟨(0 : Int), (List.replicate 16 (0 : Int))⟩ : S_api_Addr)) := hN4.box
 refine seg ha 1 [(0, .string (bstr a0)), (2, .pointer (some ⟨g3, 0, none⟩))] (by kernel_rfl) fun a ha => ?_
 refine hK1 _ _ ?_; try clear hK1 K1
 refine wp_seq_k fun K6 hK6 => ?_
 refine wp_region_lit ?_
 refine seg ha 1 [(2, .pointer (some ⟨g3, 0, none⟩)), (12, .string (bstr a0))] (by kernel_rfl) fun a ha => ?_
 obtain ⟨t7, H7, H⟩ := bind_some H
 refine cl ha (by rfl) (by kernel_rfl) (by rfl) (by rfl) (by rfl) (strings_Cut.walk w2 _ hM hG a0 ([58, 58] : List UInt8) _ H7) ?_
 rintro _ w7 ⟨rfl, hc7, hMn⟩ a ha
 have o1 : Ok [] ([g3] ++ (M)) w2.heap.size := Ok.nil _ _
 have o2 : Ok ([g3] ++ (M)) ([g3] ++ (M)) w2.heap.size := (Ok.refl _ _)
 have hG := hG.chg hc7 o1 o2
 have hBg3 := hBg3.chg hc7 (fun h => nomatch h)
 have hM : MS ([g3] ++ (M)) w7 := (hM.chg hc7)
 have hC := hC.trans hc7 (Ok.nil _ _)
 refine seg ha 7 [(2, .pointer (some ⟨g3, 0, none⟩)), (4, .string (bstr t7.1)), (5, .string (bstr t7.2.1)), (6, .bool t7.2.2)] (by kernel_rfl) fun a ha => ?_
 refine hK6 _ _ ?_; try clear hK6 K6
 refine wp_seq_k fun K8 hK8 => ?_
 refine wp_region_lit ?_
 refine seg ha 1 [(2, .pointer (some ⟨g3, 0, none⟩)), (5, .string (bstr t7.2.1)), (6, .bool t7.2.2), (18, .string (bstr t7.1))] (by kernel_rfl) fun a ha => ?_
 obtain ⟨t9, H9, H⟩ := bind_some H
 refine cl ha (by rfl) (by kernel_rfl) (by rfl) (by rfl) (by rfl) (addr_half.walk w7 _ hM t7.1 k _ H9) ?_
 rintro _ w9 ⟨ao10, cap10, rfl, f10, ne_i10, hc9, hMn⟩ a ha
 have o1 : Ok [] ([g3] ++ (M)) w7.heap.size := Ok.nil _ _
 have o2 : Ok (blkL ao10 ++ ([g3] ++ (M))) ([g3] ++ (M)) w7.heap.size := (Ok.app (fun x h => .inr (ne_i10 x h)) (Ok.refl _ _))
 have hG := hG.chg hc9 o1 o2
 have hBg3 := hBg3.chg hc9 (fun h => nomatch h)
 have p_i10_i5 : ∀ x ∈ blkL ao10, x ∉ ([g3]) := fun x hx hy => absurd (hM x (ml hy)) (Nat.not_lt.2 (ne_i10 x hx))
 have p_i10_M : ∀ x ∈ blkL ao10, x ∉ M := fun x hx hy => absurd (hM x (mr (hy))) (Nat.not_lt.2 (ne_i10 x hx))
 have e_i10 : ∀ x ∈ blkL ao10, w.heap.size ≤ x := fun x hx => Nat.le_trans hC.size (ne_i10 x hx)
 have hM : MS (blkL ao10 ++ ([g3] ++ (M))) w9 := (MS.app (fun x h => hMn x (ml h)) (hM.chg hc9))
 have hC := hC.trans hc9 (Ok.nil _ _)
 refine seg ha 5 [(2, .pointer (some ⟨g3, 0, none⟩)), (5, .string (bstr t7.2.1)), (6, .bool t7.2.2), (7, .slice ao10 t9.1.length cap10), (8, .bool t9.2)] (by kernel_rfl) fun a ha => ?_
 refine hK8 _ _ ?_; try clear hK8 K8
 refine wp_seq_k fun K11 hK11 => ?_
 refine wp_region_lit ?_
 refine seg ha 1 [(2, .pointer (some ⟨g3, 0, none⟩)), (6, .bool t7.2.2), (7, .slice ao10 t9.1.length cap10), (8, .bool t9.2), (23, .string (bstr t7.2.1))] (by kernel_rfl) fun a ha => ?_
 obtain ⟨t12, H12, H⟩ := bind_some H
 refine cl ha (by rfl) (by kernel_rfl) (by rfl) (by rfl) (by rfl) (addr_half.walk w9 _ hM t7.2.1 k _ H12) ?_
 rintro _ w12 ⟨ao13, cap13, rfl, f13, ne_i13, hc12, hMn⟩ a ha
 have o1 : Ok [] (blkL ao10 ++ ([g3] ++ (M))) w9.heap.size := Ok.nil _ _
 have o2 : Ok (blkL ao13 ++ (blkL ao10 ++ ([g3] ++ (M)))) (blkL ao10 ++ ([g3] ++ (M))) w9.heap.size := (Ok.app (fun x h => .inr (ne_i13 x h)) (Ok.refl _ _))
 have hG := hG.chg hc12 o1 o2
 have f10 := f10.chg hc12 o1 o2 (fun _ _ h => nomatch h) (fun _ h => mr (ml h))
 have hBg3 := hBg3.chg hc12 (fun h => nomatch h)
 have p_i13_i10 : ∀ x ∈ blkL ao13, x ∉ (blkL ao10) := fun x hx hy => absurd (hM x (ml hy)) (Nat.not_lt.2 (ne_i13 x hx))
 have p_i13_i5 : ∀ x ∈ blkL ao13, x ∉ ([g3]) := fun x hx hy => absurd (hM x (mr (ml hy))) (Nat.not_lt.2 (ne_i13 x hx))
 have p_i13_M : ∀ x ∈ blkL ao13, x ∉ M := fun x hx hy => absurd (hM x (mr (mr (hy)))) (Nat.not_lt.2 (ne_i13 x hx))
 have e_i13 : ∀ x ∈ blkL ao13, w.heap.size ≤ x := fun x hx => Nat.le_trans hC.size (ne_i13 x hx)
 have hM : MS (blkL ao13 ++ (blkL ao10 ++ ([g3] ++ (M)))) w12 := (MS.app (fun x h => hMn x (ml h)) (hM.chg hc12))
 have hC := hC.trans hc12 (Ok.nil _ _)
 refine seg ha 5 [(2, .pointer (some ⟨g3, 0, none⟩)), (6, .bool t7.2.2), (7, .slice ao10 t9.1.length cap10), (8, .bool t9.2), (9, .slice ao13 t12.1.length cap13), (10, .bool t12.2)] (by kernel_rfl) fun a ha => ?_
 refine hK11 _ _ ?_; try clear hK11 K11
 refine wp_seq_k fun K14 hK14 => ?_
 refine wp_seq_k fun K15 hK15 => ?_
 refine wp_region_lit ?_
 refine seg ha 23 [(2, .pointer (some ⟨g3, 0, none⟩)), (7, .slice ao10 t9.1.length cap10), (9, .slice ao13 t12.1.length cap13), (49, .bool (if (if (if (!t9.2) = true then true else (!t12.2)) = true then true else (decide ((IntKind.i64.wrap ((t9.1.length : Int) + (t12.1.length : Int))) > (8 : Int)))) = true then true else (if (!t7.2.2) = true then ((t9.1.length : Int) != (8 : Int)) else false)))] (by kernel_rfl) fun a ha => ?_
 refine hK15 _ _ ?_; try clear hK15 K15
 refine cnd ha rfl (fun hc16 => ?_) (fun hc16 => ?_)
 ·have H := ite_t hc16 H
  refine wp_seq_k fun K17 hK17 => ?_
  refine wp_region_lit ?_
  refine ldA (cs := (cS_api_Addr (⟨(0 : Int), (List.replicate 16 (0 : Int))⟩ : S_api_Addr))) ha rfl (by kernel_rfl) rfl rfl rfl (cells_sub (Box.cells hBg3) (all := (cS_api_Addr (⟨(0 : Int), (List.replicate 16 (0 : Int))⟩ : S_api_Addr))) [] [] (by kernel_rfl)) fun a ha => ?_
  refine stA (l := (cS_api_Addr (⟨(0 : Int), (List.replicate 16 (0 : Int))⟩ : S_api_Addr))) ha rfl rfl rfl (by kernel_rfl) rfl rfl hBg3 rfl fun a w18 ha hb2 hc19 _ => ?_
  have o1 : Ok [g3] (blkL ao13 ++ (blkL ao10 ++ ([g3] ++ (M)))) w12.heap.size := (fun _ h => .inl (mr (mr (ml h))))
  have o2 : Ok (blkL ao13 ++ (blkL ao10 ++ ([g3] ++ (M)))) (blkL ao13 ++ (blkL ao10 ++ ([g3] ++ (M)))) w12.heap.size := (Ok.refl _ _)
  have hG := hG.chg hc19 o1 o2
  have hM : MS (blkL ao13 ++ (blkL ao10 ++ ([g3] ++ (M)))) w18 := (hM.chg hc19)
  have hC := hC.trans hc19 (fun x h => .inr (e_i5 x h))
  have hBg3 : Box w18 g3 (cS_api_Addr (⟨(0 : Int), (List.replicate 16 (0 : Int))⟩ : S_api_Addr)) := hb2
  refine seg ha 1 [(2, .pointer (some ⟨g3, 0, none⟩)), (3, .bool false)] (by kernel_rfl) fun a ha => ?_
  refine hK17 _ _ ?_; try clear hK17 K17
  refine wp_ret ?_
  try simp only [Exit.then, Exit.inBlock]
  have o1 : Ok [] (blkL ao13 ++ (blkL ao10 ++ ([g3] ++ (M)))) w18.heap.size := Ok.nil _ _
  have o2 : Ok (M) (blkL ao13 ++ (blkL ao10 ++ ([g3] ++ (M)))) w18.heap.size := (fun _ h => .inl (mr (mr (mr (h)))))
  have hG := hG.chg (Chg.refl [] _) o1 o2
  have hBg3 := hBg3.chg (Chg.refl [] _) (fun h => nomatch h)
  have hM : MS (M) w18 := (fun x h => hM.chg (Chg.refl [] _) x (mr (mr (mr (h)))))
  have hC := hC.trans (Chg.refl [] _) (Ok.nil _ _)
  obtain rfl := Option.some.inj H
  refine rtr ha (res2 rfl (roA ha rfl hBg3 (by kernel_rfl)) (roT ha rfl)) ?_
  exact ⟨rfl, hC, hM⟩
 ·have H := ite_f hc16 H
  refine wp_skip ?_
  refine hK14 _ _ ?_; try clear hK14 K14
  refine wp_seq_k fun K20 hK20 => ?_
  refine wp_region_lit ?_
  refine seg ha 1 [(2, .pointer (some ⟨g3, 0, none⟩)), (7, .slice ao10 t9.1.length cap10), (9, .slice ao13 t12.1.length cap13), (51, .pointer (some ⟨g3, 0, none⟩))] (by kernel_rfl) fun a ha => ?_
  refine st ha rfl rfl rfl (by kernel_rfl) rfl rfl hBg3 (Nat.le_of_ble_eq_true (by kernel_rfl)) fun a w21 ha hb2 hc22 _ => ?_
  have o1 : Ok [g3] (blkL ao13 ++ (blkL ao10 ++ ([g3] ++ (M)))) w12.heap.size := (fun _ h => .inl (mr (mr (ml h))))
  have o2 : Ok (blkL ao13 ++ (blkL ao10 ++ ([g3] ++ (M)))) (blkL ao13 ++ (blkL ao10 ++ ([g3] ++ (M)))) w12.heap.size := (Ok.refl _ _)
  have hG := hG.chg hc22 o1 o2
  have f10 := f10.chg hc22 o1 o2 p_i10_i5 (fun _ h => mr (ml h))
  have f13 := f13.chg hc22 o1 o2 p_i13_i5 (fun _ h => ml h)
  have hM : MS (blkL ao13 ++ (blkL ao10 ++ ([g3] ++ (M)))) w21 := (hM.chg hc22)
  have hC := hC.trans hc22 (fun x h => .inr (e_i5 x h))
  have hBg3 : Box w21 g3 (cS_api_Addr (⟨(16 : Int), (List.replicate 16 (0 : Int))⟩ : S_api_Addr)) := hb2
  refine hK20 _ _ ?_; try clear hK20 K20
  refine wp_seq_k fun K23 hK23 => ?_
  refine wp_region_lit ?_
  refine seg ha 1 [(2, .pointer (some ⟨g3, 0, none⟩)), (9, .slice ao13 t12.1.length cap13), (52, .slice ao10 t9.1.length cap10)] (by kernel_rfl) fun a ha => ?_
  have hML : MS (blkL ao13 ++ ([g3] ++ (M))) w21 := MS.rest hM (fun _ h => (List.mem_append.1 h).elim (fun h => ml h) (fun h => (List.mem_append.1 h).elim (fun h => mr (mr (ml h))) (fun h => mr (mr (mr (h))))))
  have oL : Ok (blkL ao13 ++ ([g3] ++ (M))) (blkL ao13 ++ (blkL ao10 ++ ([g3] ++ (M)))) w21.heap.size := (Ok.app (fun _ h => .inl (ml h)) (fun _ h => .inl (mr (mr (h)))))
  obtain ⟨t24, H24, H⟩ := bind_some H
  refine cl ha (by rfl) (by kernel_rfl) (by rfl) (by rfl) (by rfl) (addr_put6.walk w21 _ hML g3 (⟨(16 : Int), (List.replicate 16 (0 : Int))⟩ : S_api_Addr) hBg3 (mr (ml (List.mem_singleton.2 rfl))) (0 : Int) t9.1 ao10 cap10 (Own.toRSl (M' := blkL ao13 ++ ([g3] ++ (M))) f10 oL (fun x hx hm => (List.mem_append.1 hm).elim (fun h => (fun x hx hy => p_i13_i10 x hy hx) x hx h) (fun h => (List.mem_append.1 h).elim (fun h => p_i10_i5 x hx h) (fun h => p_i10_M x hx h)))) k _ H24) ?_
  rintro _ w24 ⟨rfl, qhBg3, hc24, hMn⟩ a ha
  have o1 : Ok [g3] (blkL ao13 ++ (blkL ao10 ++ ([g3] ++ (M)))) w21.heap.size := (fun _ h => .inl (mr (mr (ml h))))
  have o2 : Ok (blkL ao13 ++ (blkL ao10 ++ ([g3] ++ (M)))) (blkL ao13 ++ (blkL ao10 ++ ([g3] ++ (M)))) w21.heap.size := (Ok.refl _ _)
  have hG := hG.chg hc24 o1 o2
  have f13 := f13.chg hc24 o1 o2 p_i13_i5 (fun _ h => ml h)
  have f10 := f10.chg hc24 o1 o2 p_i10_i5 (fun _ h => mr (ml h))
  have hM : MS (blkL ao13 ++ (blkL ao10 ++ ([g3] ++ (M)))) w24 := (hM.chg hc24)
  have hC := hC.trans hc24 (fun x h => .inr (e_i5 x h))
  have hBg3 := qhBg3
  refine hK23 _ _ ?_; try clear hK23 K23
  refine wp_seq_k fun K25 hK25 => ?_
  refine wp_region_lit ?_
  refine seg ha 4 [(2, .pointer (some ⟨g3, 0, none⟩)), (56, .int .i64 (IntKind.i64.wrap ((8 : Int) - (t12.1.length : Int)))), (57, .slice ao13 t12.1.length cap13)] (by kernel_rfl) fun a ha => ?_
  have hML : MS (blkL ao10 ++ ([g3] ++ (M))) w24 := MS.rest hM (fun _ h => (List.mem_append.1 h).elim (fun h => mr (ml h)) (fun h => (List.mem_append.1 h).elim (fun h => mr (mr (ml h))) (fun h => mr (mr (mr (h))))))
  have oL : Ok (blkL ao10 ++ ([g3] ++ (M))) (blkL ao13 ++ (blkL ao10 ++ ([g3] ++ (M)))) w24.heap.size := (fun _ h => .inl (mr (h)))
  obtain ⟨t26, H26, H⟩ := bind_some H
  refine cl ha (by rfl) (by kernel_rfl) (by rfl) (by rfl) (by rfl) (addr_put6.walk w24 _ hML g3 t24 hBg3 (mr (ml (List.mem_singleton.2 rfl))) (IntKind.i64.wrap ((8 : Int) - (t12.1.length : Int))) t12.1 ao13 cap13 (Own.toRSl (M' := blkL ao10 ++ ([g3] ++ (M))) f13 oL (fun x hx hm => (List.mem_append.1 hm).elim (fun h => p_i13_i10 x hx h) (fun h => (List.mem_append.1 h).elim (fun h => p_i13_i5 x hx h) (fun h => p_i13_M x hx h)))) k _ H26) ?_
  rintro _ w26 ⟨rfl, qhBg3, hc26, hMn⟩ a ha
  have o1 : Ok [g3] (blkL ao13 ++ (blkL ao10 ++ ([g3] ++ (M)))) w24.heap.size := (fun _ h => .inl (mr (mr (ml h))))
  have o2 : Ok (blkL ao13 ++ (blkL ao10 ++ ([g3] ++ (M)))) (blkL ao13 ++ (blkL ao10 ++ ([g3] ++ (M)))) w24.heap.size := (Ok.refl _ _)
  have hG := hG.chg hc26 o1 o2
  have f13 := f13.chg hc26 o1 o2 p_i13_i5 (fun _ h => ml h)
  have hM : MS (blkL ao13 ++ (blkL ao10 ++ ([g3] ++ (M)))) w26 := (hM.chg hc26)
  have hC := hC.trans hc26 (fun x h => .inr (e_i5 x h))
  have hBg3 := qhBg3
  refine hK25 _ _ ?_; try clear hK25 K25
  refine wp_seq_k fun K27 hK27 => ?_
  refine wp_region_lit ?_
  refine ldA (cs := (cS_api_Addr t26)) ha rfl (by kernel_rfl) rfl rfl rfl (cells_sub (Box.cells hBg3) (all := (cS_api_Addr t26)) [] [] (by kernel_rfl)) fun a ha => ?_
  refine stA (l := (cS_api_Addr t26)) ha rfl rfl rfl (by kernel_rfl) rfl rfl hBg3 rfl fun a w28 ha hb2 hc29 _ => ?_
  have o1 : Ok [g3] (blkL ao13 ++ (blkL ao10 ++ ([g3] ++ (M)))) w26.heap.size := (fun _ h => .inl (mr (mr (ml h))))
  have o2 : Ok (blkL ao13 ++ (blkL ao10 ++ ([g3] ++ (M)))) (blkL ao13 ++ (blkL ao10 ++ ([g3] ++ (M)))) w26.heap.size := (Ok.refl _ _)
  have hG := hG.chg hc29 o1 o2
  have hM : MS (blkL ao13 ++ (blkL ao10 ++ ([g3] ++ (M)))) w28 := (hM.chg hc29)
  have hC := hC.trans hc29 (fun x h => .inr (e_i5 x h))
  have hBg3 : Box w28 g3 (cS_api_Addr t26) := hb2
  refine seg ha 1 [(2, .pointer (some ⟨g3, 0, none⟩)), (3, .bool true)] (by kernel_rfl) fun a ha => ?_
  refine hK27 _ _ ?_; try clear hK27 K27
  refine wp_ret ?_
  try simp only [Exit.then, Exit.inBlock]
  have o1 : Ok [] (blkL ao13 ++ (blkL ao10 ++ ([g3] ++ (M)))) w28.heap.size := Ok.nil _ _
  have o2 : Ok (M) (blkL ao13 ++ (blkL ao10 ++ ([g3] ++ (M)))) w28.heap.size := (fun _ h => .inl (mr (mr (mr (h)))))
  have hG := hG.chg (Chg.refl [] _) o1 o2
  have hBg3 := hBg3.chg (Chg.refl [] _) (fun h => nomatch h)
  have hM : MS (M) w28 := (fun x h => hM.chg (Chg.refl [] _) x (mr (mr (mr (h)))))
  have hC := hC.trans (Chg.refl [] _) (Ok.nil _ _)
  obtain rfl := Option.some.inj H
  refine rtr ha (res2 rfl (roA ha rfl hBg3 (by kernel_rfl)) (roT ha rfl)) ?_
  exact ⟨rfl, hC, hM⟩
def bytes_trimRightByte.l0 (a1 : Int) : Nat → (List Int) → Option (List Int)
  | 0, _ => none
  | kk + 1, x6 => ((if (decide ((x6.length : Int) > (0 : Int))) = true then (if 0 ≤ (IntKind.i64.wrap ((x6.length : Int) - (1 : Int))) ∧ (IntKind.i64.wrap ((x6.length : Int) - (1 : Int))) < (x6.length : Int) then some ((rd x6 (IntKind.i64.wrap ((x6.length : Int) - (1 : Int)))) == a1 : Bool) else none) else some (false : Bool))).bind fun s11 => (if s11 = true then (if 0 ≤ (0 : Int) ∧ (0 : Int) ≤ (IntKind.i64.wrap ((x6.length : Int) - (1 : Int))) ∧ (IntKind.i64.wrap ((x6.length : Int) - (1 : Int))) ≤ (x6.length : Int) then bytes_trimRightByte.l0 a1 kk ((x6.take (Int.toNat (IntKind.i64.wrap ((x6.length : Int) - (1 : Int))))).drop (Int.toNat (0 : Int))) else none) else some (x6 : List Int))
def bytes_trimRightByte.f (k : Nat) (a0 : List Int) (a1 : Int) : Option (List Int) := (bytes_trimRightByte.l0 a1 k a0).bind fun s4 => some ((s4 : List Int))
set_option maxRecDepth 100000 in
theorem bytes_trimRightByte.walk (w : World) (M : List Nat) (hM : MS M w) (a0 : List Int) (ao1 : Option Addr) (cap1 : Nat) (f1 : RSl (rInt .u8) 5 w M ao1 cap1 a0) (a1 : Int) (k : Nat) (r : List Int) (H : bytes_trimRightByte.f k a0 a1 = some r) :
    To Tryd.prog 72 [.slice ao1 a0.length cap1, .int .u8 a1] w fun v w' => ∃ (ao23 : Option Addr) (cap23 : Nat), v = .slice ao23 r.length cap23 ∧ (RSl (rInt .u8) 5 w' (M) ao23 cap23 r) ∧ Chg [] w w' ∧ MS (M) w' := by
 unfold bytes_trimRightByte.f at H
 refine ent Tryd.func72 rfl [(0, .slice ao1 a0.length cap1), (1, .int .u8 a1)] rfl (by rfl) fun a ha => ?_
 have hC : Chg [] w w := Chg.refl _ _
 refine wp_seq_k fun K2 hK2 => ?_
 refine wp_region_lit ?_
 refine seg ha 1 [(0, .slice ao1 a0.length cap1), (1, .int .u8 a1)] (by kernel_rfl) fun a ha => ?_
 refine hK2 _ _ ?_; try clear hK2 K2
 refine wp_seq_k fun K3 hK3 => ?_
 refine wp_block ?_
 obtain ⟨s4, H4, H⟩ := bind_some H
 have J4 : ∀ (a : Act) (wx4 : World) (ao7 : Option Addr) (cap7 : Nat), Has a Tryd.f72.ntmps [(0, .slice ao7 s4.length cap7)] → (RSl (rInt .u8) 5 wx4 (M) ao7 cap7 s4) → (Chg [] w wx4) → (MS (M) wx4) → K3 a wx4 := by
  intro a wx4 ao7 cap7 ha f7 hC hM
  refine hK3 _ _ ?_; try clear hK3 K3
  refine wp_seq_k fun K8 hK8 => ?_
  refine wp_region_lit ?_
  refine seg ha 2 [(4, .slice ao7 s4.length cap7)] (by kernel_rfl) fun a ha => ?_
  refine hK8 _ _ ?_; try clear hK8 K8
  refine wp_ret ?_
  try simp only [Exit.then, Exit.inBlock]
  obtain rfl := Option.some.inj H
  refine rt1 ha rfl rfl ?_
  exact ⟨ao7, cap7, rfl, f7, hC, hM⟩
 have Hc4 := H
 have H := H4
 refine wp_loop_ghost (fun kk a w4 => ∃ (x6 : List Int) (ao5 : Option Addr) (cap5 : Nat), bytes_trimRightByte.l0 a1 kk x6 = some s4 ∧ Has a Tryd.f72.ntmps [(0, .slice ao5 x6.length cap5), (1, .int .u8 a1)] ∧ (RSl (rInt .u8) 5 w4 (M) ao5 cap5 x6) ∧ (Chg [] w w4) ∧ (MS (M) w4)) k ?_ ?_
 ·skip
  exact ⟨a0, ao1, cap1, H, (ha.sel (by kernel_rfl)), f1, hC, hM⟩
 ·rintro kk a w4 ⟨x6, ao5, cap5, H, ha, f5, hC, hM⟩
  obtain _ | kk := kk
  ·exact nomatch (show none = some _ from H)
  rw [bytes_trimRightByte.l0] at H
  refine wp_seq_k fun K9 hK9 => ?_
  refine wp_seq_k fun K10 hK10 => ?_
  refine wp_region_lit ?_
  obtain ⟨s11, H11, H⟩ := bind_some H
  have J11 : ∀ (a : Act) (w11 : World), Has a Tryd.f72.ntmps [(0, .slice ao5 x6.length cap5), (1, .int .u8 a1), (17, .bool s11)] → (RSl (rInt .u8) 5 w11 (M) ao5 cap5 x6) → (Chg [] w w11) → (MS (M) w11) → K10 a w11 := by
   intro a w11 ha f5 hC hM
   refine hK10 _ _ ?_; try clear hK10 K10
   refine cnd ha rfl (fun hc12 => ?_) (fun hc12 => ?_)
   ·have H := ite_t hc12 H
    refine wp_skip ?_
    refine hK9 _ _ ?_; try clear hK9 K9
    refine wp_block ?_
    refine wp_region_lit ?_
    refine seg ha 4 [(1, .int .u8 a1), (18, .slice ao5 x6.length cap5), (21, .int .i64 (IntKind.i64.wrap ((x6.length : Int) - (1 : Int))))] (by kernel_rfl) fun a ha => ?_
    obtain ⟨⟨hx13, hx13', hx13''⟩, H⟩ := ite_some H
    refine slc (r := (rInt .u8)) (l := (0 : Int)) (h := (IntKind.i64.wrap ((x6.length : Int) - (1 : Int)))) ha (by kernel_rfl) (by kernel_rfl) rfl rfl rfl rfl rfl rfl f5 hx13 hx13' hx13'' fun a ao14 cap14 f14 ha => ?_
    refine seg ha 1 [(0, .slice ao14 ((x6.take (Int.toNat (IntKind.i64.wrap ((x6.length : Int) - (1 : Int))))).drop (Int.toNat (0 : Int))).length cap14), (1, .int .u8 a1)] (by kernel_rfl) fun a ha => ?_
    exact ⟨kk, Nat.lt_succ_self _, ⟨((x6.take (Int.toNat (IntKind.i64.wrap ((x6.length : Int) - (1 : Int))))).drop (Int.toNat (0 : Int))), ao14, cap14, H, (ha.sel (by kernel_rfl)), f14, hC, hM⟩⟩
   ·have H := ite_f hc12 H
    refine wp_exit ?_
    simp only [Exit.then, Exit.inBlock, ↓reduceIte, Nat.reduceEqDiff]
    obtain rfl := Option.some.inj H
    exact J4 _ _ ao5 cap5 (ha.sel (by kernel_rfl)) f5 hC hM
  have H := H11
  refine seg ha 4 [(8, .bool (decide ((x6.length : Int) > (0 : Int)))), (0, .slice ao5 x6.length cap5), (1, .int .u8 a1)] (by kernel_rfl) fun a ha => ?_
  rcases Bool.eq_false_or_eq_true (decide ((x6.length : Int) > (0 : Int))) with hb15 | hb15
  ·have ha := ha.lit hb15
   have H := ite_t hb15 H
   refine sgh ha 4 [2, 2, 2, 2] [(0, .slice ao5 x6.length cap5), (1, .int .u8 a1), (8, .bool true), (9, .slice ao5 x6.length cap5), (12, .int .i64 (IntKind.i64.wrap ((x6.length : Int) - (1 : Int))))] (by kernel_rfl) fun a ha => ?_
   obtain ⟨⟨hx16, hx16'⟩, H⟩ := ite_some H
   refine ix (r := (rInt .u8)) ha (by kernel_rfl) (by kernel_rfl) rfl rfl rfl rfl rfl f5 hx16 hx16' fun a ge17 oe18 cs19 hn22 hR20 hE21 ha => ?_
   rw [rd_get] at hR20
   obtain rfl := hR20
   have hE21 : ∀ j v, ([.int .u8 (rd x6 (IntKind.i64.wrap ((x6.length : Int) - (1 : Int))))] : List Value)[j]? = some v → w4.cell? ⟨ge17, oe18 + j, none⟩ = some v := hE21
   refine ld ha rfl (by kernel_rfl) rfl rfl rfl (hE21 0 (.int .u8 (rd x6 (IntKind.i64.wrap ((x6.length : Int) - (1 : Int))))) (by kernel_rfl)) fun a ha => ?_
   refine sgh ha 3 [2, 2, 3] [(0, .slice ao5 x6.length cap5), (1, .int .u8 a1), (17, .bool ((rd x6 (IntKind.i64.wrap ((x6.length : Int) - (1 : Int)))) == a1))] (by kernel_rfl) fun a ha => ?_
   obtain rfl := Option.some.inj H
   exact J11 _ _ (ha.sel (by kernel_rfl)) f5 hC hM
  ·have ha := ha.lit hb15
   have H := ite_f hb15 H
   refine sgh ha 9 [1, 1, 1, 1, 1, 1, 1, 1, 4] [(0, .slice ao5 x6.length cap5), (1, .int .u8 a1), (17, .bool false)] (by kernel_rfl) fun a ha => ?_
   obtain rfl := Option.some.inj H
   exact J11 _ _ (ha.sel (by kernel_rfl)) f5 hC hM
def bytes_trimLeftByte.l0 (a1 : Int) : Nat → (List Int) → Option (List Int)
  | 0, _ => none
  | kk + 1, x6 => ((if (decide ((x6.length : Int) > (0 : Int))) = true then (if 0 ≤ (0 : Int) ∧ (0 : Int) < (x6.length : Int) then some ((rd x6 (0 : Int)) == a1 : Bool) else none) else some (false : Bool))).bind fun s15 => (if s15 = true then (if 0 ≤ (1 : Int) ∧ (1 : Int) ≤ (x6.length : Int) ∧ (x6.length : Int) ≤ (x6.length : Int) then bytes_trimLeftByte.l0 a1 kk ((x6.take (Int.toNat (x6.length : Int))).drop (Int.toNat (1 : Int))) else none) else some (x6 : List Int))
def bytes_trimLeftByte.f (k : Nat) (a0 : List Int) (a1 : Int) : Option (List Int) := (bytes_trimLeftByte.l0 a1 k a0).bind fun s4 => (if ((s4.length : Int) == (0 : Int)) = true then some ((([] : List Int) : List Int)) else some ((s4 : List Int)))
set_option maxRecDepth 100000 in
theorem bytes_trimLeftByte.walk (w : World) (M : List Nat) (hM : MS M w) (a0 : List Int) (ao1 : Option Addr) (cap1 : Nat) (f1 : RSl (rInt .u8) 5 w M ao1 cap1 a0) (a1 : Int) (k : Nat) (r : List Int) (H : bytes_trimLeftByte.f k a0 a1 = some r) :
    To Tryd.prog 71 [.slice ao1 a0.length cap1, .int .u8 a1] w fun v w' => ∃ (ao27 : Option Addr) (cap27 : Nat), v = .slice ao27 r.length cap27 ∧ (RSl (rInt .u8) 5 w' (M) ao27 cap27 r) ∧ Chg [] w w' ∧ MS (M) w' := by
 unfold bytes_trimLeftByte.f at H
 refine ent Tryd.func71 rfl [(0, .slice ao1 a0.length cap1), (1, .int .u8 a1)] rfl (by rfl) fun a ha => ?_
 have hC : Chg [] w w := Chg.refl _ _
 refine wp_seq_k fun K2 hK2 => ?_
 refine wp_region_lit ?_
 refine seg ha 1 [(0, .slice ao1 a0.length cap1), (1, .int .u8 a1)] (by kernel_rfl) fun a ha => ?_
 refine hK2 _ _ ?_; try clear hK2 K2
 refine wp_seq_k fun K3 hK3 => ?_
 refine wp_block ?_
 obtain ⟨s4, H4, H⟩ := bind_some H
 have J4 : ∀ (a : Act) (wx4 : World) (ao7 : Option Addr) (cap7 : Nat), Has a Tryd.f71.ntmps [(0, .slice ao7 s4.length cap7)] → (RSl (rInt .u8) 5 wx4 (M) ao7 cap7 s4) → (Chg [] w wx4) → (MS (M) wx4) → K3 a wx4 := by
  intro a wx4 ao7 cap7 ha f7 hC hM
  refine hK3 _ _ ?_; try clear hK3 K3
  refine wp_seq_k fun K8 hK8 => ?_
  refine wp_seq_k fun K9 hK9 => ?_
  refine wp_region_lit ?_
  refine seg ha 3 [(0, .slice ao7 s4.length cap7), (19, .bool ((s4.length : Int) == (0 : Int)))] (by kernel_rfl) fun a ha => ?_
  refine hK9 _ _ ?_; try clear hK9 K9
  refine cnd ha rfl (fun hc10 => ?_) (fun hc10 => ?_)
  ·have H := ite_t hc10 H
   refine wp_seq_k fun K11 hK11 => ?_
   refine wp_region_lit ?_
   refine seg ha 1 [(4, .slice none 0 0)] (by kernel_rfl) fun a ha => ?_
   refine hK11 _ _ ?_; try clear hK11 K11
   refine wp_ret ?_
   try simp only [Exit.then, Exit.inBlock]
   obtain rfl := Option.some.inj H
   refine rt1 ha rfl rfl ?_
   exact ⟨none, 0, rfl, (RSl.nil (Nat.zero_le _)), hC, hM⟩
  ·have H := ite_f hc10 H
   refine wp_skip ?_
   refine hK8 _ _ ?_; try clear hK8 K8
   refine wp_seq_k fun K12 hK12 => ?_
   refine wp_region_lit ?_
   refine seg ha 2 [(4, .slice ao7 s4.length cap7)] (by kernel_rfl) fun a ha => ?_
   refine hK12 _ _ ?_; try clear hK12 K12
   refine wp_ret ?_
   try simp only [Exit.then, Exit.inBlock]
   obtain rfl := Option.some.inj H
   refine rt1 ha rfl rfl ?_
   exact ⟨ao7, cap7, rfl, f7, hC, hM⟩
 have Hc4 := H
 have H := H4
 refine wp_loop_ghost (fun kk a w4 => ∃ (x6 : List Int) (ao5 : Option Addr) (cap5 : Nat), bytes_trimLeftByte.l0 a1 kk x6 = some s4 ∧ Has a Tryd.f71.ntmps [(0, .slice ao5 x6.length cap5), (1, .int .u8 a1)] ∧ (RSl (rInt .u8) 5 w4 (M) ao5 cap5 x6) ∧ (Chg [] w w4) ∧ (MS (M) w4)) k ?_ ?_
 ·skip
  exact ⟨a0, ao1, cap1, H, (ha.sel (by kernel_rfl)), f1, hC, hM⟩
 ·rintro kk a w4 ⟨x6, ao5, cap5, H, ha, f5, hC, hM⟩
  obtain _ | kk := kk
  ·exact nomatch (show none = some _ from H)
  rw [bytes_trimLeftByte.l0] at H
  refine wp_seq_k fun K13 hK13 => ?_
  refine wp_seq_k fun K14 hK14 => ?_
  refine wp_region_lit ?_
  obtain ⟨s15, H15, H⟩ := bind_some H
  have J15 : ∀ (a : Act) (w15 : World), Has a Tryd.f71.ntmps [(0, .slice ao5 x6.length cap5), (1, .int .u8 a1), (14, .bool s15)] → (RSl (rInt .u8) 5 w15 (M) ao5 cap5 x6) → (Chg [] w w15) → (MS (M) w15) → K14 a w15 := by
   intro a w15 ha f5 hC hM
   refine hK14 _ _ ?_; try clear hK14 K14
   refine cnd ha rfl (fun hc16 => ?_) (fun hc16 => ?_)
   ·have H := ite_t hc16 H
    refine wp_skip ?_
    refine hK13 _ _ ?_; try clear hK13 K13
    refine wp_block ?_
    refine wp_region_lit ?_
    refine seg ha 1 [(1, .int .u8 a1), (15, .slice ao5 x6.length cap5)] (by kernel_rfl) fun a ha => ?_
    obtain ⟨⟨hx17, hx17', hx17''⟩, H⟩ := ite_some H
    refine slc (r := (rInt .u8)) (l := (1 : Int)) (h := (x6.length : Int)) ha (by kernel_rfl) (by kernel_rfl) rfl rfl rfl rfl rfl rfl f5 hx17 hx17' hx17'' fun a ao18 cap18 f18 ha => ?_
    refine seg ha 1 [(0, .slice ao18 ((x6.take (Int.toNat (x6.length : Int))).drop (Int.toNat (1 : Int))).length cap18), (1, .int .u8 a1)] (by kernel_rfl) fun a ha => ?_
    exact ⟨kk, Nat.lt_succ_self _, ⟨((x6.take (Int.toNat (x6.length : Int))).drop (Int.toNat (1 : Int))), ao18, cap18, H, (ha.sel (by kernel_rfl)), f18, hC, hM⟩⟩
   ·have H := ite_f hc16 H
    refine wp_exit ?_
    simp only [Exit.then, Exit.inBlock, ↓reduceIte, Nat.reduceEqDiff]
    obtain rfl := Option.some.inj H
    exact J4 _ _ ao5 cap5 (ha.sel (by kernel_rfl)) f5 hC hM
  have H := H15
  refine seg ha 4 [(8, .bool (decide ((x6.length : Int) > (0 : Int)))), (0, .slice ao5 x6.length cap5), (1, .int .u8 a1)] (by kernel_rfl) fun a ha => ?_
  rcases Bool.eq_false_or_eq_true (decide ((x6.length : Int) > (0 : Int))) with hb19 | hb19
  ·have ha := ha.lit hb19
   have H := ite_t hb19 H
   refine sgh ha 1 [2] [(0, .slice ao5 x6.length cap5), (1, .int .u8 a1), (8, .bool true), (9, .slice ao5 x6.length cap5)] (by kernel_rfl) fun a ha => ?_
   obtain ⟨⟨hx20, hx20'⟩, H⟩ := ite_some H
   refine ix (r := (rInt .u8)) ha (by kernel_rfl) (by kernel_rfl) rfl rfl rfl rfl rfl f5 hx20 hx20' fun a ge21 oe22 cs23 hn26 hR24 hE25 ha => ?_
   rw [rd_get] at hR24
   obtain rfl := hR24
   have hE25 : ∀ j v, ([.int .u8 (rd x6 (0 : Int))] : List Value)[j]? = some v → w4.cell? ⟨ge21, oe22 + j, none⟩ = some v := hE25
   refine ld ha rfl (by kernel_rfl) rfl rfl rfl (hE25 0 (.int .u8 (rd x6 (0 : Int))) (by kernel_rfl)) fun a ha => ?_
   refine sgh ha 3 [2, 2, 3] [(0, .slice ao5 x6.length cap5), (1, .int .u8 a1), (14, .bool ((rd x6 (0 : Int)) == a1))] (by kernel_rfl) fun a ha => ?_
   obtain rfl := Option.some.inj H
   exact J15 _ _ (ha.sel (by kernel_rfl)) f5 hC hM
  ·have ha := ha.lit hb19
   have H := ite_f hb19 H
   refine sgh ha 6 [1, 1, 1, 1, 1, 4] [(0, .slice ao5 x6.length cap5), (1, .int .u8 a1), (14, .bool false)] (by kernel_rfl) fun a ha => ?_
   obtain rfl := Option.some.inj H
   exact J15 _ _ (ha.sel (by kernel_rfl)) f5 hC hM
def bytes_Trim.f (k : Nat) (a0 : List Int) (a1 : List UInt8) : Option (List Int) := (if ((a0.length : Int) == (0 : Int)) = true then some ((([] : List Int) : List Int)) else (if ((bstr a1).toList == (bstr ([] : List UInt8)).toList) = true then some ((a0 : List Int)) else ((if (((bstr a1).size : Int) == (1 : Int)) = true then (if 0 ≤ (0 : Int) ∧ (0 : Int) < (a1.length : Int) then some (decide (((a1.getD (Int.toNat (0 : Int)) 0).toNat : Int) < (128 : Int)) : Bool) else none) else some (false : Bool))).bind fun s13 => (if s13 = true then (if 0 ≤ (0 : Int) ∧ (0 : Int) < (a1.length : Int) then (if 0 ≤ (0 : Int) ∧ (0 : Int) < (a1.length : Int) then (bytes_trimRightByte.f k a0 ((a1.getD (Int.toNat (0 : Int)) 0).toNat : Int)).bind fun t21 => (bytes_trimLeftByte.f k t21 ((a1.getD (Int.toNat (0 : Int)) 0).toNat : Int)).bind fun t24 => some ((t24 : List Int)) else none) else none) else none)))
set_option maxRecDepth 100000 in
theorem bytes_Trim.walk (w : World) (M : List Nat) (hM : MS M w) (a0 : List Int) (ao1 : Option Addr) (cap1 : Nat) (f1 : RSl (rInt .u8) 5 w M ao1 cap1 a0) (a1 : List UInt8) (k : Nat) (r : List Int) (H : bytes_Trim.f k a0 a1 = some r) :
    To Tryd.prog 53 [.slice ao1 a0.length cap1, .string (bstr a1)] w fun v w' => ∃ (ao28 : Option Addr) (cap28 : Nat), v = .slice ao28 r.length cap28 ∧ (RSl (rInt .u8) 5 w' (M) ao28 cap28 r) ∧ Chg [] w w' ∧ MS (M) w' := by
 unfold bytes_Trim.f at H
 refine ent Tryd.func53 rfl [(0, .slice ao1 a0.length cap1), (1, .string (bstr a1))] rfl (by rfl) fun a ha => ?_
 have hC : Chg [] w w := Chg.refl _ _
 refine wp_seq_k fun K2 hK2 => ?_
 refine wp_region_lit ?_
 refine seg ha 1 [(0, .slice ao1 a0.length cap1), (1, .string (bstr a1))] (by kernel_rfl) fun a ha => ?_
 refine hK2 _ _ ?_; try clear hK2 K2
 refine wp_seq_k fun K3 hK3 => ?_
 refine wp_seq_k fun K4 hK4 => ?_
 refine wp_region_lit ?_
 refine seg ha 3 [(0, .slice ao1 a0.length cap1), (1, .string (bstr a1)), (9, .bool ((a0.length : Int) == (0 : Int)))] (by kernel_rfl) fun a ha => ?_
 refine hK4 _ _ ?_; try clear hK4 K4
 refine cnd ha rfl (fun hc5 => ?_) (fun hc5 => ?_)
 ·have H := ite_t hc5 H
  refine wp_seq_k fun K6 hK6 => ?_
  refine wp_region_lit ?_
  refine seg ha 1 [(4, .slice none 0 0)] (by kernel_rfl) fun a ha => ?_
  refine hK6 _ _ ?_; try clear hK6 K6
  refine wp_ret ?_
  try simp only [Exit.then, Exit.inBlock]
  obtain rfl := Option.some.inj H
  refine rt1 ha rfl rfl ?_
  exact ⟨none, 0, rfl, (RSl.nil (Nat.zero_le _)), hC, hM⟩
 ·have H := ite_f hc5 H
  refine wp_skip ?_
  refine hK3 _ _ ?_; try clear hK3 K3
  refine wp_seq_k fun K7 hK7 => ?_
  refine wp_seq_k fun K8 hK8 => ?_
  refine wp_region_lit ?_
  refine seg ha 2 [(0, .slice ao1 a0.length cap1), (1, .string (bstr a1)), (11, .bool ((bstr a1).toList == (bstr ([] : List UInt8)).toList))] (by kernel_rfl) fun a ha => ?_
  refine hK8 _ _ ?_; try clear hK8 K8
  refine cnd ha rfl (fun hc9 => ?_) (fun hc9 => ?_)
  ·have H := ite_t hc9 H
   refine wp_seq_k fun K10 hK10 => ?_
   refine wp_region_lit ?_
   refine seg ha 2 [(4, .slice ao1 a0.length cap1)] (by kernel_rfl) fun a ha => ?_
   refine hK10 _ _ ?_; try clear hK10 K10
   refine wp_ret ?_
   try simp only [Exit.then, Exit.inBlock]
   obtain rfl := Option.some.inj H
   refine rt1 ha rfl rfl ?_
   exact ⟨ao1, cap1, rfl, f1, hC, hM⟩
  ·have H := ite_f hc9 H
   refine wp_skip ?_
   refine hK7 _ _ ?_; try clear hK7 K7
   refine wp_seq_k fun K11 hK11 => ?_
   refine wp_seq_k fun K12 hK12 => ?_
   refine wp_region_lit ?_
   obtain ⟨s13, H13, H⟩ := bind_some H
   have J13 : ∀ (a : Act) (w13 : World), Has a Tryd.f53.ntmps [(0, .slice ao1 a0.length cap1), (1, .string (bstr a1)), (20, .bool s13)] → (RSl (rInt .u8) 5 w13 (M) ao1 cap1 a0) → (Chg [] w w13) → (MS (M) w13) → K12 a w13 := by
    intro a w13 ha f1 hC hM
    refine hK12 _ _ ?_; try clear hK12 K12
    refine cnd ha rfl (fun hc14 => ?_) (fun hc14 => ?_)
    ·have H := ite_t hc14 H
     refine wp_seq_k fun K15 hK15 => ?_
     have okS : Ok [] (M) w13.heap.size := Ok.nil _ _
     have z_f1 := f1
     refine drw (fun w' => Chg [] w13 w') (by kernel_rfl) fun w16 hc17 _ => ?_
     have hS : Chg [] w13 w16 := (Chg.refl [] _).trans hc17 (Ok.nil _ _)
     have o1 : Ok [] (M) w13.heap.size := Ok.nil _ _
     have o2 : Ok (M) (M) w13.heap.size := (Ok.refl _ _)
     have f1 := f1.chg hc17 o1 o2
     have hM : MS (M) w16 := (hM.chg hc17)
     have hC := hC.trans hc17 (Ok.nil _ _)
     refine tkpz 0 0 (.slice ao1 a0.length cap1) ha (s := hS) (q := fun a ha => ?_)
     refine tkpz 1 0 (.string (bstr a1)) ha (s := hS) (q := fun a ha => ?_)
     obtain ⟨⟨hx18, hx18'⟩, H⟩ := ite_some H
     refine tkz 2 ha (v := .int .u8 ((a1.getD (Int.toNat (0 : Int)) 0).toNat : Int)) (y := fun w' hs => sidx_run (l := a1) (k := .i64) (i := (0 : Int)) ha (by kernel_rfl) (by rfl) (by rfl) hx18 hx18' w') (s := hS) (q := fun a ha => ?_)
     refine tkpz 4 0 (.string (bstr a1)) ha (s := hS) (q := fun a ha => ?_)
     obtain ⟨⟨hx19, hx19'⟩, H⟩ := ite_some H
     refine tkz 5 ha (v := .int .u8 ((a1.getD (Int.toNat (0 : Int)) 0).toNat : Int)) (y := fun w' hs => sidx_run (l := a1) (k := .i64) (i := (0 : Int)) ha (by kernel_rfl) (by rfl) (by rfl) hx19 hx19' w') (s := hS) (q := fun a ha => ?_)
     refine ac 3 (by kernel_rfl) (by rfl) fun K20 hK20 => ?_
     obtain ⟨t21, H21, H⟩ := bind_some H
     refine cl ha (by rfl) (by kernel_rfl) (by rfl) (by rfl) (by rfl) (bytes_trimRightByte.walk w16 _ hM a0 ao1 cap1 f1 ((a1.getD (Int.toNat (0 : Int)) 0).toNat : Int) k _ H21) ?_
     rintro _ w21 ⟨ao22, cap22, rfl, f22, hc21, hMn⟩ a ha
     have o1 : Ok [] (M) w16.heap.size := Ok.nil _ _
     have o2 : Ok (M) (M) w16.heap.size := (Ok.refl _ _)
     have f1 := f1.chg hc21 o1 o2
     have hM : MS (M) w21 := (hM.chg hc21)
     have hC := hC.trans hc21 (Ok.nil _ _)
     have hS := hS.trans hc21 (Ok.nil _ _)
     refine ae hK20 hS ?_; clear hK20 K20
     refine ac 6 (by kernel_rfl) (by rfl) fun K23 hK23 => ?_
     obtain ⟨t24, H24, H⟩ := bind_some H
     refine cl ha (by rfl) (by kernel_rfl) (by rfl) (by rfl) (by rfl) (bytes_trimLeftByte.walk w21 _ hM t21 ao22 cap22 f22 ((a1.getD (Int.toNat (0 : Int)) 0).toNat : Int) k _ H24) ?_
     rintro _ w24 ⟨ao25, cap25, rfl, f25, hc24, hMn⟩ a ha
     have o1 : Ok [] (M) w21.heap.size := Ok.nil _ _
     have o2 : Ok (M) (M) w21.heap.size := (Ok.refl _ _)
     have f1 := f1.chg hc24 o1 o2
     have f22 := f22.chg hc24 o1 o2
     have hM : MS (M) w24 := (hM.chg hc24)
     have hC := hC.trans hc24 (Ok.nil _ _)
     have hS := hS.trans hc24 (Ok.nil _ _)
     refine ae hK23 hS ?_; clear hK23 K23
     refine tkpz 7 0 (.slice ao25 t24.length cap25) ha (s := hS) (q := fun a ha => ?_)
     refine dn (by kernel_rfl) ?_
     refine hK15 _ _ ?_; try clear hK15 K15
     refine wp_ret ?_
     try simp only [Exit.then, Exit.inBlock]
     obtain rfl := Option.some.inj H
     refine rt1 ha rfl rfl ?_
     exact ⟨ao25, cap25, rfl, f25, hC, hM⟩
    ·have H := ite_f hc14 H
     exact nomatch (show none = some _ from H)
   have H := H13
   refine seg ha 4 [(16, .bool (((bstr a1).size : Int) == (1 : Int))), (0, .slice ao1 a0.length cap1), (1, .string (bstr a1))] (by kernel_rfl) fun a ha => ?_
   rcases Bool.eq_false_or_eq_true (((bstr a1).size : Int) == (1 : Int)) with hb26 | hb26
   ·have ha := ha.lit hb26
    have H := ite_t hb26 H
    refine sgh ha 1 [2] [(0, .slice ao1 a0.length cap1), (1, .string (bstr a1)), (16, .bool true), (17, .string (bstr a1))] (by kernel_rfl) fun a ha => ?_
    obtain ⟨⟨hx27, hx27'⟩, H⟩ := ite_some H
    refine hop (v := .int .u8 ((a1.getD (Int.toNat (0 : Int)) 0).toNat : Int)) (w' := w) ha rfl rfl rfl (sidx_run (l := a1) (k := .i64) (i := (0 : Int)) ha (by kernel_rfl) (by rfl) (by rfl) hx27 hx27' _) fun a ha => ?_
    refine sgh ha 2 [2, 3] [(0, .slice ao1 a0.length cap1), (1, .string (bstr a1)), (20, .bool (decide (((a1.getD (Int.toNat (0 : Int)) 0).toNat : Int) < (128 : Int))))] (by kernel_rfl) fun a ha => ?_
    obtain rfl := Option.some.inj H
    exact J13 _ _ (ha.sel (by kernel_rfl)) f1 hC hM
   ·have ha := ha.lit hb26
    have H := ite_f hb26 H
    refine sgh ha 4 [1, 1, 1, 4] [(0, .slice ao1 a0.length cap1), (1, .string (bstr a1)), (20, .bool false)] (by kernel_rfl) fun a ha => ?_
    obtain rfl := Option.some.inj H
    exact J13 _ _ (ha.sel (by kernel_rfl)) f1 hC hM
def addr_Right.f (k : Nat) (a0 : S_api_Addr) : Option (Bool) := ((if (a0.Size == (0 : Int)) = true then some (a0.Size == (0 : Int) : Bool) else (if (a0.Size == (4 : Int)) = true then some (a0.Size == (4 : Int) : Bool) else some (a0.Size == (16 : Int) : Bool)))).bind fun s10 => (if s10 = true then (if 0 ≤ a0.Size ∧ a0.Size ≤ (16 : Int) ∧ (16 : Int) ≤ (16 : Int) then (bytes_Trim.f k (((arL 16 a0.B).take (Int.toNat (16 : Int))).drop (Int.toNat a0.Size)) ([0] : List UInt8)).bind fun t15 => some (((t15.length : Int) == (0 : Int) : Bool)) else none) else some ((false : Bool)))
set_option maxRecDepth 100000 in
theorem addr_Right.walk (w : World) (M : List Nat) (hM : MS M w) (a0 : S_api_Addr) (k : Nat) (r : Bool) (H : addr_Right.f k a0 = some r) :
    To Tryd.prog 23 [.agg (cS_api_Addr a0).toArray] w fun v w' => v = .bool r ∧ Chg [] w w' ∧ MS (M) w' := by
 unfold addr_Right.f at H
 refine ent Tryd.func23 rfl [(0, .agg (cS_api_Addr a0).toArray)] rfl (by rfl) fun a ha => ?_
 have hC : Chg [] w w := Chg.refl _ _
 refine wp_seq_k fun K1 hK1 => ?_
 refine wp_region_lit ?_
 refine bx (cs := (cS_api_Addr a0)) ha rfl rfl rfl rfl rfl fun a w2 g3 hN4 ha => ?_
 have hn6 := hN4.notin hM
 have hM : MS (M) w2 := (hM.chg hN4.chg)
 have hC := hC.trans hN4.chg (Ok.nil _ _)
 have hE5 : ∀ j v, (cS_api_Addr a0)[j]? = some v → w2.cell? ⟨g3, 0 + j, none⟩ = some v := Box.cells (New.box hN4)
 refine seg ha 1 [(1, .pointer (some ⟨g3, 0, none⟩))] (by kernel_rfl) fun a ha => ?_
 refine hK1 _ _ ?_; try clear hK1 K1
 refine wp_seq_k fun K7 hK7 => ?_
 refine wp_seq_k fun K8 hK8 => ?_
 refine wp_region_lit ?_
 refine seg ha 1 [(1, .pointer (some ⟨g3, 0, none⟩)), (3, .pointer (some ⟨g3, 0, none⟩))] (by kernel_rfl) fun a ha => ?_
 refine ld ha rfl (by kernel_rfl) rfl rfl rfl (hE5 0 (.int .i64 a0.Size) (by kernel_rfl)) fun a ha => ?_
 refine hK8 _ _ ?_; try clear hK8 K8
 refine wp_block ?_
 refine wp_seq_k fun K9 hK9 => ?_
 obtain ⟨s10, H10, H⟩ := bind_some H
 have J10 : ∀ (a : Act) (w10 : World), Has a Tryd.f23.ntmps [(1, .pointer (some ⟨g3, 0, none⟩)), (5, .bool s10)] → (∀ j v, (cS_api_Addr a0)[j]? = some v → w10.cell? ⟨g3, 0 + j, none⟩ = some v) → (g3 ∉ (M)) → (Chg [] w w10) → (MS (M) w10) → K9 a w10 := by
  intro a w10 ha hE5 hn6 hC hM
  refine hK9 _ _ ?_; try clear hK9 K9
  refine cnd ha rfl (fun hc11 => ?_) (fun hc11 => ?_)
  ·have H := ite_t hc11 H
   refine wp_seq_k fun K12 hK12 => ?_
   refine wp_region_lit ?_
   refine seg ha 2 [(9, .pointer (some ⟨g3, 0 + 1, none⟩)), (10, .pointer (some ⟨g3, 0, none⟩))] (by kernel_rfl) fun a ha => ?_
   refine ld ha rfl (by kernel_rfl) rfl rfl rfl (hE5 0 (.int .i64 a0.Size) (by kernel_rfl)) fun a ha => ?_
   have f13 : RSl (rInt .u8) 5 w10 (M) (some ⟨g3, 0 + 1, none⟩) 16 (arL 16 a0.B) := RSl.ofA [.int .i64 a0.Size] [] hE5 hn6 (by kernel_rfl) rfl
   obtain ⟨⟨hx14, hx14', hx14''⟩, H⟩ := ite_some H
   obtain ⟨ao14, cap14, f14, hr14⟩ := slA_run (kk := .u8) (T := 5) (N := 16) (g := g3) (o' := 0 + 1) (xs := (arL 16 a0.B)) (t := 22) (lo := (Option.some (Operand.tmp 11))) (hi := Option.none) (l := a0.Size) (h := (16 : Int)) (dd := some 12) (ty := 43) (pos := "addr.go:24") (af := #[{ on := 0, ground := Ground.data }, { on := 2, ground := Ground.data }]) (gd := Option.none) ha (by kernel_rfl) (by kernel_rfl) (x := (Operand.tmp 9)) rfl (arL_length _ _) rfl rfl f13 hx14 hx14' (by rw [arL_length]; exact hx14'')
   refine hop (v := .slice ao14 (((arL 16 a0.B).take (Int.toNat (16 : Int))).drop (Int.toNat a0.Size)).length cap14) (w' := w10) ha rfl rfl rfl (hr14 _) fun a ha => ?_
   obtain ⟨t15, H15, H⟩ := bind_some H
   refine cl ha (by rfl) (by kernel_rfl) (by rfl) (by rfl) (by rfl) (bytes_Trim.walk w10 _ hM (((arL 16 a0.B).take (Int.toNat (16 : Int))).drop (Int.toNat a0.Size)) ao14 cap14 f14 ([0] : List UInt8) k _ H15) ?_
   rintro _ w15 ⟨ao16, cap16, rfl, f16, hc15, hMn⟩ a ha
   have o1 : Ok [] (M) w10.heap.size := Ok.nil _ _
   have o2 : Ok (M) (M) w10.heap.size := (Ok.refl _ _)
   have f14 := f14.chg hc15 o1 o2
   have hM : MS (M) w15 := (hM.chg hc15)
   have hC := hC.trans hc15 (Ok.nil _ _)
   refine seg ha 3 [(2, .bool ((t15.length : Int) == (0 : Int)))] (by kernel_rfl) fun a ha => ?_
   refine hK12 _ _ ?_; try clear hK12 K12
   refine wp_ret ?_
   try simp only [Exit.then, Exit.inBlock]
   obtain rfl := Option.some.inj H
   refine rt1 ha rfl rfl ?_
   exact ⟨rfl, hC, hM⟩
  ·have H := ite_f hc11 H
   refine wp_skip ?_
   refine hK7 _ _ ?_; try clear hK7 K7
   refine wp_seq_k fun K17 hK17 => ?_
   refine wp_region_lit ?_
   refine seg ha 1 [(2, .bool false)] (by kernel_rfl) fun a ha => ?_
   refine hK17 _ _ ?_; try clear hK17 K17
   refine wp_ret ?_
   try simp only [Exit.then, Exit.inBlock]
   obtain rfl := Option.some.inj H
   refine rt1 ha rfl rfl ?_
   exact ⟨rfl, hC, hM⟩
 have H := H10
 refine wp_seq_k fun K18 hK18 => ?_
 refine wp_region_lit ?_
 refine seg ha 2 [(1, .pointer (some ⟨g3, 0, none⟩)), (4, .int .i64 a0.Size), (5, .bool (a0.Size == (0 : Int)))] (by kernel_rfl) fun a ha => ?_
 refine hK18 _ _ ?_; try clear hK18 K18
 refine cnd ha rfl (fun hc19 => ?_) (fun hc19 => ?_)
 ·have H := ite_t hc19 H
  refine wp_skip ?_
  obtain rfl := Option.some.inj H
  exact J10 _ _ (ha.sel (by kernel_rfl)) hE5 hn6 hC hM
 ·have H := ite_f hc19 H
  refine wp_seq_k fun K20 hK20 => ?_
  refine wp_region_lit ?_
  refine seg ha 2 [(1, .pointer (some ⟨g3, 0, none⟩)), (4, .int .i64 a0.Size), (5, .bool (a0.Size == (4 : Int)))] (by kernel_rfl) fun a ha => ?_
  refine hK20 _ _ ?_; try clear hK20 K20
  refine cnd ha rfl (fun hc21 => ?_) (fun hc21 => ?_)
  ·have H := ite_t hc21 H
   refine wp_skip ?_
   obtain rfl := Option.some.inj H
   exact J10 _ _ (ha.sel (by kernel_rfl)) hE5 hn6 hC hM
  ·have H := ite_f hc21 H
   refine wp_region_lit ?_
   refine seg ha 2 [(1, .pointer (some ⟨g3, 0, none⟩)), (5, .bool (a0.Size == (16 : Int)))] (by kernel_rfl) fun a ha => ?_
   obtain rfl := Option.some.inj H
   exact J10 _ _ (ha.sel (by kernel_rfl)) hE5 hn6 hC hM

def strconv_Itoa.f (a0 : Int) : Option (List UInt8) := if -9223372036854775808 ≤ a0 ∧ a0 ≤ 9223372036854775807 then some (Lib.itoa a0) else none
theorem strconv_Itoa.walk (w : World) (M : List Nat) (hM : MS M w) (hG : GF w M) (a0 : Int) (r : List UInt8) (H : strconv_Itoa.f a0 = some r) :
    To Tryd.prog 40 [.int .i64 a0] w fun v w' => v = .string (bstr r) ∧ Chg [] w w' ∧ MS M w' := by
  unfold strconv_Itoa.f at H
  obtain ⟨⟨h0, h1⟩, H⟩ := ite_some H
  obtain rfl := Option.some.inj H
  refine Calls.mono (Tryd.strconv_Itoa a0 h0 h1 w hG.1.1) ?_
  rintro e w' ⟨rfl, k, os, rfl⟩
  exact ⟨_, rfl, rfl, chg_grow w k os, hM.chg (chg_grow w k os)⟩


def strings_Join.f (a0 : List (List UInt8)) (a1 : List UInt8) : Option (List UInt8) := if a0.length ≤ 140737488355328 ∧ (Lib.join a0 a1).length ≤ 140737488355328 then some (Lib.join a0 a1) else none
theorem strings_Join.walk (w : World) (M : List Nat) (hM : MS M w) (a0 : List (List UInt8)) (ao1 : Option Addr) (cap1 : Nat) (f1 : RSl rStr 9 w M ao1 cap1 a0) (a1 : List UInt8) (r : List UInt8) (H : strings_Join.f a0 a1 = some r) :
    To Tryd.prog 41 [.slice ao1 a0.length cap1, .string (bstr a1)] w fun v w' => v = .string (bstr r) ∧ Chg [] w w' ∧ MS M w' := by
  unfold strings_Join.f at H
  obtain ⟨⟨h0, h1⟩, H⟩ := ite_some H
  obtain rfl := Option.some.inj H
  have e1 : (bstr a1).data.toList = a1 := by simp [bstr]
  by_cases hn : a0 = []
  · subst hn
    refine Calls.mono (Tryd.strings_Join_none ao1 cap1 (bstr a1) w) ?_
    rintro e w' ⟨rfl, rfl⟩
    exact ⟨_, rfl, rfl, Chg.refl _ _, hM⟩
  · have hl : 0 < a0.length := List.length_pos_iff.2 hn
    obtain ⟨g, o, cs, rfl, _, _, hc⟩ := RSl.elem f1 0 hl
    have hcells : ∀ (j : Nat) x, (a0.map bstr)[j]? = some x → w.cell? ⟨g, o + j, none⟩ = some (.string x) := by
      intro j x hj
      rw [List.getElem?_map] at hj
      obtain ⟨y, hy, rfl⟩ := Option.map_eq_some_iff.1 hj
      obtain ⟨hjl, rfl⟩ := List.getElem?_eq_some_iff.1 hy
      obtain ⟨g', o', cs', e, _, hR, hc'⟩ := RSl.elem f1 j hjl
      cases e
      have hcs : cs' = [.string (bstr a0[j])] := hR
      subst hcs
      have := hc' 0 _ rfl
      simpa [rStr] using this
    have hbk : g < w.heap.size := by
      have h2 := hcells 0 (bstr a0[0]) (by rw [List.getElem?_map, List.getElem?_eq_getElem hl]; rfl)
      exact lt_cell h2
    have em : (a0.map bstr).map (·.data.toList) = a0 := by rw [List.map_map]; conv => rhs; rw [← List.map_id a0]; 
                                                           exact List.map_congr_left fun x _ => by simp [bstr]
    have h := Tryd.strings_Join g o cap1 (a0.map bstr) (bstr a1) w hcells hbk (by rw [List.length_map]; exact h0) (by rw [List.length_map]; exact f1.1) (by rw [em, e1]; exact h1)
    rw [em, e1, List.length_map] at h
    refine Calls.mono h ?_
    rintro e w' ⟨rfl, hb⟩
    exact ⟨_, rfl, rfl, chg_below hb, hM.chg (chg_below hb)⟩

def addr_numbers.l0 (a0 : S_api_Addr) : Nat → Int → (List Int) → Option (List Int)
  | 0, _, _ => none
  | kk + 1, x14, x15 => (if (decide (x14 < (8 : Int))) = true then (if 0 ≤ (IntKind.i64.wrap ((2 : Int) * x14)) ∧ (IntKind.i64.wrap ((2 : Int) * x14)) < (16 : Int) then (if 0 ≤ (IntKind.i64.wrap ((IntKind.i64.wrap ((2 : Int) * x14)) + (1 : Int))) ∧ (IntKind.i64.wrap ((IntKind.i64.wrap ((2 : Int) * x14)) + (1 : Int))) < (16 : Int) then (if 0 ≤ x14 ∧ x14 < (8 : Int) then addr_numbers.l0 a0 kk (IntKind.i64.wrap (x14 + (1 : Int))) ((arL 8 x15).set (Int.toNat x14) (IntKind.i64.wrap (BitVec.ofInt IntKind.i64.bits (IntKind.i64.wrap ((IntKind.i64.wrap (ar a0.B (Int.toNat (IntKind.i64.wrap ((2 : Int) * x14))))) * 2 ^ (min (8 : Int).toNat IntKind.i64.bits))) ||| BitVec.ofInt IntKind.i64.bits (IntKind.i64.wrap (ar a0.B (Int.toNat (IntKind.i64.wrap ((IntKind.i64.wrap ((2 : Int) * x14)) + (1 : Int))))))).toNat)) else none) else none) else none) else some (x15 : List Int))
def addr_numbers.f (k : Nat) (a0 : S_api_Addr) : Option (List Int) := (addr_numbers.l0 a0 k (0 : Int) (List.replicate 8 (0 : Int))).bind fun s13 => some ((s13 : List Int))
set_option maxRecDepth 100000 in
theorem addr_numbers.walk (w : World) (M : List Nat) (hM : MS M w) (a0 : S_api_Addr) (k : Nat) (r : List Int) (H : addr_numbers.f k a0 = some r) :
    To Tryd.prog 65 [.agg (cS_api_Addr a0).toArray] w fun v w' => v = .agg (cA .i64 8 r).toArray ∧ Chg [] w w' ∧ MS (M) w' := by
 unfold addr_numbers.f at H
 refine ent Tryd.func65 rfl [(0, .agg (cS_api_Addr a0).toArray)] rfl (by rfl) fun a ha => ?_
 have hC : Chg [] w w := Chg.refl _ _
 refine wp_seq_k fun K1 hK1 => ?_
 refine wp_region_lit ?_
 refine bx (cs := (cS_api_Addr a0)) ha rfl rfl rfl rfl rfl fun a w2 g3 hN4 ha => ?_
 have hn6 := hN4.notin hM
 have hM : MS (M) w2 := (hM.chg hN4.chg)
 have hC := hC.trans hN4.chg (Ok.nil _ _)
 have hE5 : ∀ j v, (cS_api_Addr a0)[j]? = some v → w2.cell? ⟨g3, 0 + j, none⟩ = some v := Box.cells (New.box hN4)
 refine al (cs := (cA .i64 8 (List.replicate 8 (0 : Int)))) (z := .agg (cA .i64 8 (List.replicate 8 (0 : Int))).toArray) ha (fun w => by kernel_rfl) rfl rfl rfl rfl fun a w7 g8 hN9 ha => ?_
 have o1 : Ok [] (M) w2.heap.size := Ok.nil _ _
 have o2 : Ok ([g8] ++ (M)) (M) w2.heap.size := (Ok.app (hN9.ok _) (Ok.refl _ _))
 have q_hn6 : g3 ∉ [g8] ++ (M) := fun h => (o2 g3 h).elim hn6 (fun h => absurd (lt_cell (hE5 0 _ rfl)) (Nat.not_lt.2 h))
 have hE5 : ∀ j v, (cS_api_Addr a0)[j]? = some v → w7.cell? ⟨g3, 0 + j, none⟩ = some v := fun j v hv => (cell_keep hN9.chg o1 hn6 (hE5 j v hv))
 have hn6 := q_hn6
 have p_i10_M : ∀ x ∈ [g8], x ∉ M := fun x hx hy => absurd (hM x (hy)) (Nat.not_lt.2 ((hN9.ge1) x hx))
 have e_i10 : ∀ x ∈ [g8], w.heap.size ≤ x := fun x hx => Nat.le_trans hC.size ((hN9.ge1) x hx)
 have hM : MS ([g8] ++ (M)) w7 := (MS.app hN9.ms (hM.chg hN9.chg))
 have hC := hC.trans hN9.chg (Ok.nil _ _)
 have hBg8 : Box w7 g8 (cA .i64 8 (List.replicate 8 (0 : Int))) := hN9.box
 refine hK1 _ _ ?_; try clear hK1 K1
 refine wp_seq_k fun K11 hK11 => ?_
 refine wp_seq_k fun K12 hK12 => ?_
 refine wp_region_lit ?_
 refine seg ha 1 [(1, .pointer (some ⟨g3, 0, none⟩)), (2, .pointer (some ⟨g8, 0, none⟩)), (4, .int .i64 (0 : Int))] (by kernel_rfl) fun a ha => ?_
 refine hK12 _ _ ?_; try clear hK12 K12
 refine wp_block ?_
 obtain ⟨s13, H13, H⟩ := bind_some H
 have J13 : ∀ (a : Act) (wx13 : World), Has a Tryd.f65.ntmps [(2, .pointer (some ⟨g8, 0, none⟩))] → (Box wx13 g8 (cA .i64 8 s13)) → (Chg [] w wx13) → (MS ([g8] ++ (M)) wx13) → K11 a wx13 := by
  intro a wx13 ha hBg8 hC hM
  refine hK11 _ _ ?_; try clear hK11 K11
  refine wp_seq_k fun K16 hK16 => ?_
  refine wp_region_lit ?_
  refine ldA (cs := (cA .i64 8 s13)) ha rfl (by kernel_rfl) rfl rfl rfl (cells_sub (Box.cells hBg8) (all := (cA .i64 8 s13)) [] [] (by kernel_rfl)) fun a ha => ?_
  refine stA (l := (cA .i64 8 s13)) ha rfl rfl rfl (by kernel_rfl) rfl rfl hBg8 rfl fun a w17 ha hb2 hc18 _ => ?_
  have hM : MS ([g8] ++ (M)) w17 := (hM.chg hc18)
  have hC := hC.trans hc18 (fun x h => .inr (e_i10 x h))
  have hBg8 : Box w17 g8 (cA .i64 8 s13) := hb2
  refine hK16 _ _ ?_; try clear hK16 K16
  refine wp_ret ?_
  try simp only [Exit.then, Exit.inBlock]
  have hBg8 := hBg8.chg (Chg.refl [] _) (fun h => nomatch h)
  have hM : MS (M) w17 := (fun x h => hM.chg (Chg.refl [] _) x (mr (h)))
  have hC := hC.trans (Chg.refl [] _) (Ok.nil _ _)
  obtain rfl := Option.some.inj H
  refine rtr ha (res1 rfl (roA ha rfl hBg8 (by kernel_rfl))) ?_
  exact ⟨rfl, hC, hM⟩
 have Hc13 := H
 have H := H13
 refine wp_loop_ghost (fun kk a w13 => ∃ (x14 : Int) (x15 : List Int), addr_numbers.l0 a0 kk x14 x15 = some s13 ∧ Has a Tryd.f65.ntmps [(1, .pointer (some ⟨g3, 0, none⟩)), (2, .pointer (some ⟨g8, 0, none⟩)), (4, .int .i64 x14)] ∧ (Box w13 g8 (cA .i64 8 x15)) ∧ (∀ j v, (cS_api_Addr a0)[j]? = some v → w13.cell? ⟨g3, 0 + j, none⟩ = some v) ∧ (g3 ∉ ([g8] ++ (M))) ∧ (Chg [] w w13) ∧ (MS ([g8] ++ (M)) w13)) k ?_ ?_
 ·skip
  exact ⟨(0 : Int), (List.replicate 8 (0 : Int)), H, (ha.sel (by kernel_rfl)), hBg8, hE5, hn6, hC, hM⟩
 ·rintro kk a w13 ⟨x14, x15, H, ha, hBg8, hE5, hn6, hC, hM⟩
  obtain _ | kk := kk
  ·exact nomatch (show none = some _ from H)
  rw [addr_numbers.l0] at H
  refine wp_seq_k fun K19 hK19 => ?_
  refine wp_region_lit ?_
  refine seg ha 1 [(1, .pointer (some ⟨g3, 0, none⟩)), (2, .pointer (some ⟨g8, 0, none⟩)), (4, .int .i64 x14), (5, .bool (decide (x14 < (8 : Int))))] (by kernel_rfl) fun a ha => ?_
  refine hK19 _ _ ?_; try clear hK19 K19
  refine wp_seq_k fun K20 hK20 => ?_
  refine cnd ha rfl (fun hc21 => ?_) (fun hc21 => ?_)
  ·have H := ite_t hc21 H
   refine wp_skip ?_
   refine hK20 _ _ ?_; try clear hK20 K20
   refine wp_seq_k fun K22 hK22 => ?_
   refine wp_block ?_
   refine wp_seq_k fun K23 hK23 => ?_
   refine wp_region_lit ?_
   refine seg ha 2 [(1, .pointer (some ⟨g3, 0, none⟩)), (2, .pointer (some ⟨g8, 0, none⟩)), (3, .int .i64 x14), (4, .int .i64 x14)] (by kernel_rfl) fun a ha => ?_
   refine hK23 _ _ ?_; try clear hK23 K23
   refine drq 17 (fun w' => Chg [] w13 w') (by kernel_rfl) (by kernel_rfl) (fun _ h => h) ?_
   refine qp 0 (.int .i64 x14) ha rfl rfl rfl (by kernel_rfl) fun a ha => ?_
   refine qp 0 (.int .i64 x14) ha rfl rfl rfl (by kernel_rfl) fun a ha => ?_
   refine qp 0 (.int .i64 (IntKind.i64.wrap ((2 : Int) * x14))) ha rfl rfl rfl (by kernel_rfl) fun a ha => ?_
   refine qp 0 (.pointer (some ⟨g3, 0 + 1, none⟩)) ha rfl rfl rfl (by kernel_rfl) fun a ha => ?_
   obtain ⟨⟨hx24, hx24'⟩, H⟩ := ite_some H
   have hE24 : ∀ j v, ([.int .u8 (ar a0.B (Int.toNat (IntKind.i64.wrap ((2 : Int) * x14))))] : List Value)[j]? = some v → w13.cell? ⟨g3, (0 + 1 + (Int.toNat (IntKind.i64.wrap ((2 : Int) * x14)))) + j, none⟩ = some v := cellA (m := 16) [.int .i64 a0.Size] [] hE5 (by kernel_rfl) (by omega)
   have hn24 := hn6
   refine qv (v := .pointer (some ⟨g3, (0 + 1 + (Int.toNat (IntKind.i64.wrap ((2 : Int) * x14)))), none⟩)) ha rfl rfl rfl (fun w' hs => ixA_run (T := 5) (N := 16) (g := g3) (o' := 0 + 1) (k := .i64) (i := IntKind.i64.wrap ((2 : Int) * x14)) ha (by kernel_rfl) (by kernel_rfl) (by rfl) (by rfl) hx24 hx24' w') fun a ha => ?_
   refine qv (v := .int .u8 (ar a0.B (Int.toNat (IntKind.i64.wrap ((2 : Int) * x14))))) ha rfl rfl rfl (fun w' hs => ld_run ha rfl (by kernel_rfl) (hs.keep (hE24 0 (.int .u8 (ar a0.B (Int.toNat (IntKind.i64.wrap ((2 : Int) * x14))))) (by kernel_rfl)))) fun a ha => ?_
   refine qp 0 (.int .i64 (IntKind.i64.wrap (ar a0.B (Int.toNat (IntKind.i64.wrap ((2 : Int) * x14)))))) ha rfl rfl rfl (by kernel_rfl) fun a ha => ?_
   refine qp 0 (.int .i64 (IntKind.i64.wrap ((IntKind.i64.wrap (ar a0.B (Int.toNat (IntKind.i64.wrap ((2 : Int) * x14))))) * 2 ^ (min (8 : Int).toNat IntKind.i64.bits)))) ha rfl rfl rfl (by kernel_rfl) fun a ha => ?_
   refine qp 0 (.int .i64 x14) ha rfl rfl rfl (by kernel_rfl) fun a ha => ?_
   refine qp 0 (.int .i64 (IntKind.i64.wrap ((2 : Int) * x14))) ha rfl rfl rfl (by kernel_rfl) fun a ha => ?_
   refine qp 0 (.int .i64 (IntKind.i64.wrap ((IntKind.i64.wrap ((2 : Int) * x14)) + (1 : Int)))) ha rfl rfl rfl (by kernel_rfl) fun a ha => ?_
   refine qp 0 (.pointer (some ⟨g3, 0 + 1, none⟩)) ha rfl rfl rfl (by kernel_rfl) fun a ha => ?_
   obtain ⟨⟨hx25, hx25'⟩, H⟩ := ite_some H
   have hE25 : ∀ j v, ([.int .u8 (ar a0.B (Int.toNat (IntKind.i64.wrap ((IntKind.i64.wrap ((2 : Int) * x14)) + (1 : Int)))))] : List Value)[j]? = some v → w13.cell? ⟨g3, (0 + 1 + (Int.toNat (IntKind.i64.wrap ((IntKind.i64.wrap ((2 : Int) * x14)) + (1 : Int))))) + j, none⟩ = some v := cellA (m := 16) [.int .i64 a0.Size] [] hE5 (by kernel_rfl) (by omega)
   have hn25 := hn6
   refine qv (v := .pointer (some ⟨g3, (0 + 1 + (Int.toNat (IntKind.i64.wrap ((IntKind.i64.wrap ((2 : Int) * x14)) + (1 : Int))))), none⟩)) ha rfl rfl rfl (fun w' hs => ixA_run (T := 5) (N := 16) (g := g3) (o' := 0 + 1) (k := .i64) (i := IntKind.i64.wrap ((IntKind.i64.wrap ((2 : Int) * x14)) + (1 : Int))) ha (by kernel_rfl) (by kernel_rfl) (by rfl) (by rfl) hx25 hx25' w') fun a ha => ?_
   refine qv (v := .int .u8 (ar a0.B (Int.toNat (IntKind.i64.wrap ((IntKind.i64.wrap ((2 : Int) * x14)) + (1 : Int)))))) ha rfl rfl rfl (fun w' hs => ld_run ha rfl (by kernel_rfl) (hs.keep (hE25 0 (.int .u8 (ar a0.B (Int.toNat (IntKind.i64.wrap ((IntKind.i64.wrap ((2 : Int) * x14)) + (1 : Int)))))) (by kernel_rfl)))) fun a ha => ?_
   refine qp 0 (.int .i64 (IntKind.i64.wrap (ar a0.B (Int.toNat (IntKind.i64.wrap ((IntKind.i64.wrap ((2 : Int) * x14)) + (1 : Int))))))) ha rfl rfl rfl (by kernel_rfl) fun a ha => ?_
   refine qp 0 (.int .i64 (IntKind.i64.wrap (BitVec.ofInt IntKind.i64.bits (IntKind.i64.wrap ((IntKind.i64.wrap (ar a0.B (Int.toNat (IntKind.i64.wrap ((2 : Int) * x14))))) * 2 ^ (min (8 : Int).toNat IntKind.i64.bits))) ||| BitVec.ofInt IntKind.i64.bits (IntKind.i64.wrap (ar a0.B (Int.toNat (IntKind.i64.wrap ((IntKind.i64.wrap ((2 : Int) * x14)) + (1 : Int))))))).toNat)) ha rfl rfl rfl (by kernel_rfl) fun a ha => ?_
   obtain ⟨⟨hx26, hx26'⟩, H⟩ := ite_some H
   have hi26 : (Int.toNat x14) < 8 := by omega
   refine qv (v := .pointer (some ⟨g8, 0 + (Int.toNat x14), none⟩)) ha rfl rfl rfl (fun w' hs => ixA_run (T := 3) (N := 8) (g := g8) (o' := 0) (k := .i64) (i := x14) ha (by kernel_rfl) (by kernel_rfl) (by rfl) (by rfl) hx26 hx26' w') fun a ha => ?_
   refine wpQuiet_nil ?_
   intro w27 hc28
   have o1 : Ok [] ([g8] ++ (M)) w13.heap.size := Ok.nil _ _
   have o2 : Ok ([g8] ++ (M)) ([g8] ++ (M)) w13.heap.size := (Ok.refl _ _)
   have hBg8 := hBg8.chg hc28 (fun h => nomatch h)
   have q_hn6 : g3 ∉ [g8] ++ (M) := fun h => (o2 g3 h).elim hn6 (fun h => absurd (lt_cell (hE5 0 _ rfl)) (Nat.not_lt.2 h))
   have hE5 : ∀ j v, (cS_api_Addr a0)[j]? = some v → w27.cell? ⟨g3, 0 + j, none⟩ = some v := fun j v hv => (cell_keep hc28 o1 hn6 (hE5 j v hv))
   have hn6 := q_hn6
   have q_hn24 : g3 ∉ [g8] ++ (M) := fun h => (o2 g3 h).elim hn24 (fun h => absurd (lt_cell (hE24 0 _ rfl)) (Nat.not_lt.2 h))
   have hE24 : ∀ j v, ([.int .u8 (ar a0.B (Int.toNat (IntKind.i64.wrap ((2 : Int) * x14))))] : List Value)[j]? = some v → w27.cell? ⟨g3, (0 + 1 + (Int.toNat (IntKind.i64.wrap ((2 : Int) * x14)))) + j, none⟩ = some v := fun j v hv => (cell_keep hc28 o1 hn24 (hE24 j v hv))
   have hn24 := q_hn24
   have q_hn25 : g3 ∉ [g8] ++ (M) := fun h => (o2 g3 h).elim hn25 (fun h => absurd (lt_cell (hE25 0 _ rfl)) (Nat.not_lt.2 h))
   have hE25 : ∀ j v, ([.int .u8 (ar a0.B (Int.toNat (IntKind.i64.wrap ((IntKind.i64.wrap ((2 : Int) * x14)) + (1 : Int)))))] : List Value)[j]? = some v → w27.cell? ⟨g3, (0 + 1 + (Int.toNat (IntKind.i64.wrap ((IntKind.i64.wrap ((2 : Int) * x14)) + (1 : Int))))) + j, none⟩ = some v := fun j v hv => (cell_keep hc28 o1 hn25 (hE25 j v hv))
   have hn25 := q_hn25
   have hM : MS ([g8] ++ (M)) w27 := (hM.chg hc28)
   have hC := hC.trans hc28 (Ok.nil _ _)
   refine st (o' := 0 + (Int.toNat x14)) ha rfl rfl rfl (by kernel_rfl) rfl rfl hBg8 (arr_lt (k := .i64) (m := 8) (x := x15) ([] : List Value) ([] : List Value) (by kernel_rfl) hi26) fun a w29 ha hb2 hc30 _ => ?_
   have o1 : Ok [g8] ([g8] ++ (M)) w27.heap.size := (fun _ h => .inl (ml h))
   have o2 : Ok ([g8] ++ (M)) ([g8] ++ (M)) w27.heap.size := (Ok.refl _ _)
   have q_hn6 : g3 ∉ [g8] ++ (M) := fun h => (o2 g3 h).elim hn6 (fun h => absurd (lt_cell (hE5 0 _ rfl)) (Nat.not_lt.2 h))
   have hE5 : ∀ j v, (cS_api_Addr a0)[j]? = some v → w29.cell? ⟨g3, 0 + j, none⟩ = some v := fun j v hv => (cell_keep hc30 o1 hn6 (hE5 j v hv))
   have hn6 := q_hn6
   have hM : MS ([g8] ++ (M)) w29 := (hM.chg hc30)
   have hC := hC.trans hc30 (fun x h => .inr (e_i10 x h))
   have hBg8 : Box w29 g8 (cA .i64 8 ((arL 8 x15).set (Int.toNat x14) (IntKind.i64.wrap (BitVec.ofInt IntKind.i64.bits (IntKind.i64.wrap ((IntKind.i64.wrap (ar a0.B (Int.toNat (IntKind.i64.wrap ((2 : Int) * x14))))) * 2 ^ (min (8 : Int).toNat IntKind.i64.bits))) ||| BitVec.ofInt IntKind.i64.bits (IntKind.i64.wrap (ar a0.B (Int.toNat (IntKind.i64.wrap ((IntKind.i64.wrap ((2 : Int) * x14)) + (1 : Int))))))).toNat))) := Box.setA (k := .i64) (m := 8) (x := x15) ([] : List Value) ([] : List Value) hb2 (by kernel_rfl) hi26 (by kernel_rfl)
   refine hK22 _ _ ?_; try clear hK22 K22
   refine wp_region_lit ?_
   refine seg ha 2 [(1, .pointer (some ⟨g3, 0, none⟩)), (2, .pointer (some ⟨g8, 0, none⟩)), (4, .int .i64 (IntKind.i64.wrap (x14 + (1 : Int))))] (by kernel_rfl) fun a ha => ?_
   exact ⟨kk, Nat.lt_succ_self _, ⟨IntKind.i64.wrap (x14 + (1 : Int)), ((arL 8 x15).set (Int.toNat x14) (IntKind.i64.wrap (BitVec.ofInt IntKind.i64.bits (IntKind.i64.wrap ((IntKind.i64.wrap (ar a0.B (Int.toNat (IntKind.i64.wrap ((2 : Int) * x14))))) * 2 ^ (min (8 : Int).toNat IntKind.i64.bits))) ||| BitVec.ofInt IntKind.i64.bits (IntKind.i64.wrap (ar a0.B (Int.toNat (IntKind.i64.wrap ((IntKind.i64.wrap ((2 : Int) * x14)) + (1 : Int))))))).toNat)), H, (ha.sel (by kernel_rfl)), hBg8, hE5, hn6, hC, hM⟩⟩
  ·have H := ite_f hc21 H
   refine wp_exit ?_
   simp only [Exit.then, Exit.inBlock, ↓reduceIte, Nat.reduceEqDiff]
   obtain rfl := Option.some.inj H
   exact J13 _ _ (ha.sel (by kernel_rfl)) hBg8 hC hM
def addr_gap.l1 (a0 : List Int) (x12 : Int) : Nat → Int → Option (Int)
  | 0, _ => none
  | kk + 1, x22 => ((if (decide ((IntKind.i64.wrap (x12 + x22)) < (8 : Int))) = true then (if 0 ≤ (IntKind.i64.wrap (x12 + x22)) ∧ (IntKind.i64.wrap (x12 + x22)) < (8 : Int) then some ((ar a0 (Int.toNat (IntKind.i64.wrap (x12 + x22)))) == (0 : Int) : Bool) else none) else some (false : Bool))).bind fun s27 => (if s27 = true then addr_gap.l1 a0 x12 kk (IntKind.i64.wrap (x22 + (1 : Int))) else some (x22 : Int))
def addr_gap.l0 (k : Nat) (a0 : List Int) : Nat → Int → Int → Int → Option (Int × Int)
  | 0, _, _, _ => none
  | kk + 1, x10, x11, x12 => (if (decide (x12 < (8 : Int))) = true then (addr_gap.l1 a0 x12 k (0 : Int)).bind fun s21 => (if (decide (s21 > x11)) = true then addr_gap.l0 k a0 kk x12 s21 (IntKind.i64.wrap (x12 + (1 : Int))) else addr_gap.l0 k a0 kk x10 x11 (IntKind.i64.wrap (x12 + (1 : Int)))) else some ((x10 : Int), (x11 : Int)))
def addr_gap.f (k : Nat) (a0 : List Int) : Option (Int × Int) := (addr_gap.l0 k a0 k (0 : Int) (0 : Int) (0 : Int)).bind fun s9 => some ((s9.1 : Int), (s9.2 : Int))
set_option maxRecDepth 100000 in
theorem addr_gap.walk (w : World) (M : List Nat) (hM : MS M w) (a0 : List Int) (k : Nat) (r : Int × Int) (H : addr_gap.f k a0 = some r) :
    To Tryd.prog 66 [.agg (cA .i64 8 a0).toArray] w fun v w' => v = .tuple #[.int .i64 r.1, .int .i64 r.2] ∧ Chg [] w w' ∧ MS (M) w' := by
 unfold addr_gap.f at H
 refine ent Tryd.func66 rfl [(0, .agg (cA .i64 8 a0).toArray)] rfl (by rfl) fun a ha => ?_
 have hC : Chg [] w w := Chg.refl _ _
 refine wp_seq_k fun K1 hK1 => ?_
 refine wp_region_lit ?_
 refine bx (cs := (cA .i64 8 a0)) ha rfl rfl rfl rfl rfl fun a w2 g3 hN4 ha => ?_
 have hn6 := hN4.notin hM
 have hM : MS (M) w2 := (hM.chg hN4.chg)
 have hC := hC.trans hN4.chg (Ok.nil _ _)
 have hE5 : ∀ j v, (cA .i64 8 a0)[j]? = some v → w2.cell? ⟨g3, 0 + j, none⟩ = some v := Box.cells (New.box hN4)
 refine seg ha 2 [(1, .pointer (some ⟨g3, 0, none⟩)), (2, .int .i64 (0 : Int)), (3, .int .i64 (0 : Int))] (by kernel_rfl) fun a ha => ?_
 refine hK1 _ _ ?_; try clear hK1 K1
 refine wp_seq_k fun K7 hK7 => ?_
 refine wp_seq_k fun K8 hK8 => ?_
 refine wp_region_lit ?_
 refine seg ha 1 [(1, .pointer (some ⟨g3, 0, none⟩)), (2, .int .i64 (0 : Int)), (3, .int .i64 (0 : Int)), (6, .int .i64 (0 : Int))] (by kernel_rfl) fun a ha => ?_
 refine hK8 _ _ ?_; try clear hK8 K8
 refine wp_block ?_
 obtain ⟨s9, H9, H⟩ := bind_some H
 have J9 : ∀ (a : Act) (wx9 : World), Has a Tryd.f66.ntmps [(2, .int .i64 s9.1), (3, .int .i64 s9.2)] → (Chg [] w wx9) → (MS (M) wx9) → K7 a wx9 := by
  intro a wx9 ha hC hM
  refine hK7 _ _ ?_; try clear hK7 K7
  refine wp_seq_k fun K13 hK13 => ?_
  refine wp_region_lit ?_
  refine seg ha 4 [(2, .int .i64 s9.1), (3, .int .i64 s9.2)] (by kernel_rfl) fun a ha => ?_
  refine hK13 _ _ ?_; try clear hK13 K13
  refine wp_ret ?_
  try simp only [Exit.then, Exit.inBlock]
  obtain rfl := Option.some.inj H
  refine rt2 ha rfl rfl rfl ?_
  exact ⟨rfl, hC, hM⟩
 have Hc9 := H
 have H := H9
 refine wp_loop_ghost (fun kk a w9 => ∃ (x10 : Int) (x11 : Int) (x12 : Int), addr_gap.l0 k a0 kk x10 x11 x12 = some s9 ∧ Has a Tryd.f66.ntmps [(1, .pointer (some ⟨g3, 0, none⟩)), (2, .int .i64 x10), (3, .int .i64 x11), (6, .int .i64 x12)] ∧ (∀ j v, (cA .i64 8 a0)[j]? = some v → w9.cell? ⟨g3, 0 + j, none⟩ = some v) ∧ (g3 ∉ (M)) ∧ (Chg [] w w9) ∧ (MS (M) w9)) k ?_ ?_
 ·skip
  exact ⟨(0 : Int), (0 : Int), (0 : Int), H, (ha.sel (by kernel_rfl)), hE5, hn6, hC, hM⟩
 ·rintro kk a w9 ⟨x10, x11, x12, H, ha, hE5, hn6, hC, hM⟩
  obtain _ | kk := kk
  ·exact nomatch (show none = some _ from H)
  rw [addr_gap.l0] at H
  refine wp_seq_k fun K14 hK14 => ?_
  refine wp_region_lit ?_
  refine seg ha 1 [(1, .pointer (some ⟨g3, 0, none⟩)), (2, .int .i64 x10), (3, .int .i64 x11), (6, .int .i64 x12), (7, .bool (decide (x12 < (8 : Int))))] (by kernel_rfl) fun a ha => ?_
  refine hK14 _ _ ?_; try clear hK14 K14
  refine wp_seq_k fun K15 hK15 => ?_
  refine cnd ha rfl (fun hc16 => ?_) (fun hc16 => ?_)
  ·have H := ite_t hc16 H
   refine wp_skip ?_
   refine hK15 _ _ ?_; try clear hK15 K15
   refine wp_seq_k fun K17 hK17 => ?_
   refine wp_block ?_
   refine wp_seq_k fun K18 hK18 => ?_
   refine wp_region_lit ?_
   refine seg ha 2 [(1, .pointer (some ⟨g3, 0, none⟩)), (2, .int .i64 x10), (3, .int .i64 x11), (4, .int .i64 x12), (6, .int .i64 x12)] (by kernel_rfl) fun a ha => ?_
   refine hK18 _ _ ?_; try clear hK18 K18
   refine wp_seq_k fun K19 hK19 => ?_
   refine wp_region_lit ?_
   refine seg ha 1 [(1, .pointer (some ⟨g3, 0, none⟩)), (2, .int .i64 x10), (3, .int .i64 x11), (4, .int .i64 x12), (5, .int .i64 (0 : Int)), (6, .int .i64 x12)] (by kernel_rfl) fun a ha => ?_
   refine hK19 _ _ ?_; try clear hK19 K19
   refine wp_seq_k fun K20 hK20 => ?_
   refine wp_block ?_
   obtain ⟨s21, H21, H⟩ := bind_some H
   have J21 : ∀ (a : Act) (wx21 : World), Has a Tryd.f66.ntmps [(1, .pointer (some ⟨g3, 0, none⟩)), (2, .int .i64 x10), (3, .int .i64 x11), (4, .int .i64 x12), (5, .int .i64 s21), (6, .int .i64 x12)] → (∀ j v, (cA .i64 8 a0)[j]? = some v → wx21.cell? ⟨g3, 0 + j, none⟩ = some v) → (g3 ∉ (M)) → (Chg [] w wx21) → (MS (M) wx21) → K20 a wx21 := by
    intro a wx21 ha hE5 hn6 hC hM
    refine hK20 _ _ ?_; try clear hK20 K20
    refine wp_seq_k fun K23 hK23 => ?_
    refine wp_region_lit ?_
    refine seg ha 3 [(1, .pointer (some ⟨g3, 0, none⟩)), (2, .int .i64 x10), (3, .int .i64 x11), (4, .int .i64 x12), (5, .int .i64 s21), (6, .int .i64 x12), (25, .bool (decide (s21 > x11)))] (by kernel_rfl) fun a ha => ?_
    refine hK23 _ _ ?_; try clear hK23 K23
    refine cnd ha rfl (fun hc24 => ?_) (fun hc24 => ?_)
    ·have H := ite_t hc24 H
     refine wp_region_lit ?_
     refine seg ha 4 [(1, .pointer (some ⟨g3, 0, none⟩)), (2, .int .i64 x12), (3, .int .i64 s21), (6, .int .i64 x12)] (by kernel_rfl) fun a ha => ?_
     refine hK17 _ _ ?_; try clear hK17 K17
     refine wp_region_lit ?_
     refine seg ha 2 [(1, .pointer (some ⟨g3, 0, none⟩)), (2, .int .i64 x12), (3, .int .i64 s21), (6, .int .i64 (IntKind.i64.wrap (x12 + (1 : Int))))] (by kernel_rfl) fun a ha => ?_
     exact ⟨kk, Nat.lt_succ_self _, ⟨x12, s21, IntKind.i64.wrap (x12 + (1 : Int)), H, (ha.sel (by kernel_rfl)), hE5, hn6, hC, hM⟩⟩
    ·have H := ite_f hc24 H
     refine wp_skip ?_
     refine hK17 _ _ ?_; try clear hK17 K17
     refine wp_region_lit ?_
     refine seg ha 2 [(1, .pointer (some ⟨g3, 0, none⟩)), (2, .int .i64 x10), (3, .int .i64 x11), (6, .int .i64 (IntKind.i64.wrap (x12 + (1 : Int))))] (by kernel_rfl) fun a ha => ?_
     exact ⟨kk, Nat.lt_succ_self _, ⟨x10, x11, IntKind.i64.wrap (x12 + (1 : Int)), H, (ha.sel (by kernel_rfl)), hE5, hn6, hC, hM⟩⟩
   have Hc21 := H
   have H := H21
   refine wp_loop_ghost (fun kk a w21 => ∃ (x22 : Int), addr_gap.l1 a0 x12 kk x22 = some s21 ∧ Has a Tryd.f66.ntmps [(1, .pointer (some ⟨g3, 0, none⟩)), (2, .int .i64 x10), (3, .int .i64 x11), (4, .int .i64 x12), (5, .int .i64 x22), (6, .int .i64 x12)] ∧ (∀ j v, (cA .i64 8 a0)[j]? = some v → w21.cell? ⟨g3, 0 + j, none⟩ = some v) ∧ (g3 ∉ (M)) ∧ (Chg [] w w21) ∧ (MS (M) w21)) k ?_ ?_
   ·skip
    exact ⟨(0 : Int), H, (ha.sel (by kernel_rfl)), hE5, hn6, hC, hM⟩
   ·rintro kk a w21 ⟨x22, H, ha, hE5, hn6, hC, hM⟩
    obtain _ | kk := kk
    ·exact nomatch (show none = some _ from H)
    rw [addr_gap.l1] at H
    refine wp_seq_k fun K25 hK25 => ?_
    refine wp_seq_k fun K26 hK26 => ?_
    refine wp_region_lit ?_
    obtain ⟨s27, H27, H⟩ := bind_some H
    have J27 : ∀ (a : Act) (w27 : World), Has a Tryd.f66.ntmps [(1, .pointer (some ⟨g3, 0, none⟩)), (2, .int .i64 x10), (3, .int .i64 x11), (4, .int .i64 x12), (5, .int .i64 x22), (6, .int .i64 x12), (20, .bool s27)] → (∀ j v, (cA .i64 8 a0)[j]? = some v → w27.cell? ⟨g3, 0 + j, none⟩ = some v) → (g3 ∉ (M)) → (Chg [] w w27) → (MS (M) w27) → K26 a w27 := by
     intro a w27 ha hE5 hn6 hC hM
     refine hK26 _ _ ?_; try clear hK26 K26
     refine cnd ha rfl (fun hc28 => ?_) (fun hc28 => ?_)
     ·have H := ite_t hc28 H
      refine wp_skip ?_
      refine hK25 _ _ ?_; try clear hK25 K25
      refine wp_block ?_
      refine wp_region_lit ?_
      refine seg ha 3 [(1, .pointer (some ⟨g3, 0, none⟩)), (2, .int .i64 x10), (3, .int .i64 x11), (4, .int .i64 x12), (5, .int .i64 (IntKind.i64.wrap (x22 + (1 : Int)))), (6, .int .i64 x12)] (by kernel_rfl) fun a ha => ?_
      exact ⟨kk, Nat.lt_succ_self _, ⟨IntKind.i64.wrap (x22 + (1 : Int)), H, (ha.sel (by kernel_rfl)), hE5, hn6, hC, hM⟩⟩
     ·have H := ite_f hc28 H
      refine wp_exit ?_
      simp only [Exit.then, Exit.inBlock, ↓reduceIte, Nat.reduceEqDiff]
      obtain rfl := Option.some.inj H
      exact J21 _ _ (ha.sel (by kernel_rfl)) hE5 hn6 hC hM
    have H := H27
    refine seg ha 5 [(13, .bool (decide ((IntKind.i64.wrap (x12 + x22)) < (8 : Int)))), (1, .pointer (some ⟨g3, 0, none⟩)), (2, .int .i64 x10), (3, .int .i64 x11), (4, .int .i64 x12), (5, .int .i64 x22), (6, .int .i64 x12)] (by kernel_rfl) fun a ha => ?_
    rcases Bool.eq_false_or_eq_true (decide ((IntKind.i64.wrap (x12 + x22)) < (8 : Int))) with hb29 | hb29
    ·have ha := ha.lit hb29
     have H := ite_t hb29 H
     refine sgh ha 3 [2, 2, 2] [(1, .pointer (some ⟨g3, 0, none⟩)), (2, .int .i64 x10), (3, .int .i64 x11), (4, .int .i64 x12), (5, .int .i64 x22), (6, .int .i64 x12), (13, .bool true), (16, .int .i64 (IntKind.i64.wrap (x12 + x22)))] (by kernel_rfl) fun a ha => ?_
     obtain ⟨⟨hx30, hx30'⟩, H⟩ := ite_some H
     have hE30 : ∀ j v, ([.int .i64 (ar a0 (Int.toNat (IntKind.i64.wrap (x12 + x22))))] : List Value)[j]? = some v → w21.cell? ⟨g3, (0 + 0 + (Int.toNat (IntKind.i64.wrap (x12 + x22)))) + j, none⟩ = some v := cellA (m := 8) [] [] hE5 (by kernel_rfl) (by omega)
     have hn30 := hn6
     refine hop (v := .pointer (some ⟨g3, (0 + 0 + (Int.toNat (IntKind.i64.wrap (x12 + x22)))), none⟩)) (w' := w21) ha rfl rfl rfl (ixA_run (T := 3) (N := 8) (g := g3) (o' := 0) (k := .i64) (i := IntKind.i64.wrap (x12 + x22)) ha (by kernel_rfl) (by kernel_rfl) (by rfl) (by rfl) hx30 hx30' _) fun a ha => ?_
     refine ld ha rfl (by kernel_rfl) rfl rfl rfl (hE30 0 (.int .i64 (ar a0 (Int.toNat (IntKind.i64.wrap (x12 + x22))))) (by kernel_rfl)) fun a ha => ?_
     refine sgh ha 2 [2, 3] [(1, .pointer (some ⟨g3, 0, none⟩)), (2, .int .i64 x10), (3, .int .i64 x11), (4, .int .i64 x12), (5, .int .i64 x22), (6, .int .i64 x12), (20, .bool ((ar a0 (Int.toNat (IntKind.i64.wrap (x12 + x22)))) == (0 : Int)))] (by kernel_rfl) fun a ha => ?_
     obtain rfl := Option.some.inj H
     exact J27 _ _ (ha.sel (by kernel_rfl)) hE5 hn6 hC hM
    ·have ha := ha.lit hb29
     have H := ite_f hb29 H
     refine sgh ha 7 [1, 1, 1, 1, 1, 1, 4] [(1, .pointer (some ⟨g3, 0, none⟩)), (2, .int .i64 x10), (3, .int .i64 x11), (4, .int .i64 x12), (5, .int .i64 x22), (6, .int .i64 x12), (20, .bool false)] (by kernel_rfl) fun a ha => ?_
     obtain rfl := Option.some.inj H
     exact J27 _ _ (ha.sel (by kernel_rfl)) hE5 hn6 hC hM
  ·have H := ite_f hc16 H
   refine wp_exit ?_
   simp only [Exit.then, Exit.inBlock, ↓reduceIte, Nat.reduceEqDiff]
   obtain rfl := Option.some.inj H
   exact J9 _ _ (ha.sel (by kernel_rfl)) hC hM
def strconv_small.f (a0 : Int) : Option (List UInt8) := (if (decide (a0 < (10 : Int))) = true then (if 0 ≤ a0 ∧ a0 ≤ (IntKind.i64.wrap (a0 + (1 : Int))) ∧ (IntKind.i64.wrap (a0 + (1 : Int))) ≤ (([48, 49, 50, 51, 52, 53, 54, 55, 56, 57, 97, 98, 99, 100, 101, 102, 103, 104, 105, 106, 107, 108, 109, 110, 111, 112, 113, 114, 115, 116, 117, 118, 119, 120, 121, 122] : List UInt8).length : Int) then some ((((([48, 49, 50, 51, 52, 53, 54, 55, 56, 57, 97, 98, 99, 100, 101, 102, 103, 104, 105, 106, 107, 108, 109, 110, 111, 112, 113, 114, 115, 116, 117, 118, 119, 120, 121, 122] : List UInt8).take (Int.toNat (IntKind.i64.wrap (a0 + (1 : Int))))).drop (Int.toNat a0)) : List UInt8)) else none) else (if 0 ≤ (IntKind.i64.wrap (a0 * (2 : Int))) ∧ (IntKind.i64.wrap (a0 * (2 : Int))) ≤ (IntKind.i64.wrap ((IntKind.i64.wrap (a0 * (2 : Int))) + (2 : Int))) ∧ (IntKind.i64.wrap ((IntKind.i64.wrap (a0 * (2 : Int))) + (2 : Int))) ≤ (([48, 48, 48, 49, 48, 50, 48, 51, 48, 52, 48, 53, 48, 54, 48, 55, 48, 56, 48, 57, 49, 48, 49, 49, 49, 50, 49, 51, 49, 52, 49, 53, 49, 54, 49, 55, 49, 56, 49, 57, 50, 48, 50, 49, 50, 50, 50, 51, 50, 52, 50, 53, 50, 54, 50, 55, 50, 56, 50, 57, 51, 48, 51, 49, 51, 50, 51, 51, 51, 52, 51, 53, 51, 54, 51, 55, 51, 56, 51, 57, 52, 48, 52, 49, 52, 50, 52, 51, 52, 52, 52, 53, 52, 54, 52, 55, 52, 56, 52, 57, 53, 48, 53, 49, 53, 50, 53, 51, 53, 52, 53, 53, 53, 54, 53, 55, 53, 56, 53, 57, 54, 48, 54, 49, 54, 50, 54, 51, 54, 52, 54, 53, 54, 54, 54, 55, 54, 56, 54, 57, 55, 48, 55, 49, 55, 50, 55, 51, 55, 52, 55, 53, 55, 54, 55, 55, 55, 56, 55, 57, 56, 48, 56, 49, 56, 50, 56, 51, 56, 52, 56, 53, 56, 54, 56, 55, 56, 56, 56, 57, 57, 48, 57, 49, 57, 50, 57, 51, 57, 52, 57, 53, 57, 54, 57, 55, 57, 56, 57, 57] : List UInt8).length : Int) then some ((((([48, 48, 48, 49, 48, 50, 48, 51, 48, 52, 48, 53, 48, 54, 48, 55, 48, 56, 48, 57, 49, 48, 49, 49, 49, 50, 49, 51, 49, 52, 49, 53, 49, 54, 49, 55, 49, 56, 49, 57, 50, 48, 50, 49, 50, 50, 50, 51, 50, 52, 50, 53, 50, 54, 50, 55, 50, 56, 50, 57, 51, 48, 51, 49, 51, 50, 51, 51, 51, 52, 51, 53, 51, 54, 51, 55, 51, 56, 51, 57, 52, 48, 52, 49, 52, 50, 52, 51, 52, 52, 52, 53, 52, 54, 52, 55, 52, 56, 52, 57, 53, 48, 53, 49, 53, 50, 53, 51, 53, 52, 53, 53, 53, 54, 53, 55, 53, 56, 53, 57, 54, 48, 54, 49, 54, 50, 54, 51, 54, 52, 54, 53, 54, 54, 54, 55, 54, 56, 54, 57, 55, 48, 55, 49, 55, 50, 55, 51, 55, 52, 55, 53, 55, 54, 55, 55, 55, 56, 55, 57, 56, 48, 56, 49, 56, 50, 56, 51, 56, 52, 56, 53, 56, 54, 56, 55, 56, 56, 56, 57, 57, 48, 57, 49, 57, 50, 57, 51, 57, 52, 57, 53, 57, 54, 57, 55, 57, 56, 57, 57] : List UInt8).take (Int.toNat (IntKind.i64.wrap ((IntKind.i64.wrap (a0 * (2 : Int))) + (2 : Int))))).drop (Int.toNat (IntKind.i64.wrap (a0 * (2 : Int))))) : List UInt8)) else none))
set_option maxRecDepth 100000 in
theorem strconv_small.walk (w : World) (M : List Nat) (hM : MS M w) (a0 : Int) (r : List UInt8) (H : strconv_small.f a0 = some r) :
    To Tryd.prog 90 [.int .i64 a0] w fun v w' => v = .string (bstr r) ∧ Chg [] w w' ∧ MS (M) w' := by
 unfold strconv_small.f at H
 refine ent Tryd.func90 rfl [(0, .int .i64 a0)] rfl (by rfl) fun a ha => ?_
 have hC : Chg [] w w := Chg.refl _ _
 refine wp_seq_k fun K1 hK1 => ?_
 refine wp_region_lit ?_
 refine seg ha 1 [(0, .int .i64 a0)] (by kernel_rfl) fun a ha => ?_
 refine hK1 _ _ ?_; try clear hK1 K1
 refine wp_seq_k fun K2 hK2 => ?_
 refine wp_seq_k fun K3 hK3 => ?_
 refine wp_region_lit ?_
 refine seg ha 2 [(0, .int .i64 a0), (4, .bool (decide (a0 < (10 : Int))))] (by kernel_rfl) fun a ha => ?_
 refine hK3 _ _ ?_; try clear hK3 K3
 refine cnd ha rfl (fun hc4 => ?_) (fun hc4 => ?_)
 ·have H := ite_t hc4 H
  refine wp_seq_k fun K5 hK5 => ?_
  refine wp_region_lit ?_
  refine seg ha 3 [(5, .int .i64 a0), (7, .int .i64 (IntKind.i64.wrap (a0 + (1 : Int))))] (by kernel_rfl) fun a ha => ?_
  obtain ⟨⟨hx6, hx6', hx6''⟩, H⟩ := ite_some H
  refine hop (v := .string (bstr ((([48, 49, 50, 51, 52, 53, 54, 55, 56, 57, 97, 98, 99, 100, 101, 102, 103, 104, 105, 106, 107, 108, 109, 110, 111, 112, 113, 114, 115, 116, 117, 118, 119, 120, 121, 122] : List UInt8).take (Int.toNat (IntKind.i64.wrap (a0 + (1 : Int))))).drop (Int.toNat a0)))) (w' := w) ha rfl rfl rfl (ssl_run (s := ([48, 49, 50, 51, 52, 53, 54, 55, 56, 57, 97, 98, 99, 100, 101, 102, 103, 104, 105, 106, 107, 108, 109, 110, 111, 112, 113, 114, 115, 116, 117, 118, 119, 120, 121, 122] : List UInt8)) (l := a0) (h := (IntKind.i64.wrap (a0 + (1 : Int)))) ha (by kernel_rfl) (by rfl) (by rfl) (by rfl) hx6 hx6' hx6'' _) fun a ha => ?_
  refine seg ha 1 [(2, .string (bstr ((([48, 49, 50, 51, 52, 53, 54, 55, 56, 57, 97, 98, 99, 100, 101, 102, 103, 104, 105, 106, 107, 108, 109, 110, 111, 112, 113, 114, 115, 116, 117, 118, 119, 120, 121, 122] : List UInt8).take (Int.toNat (IntKind.i64.wrap (a0 + (1 : Int))))).drop (Int.toNat a0))))] (by kernel_rfl) fun a ha => ?_
  refine hK5 _ _ ?_; try clear hK5 K5
  refine wp_ret ?_
  try simp only [Exit.then, Exit.inBlock]
  obtain rfl := Option.some.inj H
  refine rt1 ha rfl rfl ?_
  exact ⟨rfl, hC, hM⟩
 ·have H := ite_f hc4 H
  refine wp_skip ?_
  refine hK2 _ _ ?_; try clear hK2 K2
  refine wp_seq_k fun K7 hK7 => ?_
  refine wp_region_lit ?_
  refine seg ha 5 [(10, .int .i64 (IntKind.i64.wrap (a0 * (2 : Int)))), (13, .int .i64 (IntKind.i64.wrap ((IntKind.i64.wrap (a0 * (2 : Int))) + (2 : Int))))] (by kernel_rfl) fun a ha => ?_
  obtain ⟨⟨hx8, hx8', hx8''⟩, H⟩ := ite_some H
  refine hop (v := .string (bstr ((([48, 48, 48, 49, 48, 50, 48, 51, 48, 52, 48, 53, 48, 54, 48, 55, 48, 56, 48, 57, 49, 48, 49, 49, 49, 50, 49, 51, 49, 52, 49, 53, 49, 54, 49, 55, 49, 56, 49, 57, 50, 48, 50, 49, 50, 50, 50, 51, 50, 52, 50, 53, 50, 54, 50, 55, 50, 56, 50, 57, 51, 48, 51, 49, 51, 50, 51, 51, 51, 52, 51, 53, 51, 54, 51, 55, 51, 56, 51, 57, 52, 48, 52, 49, 52, 50, 52, 51, 52, 52, 52, 53, 52, 54, 52, 55, 52, 56, 52, 57, 53, 48, 53, 49, 53, 50, 53, 51, 53, 52, 53, 53, 53, 54, 53, 55, 53, 56, 53, 57, 54, 48, 54, 49, 54, 50, 54, 51, 54, 52, 54, 53, 54, 54, 54, 55, 54, 56, 54, 57, 55, 48, 55, 49, 55, 50, 55, 51, 55, 52, 55, 53, 55, 54, 55, 55, 55, 56, 55, 57, 56, 48, 56, 49, 56, 50, 56, 51, 56, 52, 56, 53, 56, 54, 56, 55, 56, 56, 56, 57, 57, 48, 57, 49, 57, 50, 57, 51, 57, 52, 57, 53, 57, 54, 57, 55, 57, 56, 57, 57] : List UInt8).take (Int.toNat (IntKind.i64.wrap ((IntKind.i64.wrap (a0 * (2 : Int))) + (2 : Int))))).drop (Int.toNat (IntKind.i64.wrap (a0 * (2 : Int))))))) (w' := w) ha rfl rfl rfl (ssl_run (s := ([48, 48, 48, 49, 48, 50, 48, 51, 48, 52, 48, 53, 48, 54, 48, 55, 48, 56, 48, 57, 49, 48, 49, 49, 49, 50, 49, 51, 49, 52, 49, 53, 49, 54, 49, 55, 49, 56, 49, 57, 50, 48, 50, 49, 50, 50, 50, 51, 50, 52, 50, 53, 50, 54, 50, 55, 50, 56, 50, 57, 51, 48, 51, 49, 51, 50, 51, 51, 51, 52, 51, 53, 51, 54, 51, 55, 51, 56, 51, 57, 52, 48, 52, 49, 52, 50, 52, 51, 52, 52, 52, 53, 52, 54, 52, 55, 52, 56, 52, 57, 53, 48, 53, 49, 53, 50, 53, 51, 53, 52, 53, 53, 53, 54, 53, 55, 53, 56, 53, 57, 54, 48, 54, 49, 54, 50, 54, 51, 54, 52, 54, 53, 54, 54, 54, 55, 54, 56, 54, 57, 55, 48, 55, 49, 55, 50, 55, 51, 55, 52, 55, 53, 55, 54, 55, 55, 55, 56, 55, 57, 56, 48, 56, 49, 56, 50, 56, 51, 56, 52, 56, 53, 56, 54, 56, 55, 56, 56, 56, 57, 57, 48, 57, 49, 57, 50, 57, 51, 57, 52, 57, 53, 57, 54, 57, 55, 57, 56, 57, 57] : List UInt8)) (l := (IntKind.i64.wrap (a0 * (2 : Int)))) (h := (IntKind.i64.wrap ((IntKind.i64.wrap (a0 * (2 : Int))) + (2 : Int)))) ha (by kernel_rfl) (by rfl) (by rfl) (by rfl) hx8 hx8' hx8'' _) fun a ha => ?_
  refine seg ha 1 [(2, .string (bstr ((([48, 48, 48, 49, 48, 50, 48, 51, 48, 52, 48, 53, 48, 54, 48, 55, 48, 56, 48, 57, 49, 48, 49, 49, 49, 50, 49, 51, 49, 52, 49, 53, 49, 54, 49, 55, 49, 56, 49, 57, 50, 48, 50, 49, 50, 50, 50, 51, 50, 52, 50, 53, 50, 54, 50, 55, 50, 56, 50, 57, 51, 48, 51, 49, 51, 50, 51, 51, 51, 52, 51, 53, 51, 54, 51, 55, 51, 56, 51, 57, 52, 48, 52, 49, 52, 50, 52, 51, 52, 52, 52, 53, 52, 54, 52, 55, 52, 56, 52, 57, 53, 48, 53, 49, 53, 50, 53, 51, 53, 52, 53, 53, 53, 54, 53, 55, 53, 56, 53, 57, 54, 48, 54, 49, 54, 50, 54, 51, 54, 52, 54, 53, 54, 54, 54, 55, 54, 56, 54, 57, 55, 48, 55, 49, 55, 50, 55, 51, 55, 52, 55, 53, 55, 54, 55, 55, 55, 56, 55, 57, 56, 48, 56, 49, 56, 50, 56, 51, 56, 52, 56, 53, 56, 54, 56, 55, 56, 56, 56, 57, 57, 48, 57, 49, 57, 50, 57, 51, 57, 52, 57, 53, 57, 54, 57, 55, 57, 56, 57, 57] : List UInt8).take (Int.toNat (IntKind.i64.wrap ((IntKind.i64.wrap (a0 * (2 : Int))) + (2 : Int))))).drop (Int.toNat (IntKind.i64.wrap (a0 * (2 : Int)))))))] (by kernel_rfl) fun a ha => ?_
  refine hK7 _ _ ?_; try clear hK7 K7
  refine wp_ret ?_
  try simp only [Exit.then, Exit.inBlock]
  obtain rfl := Option.some.inj H
  refine rt1 ha rfl rfl ?_
  exact ⟨rfl, hC, hM⟩
def bits_Len64.f (a0 : Int) : Option (Int) := ((if (decide (a0 ≥ (4294967296 : Int))) = true then some ((Int.fdiv a0 (2 ^ (min (32 : Int).toNat IntKind.u64.bits)) : Int), ((32 : Int) : Int)) else some ((a0 : Int), ((0 : Int) : Int)))).bind fun s3 => ((if (decide (s3.1 ≥ (65536 : Int))) = true then some ((Int.fdiv s3.1 (2 ^ (min (16 : Int).toNat IntKind.u64.bits)) : Int), (IntKind.i64.wrap (s3.2 + (16 : Int)) : Int)) else some ((s3.1 : Int), (s3.2 : Int)))).bind fun s5 => ((if (decide (s5.1 ≥ (256 : Int))) = true then some ((Int.fdiv s5.1 (2 ^ (min (8 : Int).toNat IntKind.u64.bits)) : Int), (IntKind.i64.wrap (s5.2 + (8 : Int)) : Int)) else some ((s5.1 : Int), (s5.2 : Int)))).bind fun s7 => (if 0 ≤ (IntKind.u8.wrap s7.1) ∧ (IntKind.u8.wrap s7.1) < (([0, 1, 2, 2, 3, 3, 3, 3, 4, 4, 4, 4, 4, 4, 4, 4, 5, 5, 5, 5, 5, 5, 5, 5, 5, 5, 5, 5, 5, 5, 5, 5, 6, 6, 6, 6, 6, 6, 6, 6, 6, 6, 6, 6, 6, 6, 6, 6, 6, 6, 6, 6, 6, 6, 6, 6, 6, 6, 6, 6, 6, 6, 6, 6, 7, 7, 7, 7, 7, 7, 7, 7, 7, 7, 7, 7, 7, 7, 7, 7, 7, 7, 7, 7, 7, 7, 7, 7, 7, 7, 7, 7, 7, 7, 7, 7, 7, 7, 7, 7, 7, 7, 7, 7, 7, 7, 7, 7, 7, 7, 7, 7, 7, 7, 7, 7, 7, 7, 7, 7, 7, 7, 7, 7, 7, 7, 7, 7, 8, 8, 8, 8, 8, 8, 8, 8, 8, 8, 8, 8, 8, 8, 8, 8, 8, 8, 8, 8, 8, 8, 8, 8, 8, 8, 8, 8, 8, 8, 8, 8, 8, 8, 8, 8, 8, 8, 8, 8, 8, 8, 8, 8, 8, 8, 8, 8, 8, 8, 8, 8, 8, 8, 8, 8, 8, 8, 8, 8, 8, 8, 8, 8, 8, 8, 8, 8, 8, 8, 8, 8, 8, 8, 8, 8, 8, 8, 8, 8, 8, 8, 8, 8, 8, 8, 8, 8, 8, 8, 8, 8, 8, 8, 8, 8, 8, 8, 8, 8, 8, 8, 8, 8, 8, 8, 8, 8, 8, 8, 8, 8, 8, 8, 8, 8, 8, 8, 8, 8, 8, 8, 8, 8, 8, 8, 8, 8] : List UInt8).length : Int) then some ((IntKind.i64.wrap (s7.2 + (IntKind.i64.wrap ((([0, 1, 2, 2, 3, 3, 3, 3, 4, 4, 4, 4, 4, 4, 4, 4, 5, 5, 5, 5, 5, 5, 5, 5, 5, 5, 5, 5, 5, 5, 5, 5, 6, 6, 6, 6, 6, 6, 6, 6, 6, 6, 6, 6, 6, 6, 6, 6, 6, 6, 6, 6, 6, 6, 6, 6, 6, 6, 6, 6, 6, 6, 6, 6, 7, 7, 7, 7, 7, 7, 7, 7, 7, 7, 7, 7, 7, 7, 7, 7, 7, 7, 7, 7, 7, 7, 7, 7, 7, 7, 7, 7, 7, 7, 7, 7, 7, 7, 7, 7, 7, 7, 7, 7, 7, 7, 7, 7, 7, 7, 7, 7, 7, 7, 7, 7, 7, 7, 7, 7, 7, 7, 7, 7, 7, 7, 7, 7, 8, 8, 8, 8, 8, 8, 8, 8, 8, 8, 8, 8, 8, 8, 8, 8, 8, 8, 8, 8, 8, 8, 8, 8, 8, 8, 8, 8, 8, 8, 8, 8, 8, 8, 8, 8, 8, 8, 8, 8, 8, 8, 8, 8, 8, 8, 8, 8, 8, 8, 8, 8, 8, 8, 8, 8, 8, 8, 8, 8, 8, 8, 8, 8, 8, 8, 8, 8, 8, 8, 8, 8, 8, 8, 8, 8, 8, 8, 8, 8, 8, 8, 8, 8, 8, 8, 8, 8, 8, 8, 8, 8, 8, 8, 8, 8, 8, 8, 8, 8, 8, 8, 8, 8, 8, 8, 8, 8, 8, 8, 8, 8, 8, 8, 8, 8, 8, 8, 8, 8, 8, 8, 8, 8, 8, 8, 8, 8] : List UInt8).getD (Int.toNat (IntKind.u8.wrap s7.1)) 0).toNat : Int))) : Int)) else none)
set_option maxRecDepth 100000 in
theorem bits_Len64.walk (w : World) (M : List Nat) (hM : MS M w) (a0 : Int) (r : Int) (H : bits_Len64.f a0 = some r) :
    To Tryd.prog 103 [.int .u64 a0] w fun v w' => v = .int .i64 r ∧ Chg [] w w' ∧ MS (M) w' := by
 unfold bits_Len64.f at H
 refine ent Tryd.func103 rfl [(0, .int .u64 a0)] rfl (by rfl) fun a ha => ?_
 have hC : Chg [] w w := Chg.refl _ _
 refine wp_seq_k fun K1 hK1 => ?_
 refine wp_region_lit ?_
 refine seg ha 1 [(0, .int .u64 a0), (2, .int .i64 (0 : Int))] (by kernel_rfl) fun a ha => ?_
 refine hK1 _ _ ?_; try clear hK1 K1
 refine wp_seq_k fun K2 hK2 => ?_
 obtain ⟨s3, H3, H⟩ := bind_some H
 have J3 : ∀ (a : Act) (w3 : World), Has a Tryd.f103.ntmps [(0, .int .u64 s3.1), (2, .int .i64 s3.2)] → (Chg [] w w3) → (MS (M) w3) → K2 a w3 := by
  intro a w3 ha hC hM
  refine hK2 _ _ ?_; try clear hK2 K2
  refine wp_seq_k fun K4 hK4 => ?_
  obtain ⟨s5, H5, H⟩ := bind_some H
  have J5 : ∀ (a : Act) (w5 : World), Has a Tryd.f103.ntmps [(0, .int .u64 s5.1), (2, .int .i64 s5.2)] → (Chg [] w w5) → (MS (M) w5) → K4 a w5 := by
   intro a w5 ha hC hM
   refine hK4 _ _ ?_; try clear hK4 K4
   refine wp_seq_k fun K6 hK6 => ?_
   obtain ⟨s7, H7, H⟩ := bind_some H
   have J7 : ∀ (a : Act) (w7 : World), Has a Tryd.f103.ntmps [(0, .int .u64 s7.1), (2, .int .i64 s7.2)] → (Chg [] w w7) → (MS (M) w7) → K6 a w7 := by
    intro a w7 ha hC hM
    refine hK6 _ _ ?_; try clear hK6 K6
    refine wp_seq_k fun K8 hK8 => ?_
    refine wp_region_lit ?_
    refine seg ha 3 [(19, .int .i64 s7.2), (21, .int .u8 (IntKind.u8.wrap s7.1))] (by kernel_rfl) fun a ha => ?_
    obtain ⟨⟨hx9, hx9'⟩, H⟩ := ite_some H
    refine hop (v := .int .u8 ((([0, 1, 2, 2, 3, 3, 3, 3, 4, 4, 4, 4, 4, 4, 4, 4, 5, 5, 5, 5, 5, 5, 5, 5, 5, 5, 5, 5, 5, 5, 5, 5, 6, 6, 6, 6, 6, 6, 6, 6, 6, 6, 6, 6, 6, 6, 6, 6, 6, 6, 6, 6, 6, 6, 6, 6, 6, 6, 6, 6, 6, 6, 6, 6, 7, 7, 7, 7, 7, 7, 7, 7, 7, 7, 7, 7, 7, 7, 7, 7, 7, 7, 7, 7, 7, 7, 7, 7, 7, 7, 7, 7, 7, 7, 7, 7, 7, 7, 7, 7, 7, 7, 7, 7, 7, 7, 7, 7, 7, 7, 7, 7, 7, 7, 7, 7, 7, 7, 7, 7, 7, 7, 7, 7, 7, 7, 7, 7, 8, 8, 8, 8, 8, 8, 8, 8, 8, 8, 8, 8, 8, 8, 8, 8, 8, 8, 8, 8, 8, 8, 8, 8, 8, 8, 8, 8, 8, 8, 8, 8, 8, 8, 8, 8, 8, 8, 8, 8, 8, 8, 8, 8, 8, 8, 8, 8, 8, 8, 8, 8, 8, 8, 8, 8, 8, 8, 8, 8, 8, 8, 8, 8, 8, 8, 8, 8, 8, 8, 8, 8, 8, 8, 8, 8, 8, 8, 8, 8, 8, 8, 8, 8, 8, 8, 8, 8, 8, 8, 8, 8, 8, 8, 8, 8, 8, 8, 8, 8, 8, 8, 8, 8, 8, 8, 8, 8, 8, 8, 8, 8, 8, 8, 8, 8, 8, 8, 8, 8, 8, 8, 8, 8, 8, 8, 8, 8] : List UInt8).getD (Int.toNat (IntKind.u8.wrap s7.1)) 0).toNat : Int)) (w' := w7) ha rfl rfl rfl (sidx_run (l := ([0, 1, 2, 2, 3, 3, 3, 3, 4, 4, 4, 4, 4, 4, 4, 4, 5, 5, 5, 5, 5, 5, 5, 5, 5, 5, 5, 5, 5, 5, 5, 5, 6, 6, 6, 6, 6, 6, 6, 6, 6, 6, 6, 6, 6, 6, 6, 6, 6, 6, 6, 6, 6, 6, 6, 6, 6, 6, 6, 6, 6, 6, 6, 6, 7, 7, 7, 7, 7, 7, 7, 7, 7, 7, 7, 7, 7, 7, 7, 7, 7, 7, 7, 7, 7, 7, 7, 7, 7, 7, 7, 7, 7, 7, 7, 7, 7, 7, 7, 7, 7, 7, 7, 7, 7, 7, 7, 7, 7, 7, 7, 7, 7, 7, 7, 7, 7, 7, 7, 7, 7, 7, 7, 7, 7, 7, 7, 7, 8, 8, 8, 8, 8, 8, 8, 8, 8, 8, 8, 8, 8, 8, 8, 8, 8, 8, 8, 8, 8, 8, 8, 8, 8, 8, 8, 8, 8, 8, 8, 8, 8, 8, 8, 8, 8, 8, 8, 8, 8, 8, 8, 8, 8, 8, 8, 8, 8, 8, 8, 8, 8, 8, 8, 8, 8, 8, 8, 8, 8, 8, 8, 8, 8, 8, 8, 8, 8, 8, 8, 8, 8, 8, 8, 8, 8, 8, 8, 8, 8, 8, 8, 8, 8, 8, 8, 8, 8, 8, 8, 8, 8, 8, 8, 8, 8, 8, 8, 8, 8, 8, 8, 8, 8, 8, 8, 8, 8, 8, 8, 8, 8, 8, 8, 8, 8, 8, 8, 8, 8, 8, 8, 8, 8, 8, 8, 8] : List UInt8)) (k := .u8) (i := IntKind.u8.wrap s7.1) ha (by kernel_rfl) (by rfl) (by rfl) hx9 hx9' _) fun a ha => ?_
    refine seg ha 3 [(2, .int .i64 (IntKind.i64.wrap (s7.2 + (IntKind.i64.wrap ((([0, 1, 2, 2, 3, 3, 3, 3, 4, 4, 4, 4, 4, 4, 4, 4, 5, 5, 5, 5, 5, 5, 5, 5, 5, 5, 5, 5, 5, 5, 5, 5, 6, 6, 6, 6, 6, 6, 6, 6, 6, 6, 6, 6, 6, 6, 6, 6, 6, 6, 6, 6, 6, 6, 6, 6, 6, 6, 6, 6, 6, 6, 6, 6, 7, 7, 7, 7, 7, 7, 7, 7, 7, 7, 7, 7, 7, 7, 7, 7, 7, 7, 7, 7, 7, 7, 7, 7, 7, 7, 7, 7, 7, 7, 7, 7, 7, 7, 7, 7, 7, 7, 7, 7, 7, 7, 7, 7, 7, 7, 7, 7, 7, 7, 7, 7, 7, 7, 7, 7, 7, 7, 7, 7, 7, 7, 7, 7, 8, 8, 8, 8, 8, 8, 8, 8, 8, 8, 8, 8, 8, 8, 8, 8, 8, 8, 8, 8, 8, 8, 8, 8, 8, 8, 8, 8, 8, 8, 8, 8, 8, 8, 8, 8, 8, 8, 8, 8, 8, 8, 8, 8, 8, 8, 8, 8, 8, 8, 8, 8, 8, 8, 8, 8, 8, 8, 8, 8, 8, 8, 8, 8, 8, 8, 8, 8, 8, 8, 8, 8, 8, 8, 8, 8, 8, 8, 8, 8, 8, 8, 8, 8, 8, 8, 8, 8, 8, 8, 8, 8, 8, 8, 8, 8, 8, 8, 8, 8, 8, 8, 8, 8, 8, 8, 8, 8, 8, 8, 8, 8, 8, 8, 8, 8, 8, 8, 8, 8, 8, 8, 8, 8, 8, 8, 8, 8] : List UInt8).getD (Int.toNat (IntKind.u8.wrap s7.1)) 0).toNat : Int)))))] (by kernel_rfl) fun a ha => ?_
    refine hK8 _ _ ?_; try clear hK8 K8
    refine wp_ret ?_
    try simp only [Exit.then, Exit.inBlock]
    obtain rfl := Option.some.inj H
    refine rt1 ha rfl rfl ?_
    exact ⟨rfl, hC, hM⟩
   have H := H7
   refine wp_seq_k fun K10 hK10 => ?_
   refine wp_region_lit ?_
   refine seg ha 2 [(0, .int .u64 s5.1), (2, .int .i64 s5.2), (14, .bool (decide (s5.1 ≥ (256 : Int))))] (by kernel_rfl) fun a ha => ?_
   refine hK10 _ _ ?_; try clear hK10 K10
   refine cnd ha rfl (fun hc11 => ?_) (fun hc11 => ?_)
   ·have H := ite_t hc11 H
    refine wp_seq_k fun K12 hK12 => ?_
    refine wp_region_lit ?_
    refine seg ha 3 [(0, .int .u64 (Int.fdiv s5.1 (2 ^ (min (8 : Int).toNat IntKind.u64.bits)))), (2, .int .i64 s5.2)] (by kernel_rfl) fun a ha => ?_
    refine hK12 _ _ ?_; try clear hK12 K12
    refine wp_region_lit ?_
    refine seg ha 3 [(0, .int .u64 (Int.fdiv s5.1 (2 ^ (min (8 : Int).toNat IntKind.u64.bits)))), (2, .int .i64 (IntKind.i64.wrap (s5.2 + (8 : Int))))] (by kernel_rfl) fun a ha => ?_
    obtain rfl := Option.some.inj H
    exact J7 _ _ (ha.sel (by kernel_rfl)) hC hM
   ·have H := ite_f hc11 H
    refine wp_skip ?_
    obtain rfl := Option.some.inj H
    exact J7 _ _ (ha.sel (by kernel_rfl)) hC hM
  have H := H5
  refine wp_seq_k fun K13 hK13 => ?_
  refine wp_region_lit ?_
  refine seg ha 2 [(0, .int .u64 s3.1), (2, .int .i64 s3.2), (8, .bool (decide (s3.1 ≥ (65536 : Int))))] (by kernel_rfl) fun a ha => ?_
  refine hK13 _ _ ?_; try clear hK13 K13
  refine cnd ha rfl (fun hc14 => ?_) (fun hc14 => ?_)
  ·have H := ite_t hc14 H
   refine wp_seq_k fun K15 hK15 => ?_
   refine wp_region_lit ?_
   refine seg ha 3 [(0, .int .u64 (Int.fdiv s3.1 (2 ^ (min (16 : Int).toNat IntKind.u64.bits)))), (2, .int .i64 s3.2)] (by kernel_rfl) fun a ha => ?_
   refine hK15 _ _ ?_; try clear hK15 K15
   refine wp_region_lit ?_
   refine seg ha 3 [(0, .int .u64 (Int.fdiv s3.1 (2 ^ (min (16 : Int).toNat IntKind.u64.bits)))), (2, .int .i64 (IntKind.i64.wrap (s3.2 + (16 : Int))))] (by kernel_rfl) fun a ha => ?_
   obtain rfl := Option.some.inj H
   exact J5 _ _ (ha.sel (by kernel_rfl)) hC hM
  ·have H := ite_f hc14 H
   refine wp_skip ?_
   obtain rfl := Option.some.inj H
   exact J5 _ _ (ha.sel (by kernel_rfl)) hC hM
 have H := H3
 refine wp_seq_k fun K16 hK16 => ?_
 refine wp_region_lit ?_
 refine seg ha 2 [(0, .int .u64 a0), (2, .int .i64 (0 : Int)), (4, .bool (decide (a0 ≥ (4294967296 : Int))))] (by kernel_rfl) fun a ha => ?_
 refine hK16 _ _ ?_; try clear hK16 K16
 refine cnd ha rfl (fun hc17 => ?_) (fun hc17 => ?_)
 ·have H := ite_t hc17 H
  refine wp_seq_k fun K18 hK18 => ?_
  refine wp_region_lit ?_
  refine seg ha 3 [(0, .int .u64 (Int.fdiv a0 (2 ^ (min (32 : Int).toNat IntKind.u64.bits))))] (by kernel_rfl) fun a ha => ?_
  refine hK18 _ _ ?_; try clear hK18 K18
  refine wp_region_lit ?_
  refine seg ha 1 [(0, .int .u64 (Int.fdiv a0 (2 ^ (min (32 : Int).toNat IntKind.u64.bits)))), (2, .int .i64 (32 : Int))] (by kernel_rfl) fun a ha => ?_
  obtain rfl := Option.some.inj H
  exact J3 _ _ (ha.sel (by kernel_rfl)) hC hM
 ·have H := ite_f hc17 H
  refine wp_skip ?_
  obtain rfl := Option.some.inj H
  exact J3 _ _ (ha.sel (by kernel_rfl)) hC hM
def strconv_log10Pow2.f (a0 : Int) : Option (Int) := some ((Int.fdiv (IntKind.i64.wrap (a0 * (78913 : Int))) (2 ^ (min (18 : Int).toNat IntKind.i64.bits)) : Int))
set_option maxRecDepth 100000 in
theorem strconv_log10Pow2.walk (w : World) (M : List Nat) (hM : MS M w) (a0 : Int) (r : Int) (H : strconv_log10Pow2.f a0 = some r) :
    To Tryd.prog 102 [.int .i64 a0] w fun v w' => v = .int .i64 r ∧ Chg [] w w' ∧ MS (M) w' := by
 unfold strconv_log10Pow2.f at H
 refine ent Tryd.func102 rfl [(0, .int .i64 a0)] rfl (by rfl) fun a ha => ?_
 have hC : Chg [] w w := Chg.refl _ _
 refine wp_seq_k fun K1 hK1 => ?_
 refine wp_region_lit ?_
 refine seg ha 1 [(0, .int .i64 a0)] (by kernel_rfl) fun a ha => ?_
 refine hK1 _ _ ?_; try clear hK1 K1
 refine wp_seq_k fun K2 hK2 => ?_
 refine wp_region_lit ?_
 refine seg ha 4 [(2, .int .i64 (Int.fdiv (IntKind.i64.wrap (a0 * (78913 : Int))) (2 ^ (min (18 : Int).toNat IntKind.i64.bits))))] (by kernel_rfl) fun a ha => ?_
 refine hK2 _ _ ?_; try clear hK2 K2
 refine wp_ret ?_
 try simp only [Exit.then, Exit.inBlock]
 obtain rfl := Option.some.inj H
 refine rt1 ha rfl rfl ?_
 exact ⟨rfl, hC, hM⟩
def strconv_bool2_int.f (a0 : Bool) : Option (Int) := (if a0 = true then some (((1 : Int) : Int)) else some (((0 : Int) : Int)))
set_option maxRecDepth 100000 in
theorem strconv_bool2_int.walk (w : World) (M : List Nat) (hM : MS M w) (a0 : Bool) (r : Int) (H : strconv_bool2_int.f a0 = some r) :
    To Tryd.prog 104 [.bool a0] w fun v w' => v = .int .i64 r ∧ Chg [] w w' ∧ MS (M) w' := by
 unfold strconv_bool2_int.f at H
 refine ent Tryd.func104 rfl [(0, .bool a0)] rfl (by rfl) fun a ha => ?_
 have hC : Chg [] w w := Chg.refl _ _
 refine wp_seq_k fun K1 hK1 => ?_
 refine wp_region_lit ?_
 refine seg ha 1 [(0, .bool a0)] (by kernel_rfl) fun a ha => ?_
 refine hK1 _ _ ?_; try clear hK1 K1
 refine wp_seq_k fun K2 hK2 => ?_
 refine wp_seq_k fun K3 hK3 => ?_
 refine wp_region_lit ?_
 refine seg ha 1 [(3, .bool a0)] (by kernel_rfl) fun a ha => ?_
 refine hK3 _ _ ?_; try clear hK3 K3
 refine cnd ha rfl (fun hc4 => ?_) (fun hc4 => ?_)
 ·have H := ite_t hc4 H
  refine wp_seq_k fun K5 hK5 => ?_
  refine wp_region_lit ?_
  refine seg ha 1 [(2, .int .i64 (1 : Int))] (by kernel_rfl) fun a ha => ?_
  refine hK5 _ _ ?_; try clear hK5 K5
  refine wp_ret ?_
  try simp only [Exit.then, Exit.inBlock]
  obtain rfl := Option.some.inj H
  refine rt1 ha rfl rfl ?_
  exact ⟨rfl, hC, hM⟩
 ·have H := ite_f hc4 H
  refine wp_skip ?_
  refine hK2 _ _ ?_; try clear hK2 K2
  refine wp_seq_k fun K6 hK6 => ?_
  refine wp_region_lit ?_
  refine seg ha 1 [(2, .int .i64 (0 : Int))] (by kernel_rfl) fun a ha => ?_
  refine hK6 _ _ ?_; try clear hK6 K6
  refine wp_ret ?_
  try simp only [Exit.then, Exit.inBlock]
  obtain rfl := Option.some.inj H
  refine rt1 ha rfl rfl ?_
  exact ⟨rfl, hC, hM⟩
def strconv_numDigits.f (a0 : Int) : Option (Int) := (bits_Len64.f a0).bind fun t3 => (strconv_log10Pow2.f t3).bind fun t4 => (if 0 ≤ t4 ∧ t4 < (20 : Int) then (strconv_bool2_int.f (decide (a0 ≥ (ar Lib.pow10Tab (Int.toNat t4))))).bind fun t8 => some ((IntKind.i64.wrap (t4 + t8) : Int)) else none)
set_option maxRecDepth 100000 in
theorem strconv_numDigits.walk (w : World) (M : List Nat) (hM : MS M w) (hG : GF w M) (a0 : Int) (r : Int) (H : strconv_numDigits.f a0 = some r) :
    To Tryd.prog 91 [.int .u64 a0] w fun v w' => v = .int .i64 r ∧ Chg [] w w' ∧ MS (M) w' := by
 unfold strconv_numDigits.f at H
 refine ent Tryd.func91 rfl [(0, .int .u64 a0)] rfl (by rfl) fun a ha => ?_
 have hC : Chg [] w w := Chg.refl _ _
 refine wp_seq_k fun K1 hK1 => ?_
 refine wp_region_lit ?_
 refine seg ha 1 [(0, .int .u64 a0)] (by kernel_rfl) fun a ha => ?_
 refine hK1 _ _ ?_; try clear hK1 K1
 refine wp_seq_k fun K2 hK2 => ?_
 refine wp_region_lit ?_
 refine seg ha 1 [(0, .int .u64 a0), (4, .int .u64 a0)] (by kernel_rfl) fun a ha => ?_
 obtain ⟨t3, H3, H⟩ := bind_some H
 refine cl ha (by rfl) (by kernel_rfl) (by rfl) (by rfl) (by rfl) (bits_Len64.walk w _ hM a0 _ H3) ?_
 rintro _ w3 ⟨rfl, hc3, hMn⟩ a ha
 have o1 : Ok [] (M) w.heap.size := Ok.nil _ _
 have o2 : Ok (M) (M) w.heap.size := (Ok.refl _ _)
 have hG := hG.chg hc3 o1 o2
 have hM : MS (M) w3 := (hM.chg hc3)
 have hC := hC.trans hc3 (Ok.nil _ _)
 obtain ⟨t4, H4, H⟩ := bind_some H
 refine cl ha (by rfl) (by kernel_rfl) (by rfl) (by rfl) (by rfl) (strconv_log10Pow2.walk w3 _ hM t3 _ H4) ?_
 rintro _ w4 ⟨rfl, hc4, hMn⟩ a ha
 have o1 : Ok [] (M) w3.heap.size := Ok.nil _ _
 have o2 : Ok (M) (M) w3.heap.size := (Ok.refl _ _)
 have hG := hG.chg hc4 o1 o2
 have hM : MS (M) w4 := (hM.chg hc4)
 have hC := hC.trans hc4 (Ok.nil _ _)
 refine seg ha 1 [(0, .int .u64 a0), (3, .int .i64 t4)] (by kernel_rfl) fun a ha => ?_
 refine hK2 _ _ ?_; try clear hK2 K2
 refine wp_seq_k fun K5 hK5 => ?_
 refine wp_region_lit ?_
 refine seg ha 3 [(7, .int .i64 t4), (8, .int .u64 a0), (9, .int .i64 t4)] (by kernel_rfl) fun a ha => ?_
 have hTc6 := TabOk.cells (n := 20) hG.1 (by kernel_rfl) (by kernel_rfl)
 have hTn6 := (hG.1).2
 obtain ⟨⟨hx7, hx7'⟩, H⟩ := ite_some H
 have hE7 : ∀ j v, ([.int .u64 (ar Lib.pow10Tab (Int.toNat t4))] : List Value)[j]? = some v → w4.cell? ⟨1, (0 + 0 + (Int.toNat t4)) + j, none⟩ = some v := cellA (m := 20) [] [] hTc6 (by kernel_rfl) (by omega)
 have hn7 := hTn6
 refine hop (v := .pointer (some ⟨1, (0 + 0 + (Int.toNat t4)), none⟩)) (w' := w4) ha rfl rfl rfl (ixA_run (T := 112) (N := 20) (g := 1) (o' := 0) (k := .i64) (i := t4) ha (by kernel_rfl) (by kernel_rfl) (by rfl) (by rfl) hx7 hx7' _) fun a ha => ?_
 refine ld ha rfl (by kernel_rfl) rfl rfl rfl (hE7 0 (.int .u64 (ar Lib.pow10Tab (Int.toNat t4))) (by kernel_rfl)) fun a ha => ?_
 refine seg ha 1 [(7, .int .i64 t4), (12, .bool (decide (a0 ≥ (ar Lib.pow10Tab (Int.toNat t4)))))] (by kernel_rfl) fun a ha => ?_
 obtain ⟨t8, H8, H⟩ := bind_some H
 refine cl ha (by rfl) (by kernel_rfl) (by rfl) (by rfl) (by rfl) (strconv_bool2_int.walk w4 _ hM (decide (a0 ≥ (ar Lib.pow10Tab (Int.toNat t4)))) _ H8) ?_
 rintro _ w8 ⟨rfl, hc8, hMn⟩ a ha
 have o1 : Ok [] (M) w4.heap.size := Ok.nil _ _
 have o2 : Ok (M) (M) w4.heap.size := (Ok.refl _ _)
 have hG := hG.chg hc8 o1 o2
 have hM : MS (M) w8 := (hM.chg hc8)
 have hC := hC.trans hc8 (Ok.nil _ _)
 refine seg ha 2 [(2, .int .i64 (IntKind.i64.wrap (t4 + t8)))] (by kernel_rfl) fun a ha => ?_
 refine hK5 _ _ ?_; try clear hK5 K5
 refine wp_ret ?_
 try simp only [Exit.then, Exit.inBlock]
 obtain rfl := Option.some.inj H
 refine rt1 ha rfl rfl ?_
 exact ⟨rfl, hC, hM⟩
def strconv_isPowerOfTwo.f (a0 : Int) : Option (Bool) := some (((IntKind.i64.wrap (BitVec.ofInt IntKind.i64.bits a0 &&& BitVec.ofInt IntKind.i64.bits (IntKind.i64.wrap (a0 - (1 : Int)))).toNat) == (0 : Int) : Bool))
set_option maxRecDepth 100000 in
theorem strconv_isPowerOfTwo.walk (w : World) (M : List Nat) (hM : MS M w) (a0 : Int) (r : Bool) (H : strconv_isPowerOfTwo.f a0 = some r) :
    To Tryd.prog 105 [.int .i64 a0] w fun v w' => v = .bool r ∧ Chg [] w w' ∧ MS (M) w' := by
 unfold strconv_isPowerOfTwo.f at H
 refine ent Tryd.func105 rfl [(0, .int .i64 a0)] rfl (by rfl) fun a ha => ?_
 have hC : Chg [] w w := Chg.refl _ _
 refine wp_seq_k fun K1 hK1 => ?_
 refine wp_region_lit ?_
 refine seg ha 1 [(0, .int .i64 a0)] (by kernel_rfl) fun a ha => ?_
 refine hK1 _ _ ?_; try clear hK1 K1
 refine wp_seq_k fun K2 hK2 => ?_
 refine wp_region_lit ?_
 refine seg ha 6 [(2, .bool ((IntKind.i64.wrap (BitVec.ofInt IntKind.i64.bits a0 &&& BitVec.ofInt IntKind.i64.bits (IntKind.i64.wrap (a0 - (1 : Int)))).toNat) == (0 : Int)))] (by kernel_rfl) fun a ha => ?_
 refine hK2 _ _ ?_; try clear hK2 K2
 refine wp_ret ?_
 try simp only [Exit.then, Exit.inBlock]
 obtain rfl := Option.some.inj H
 refine rt1 ha rfl rfl ?_
 exact ⟨rfl, hC, hM⟩
def bits_TrailingZeros64.f (a0 : Int) : Option (Int) := (if (a0 == (0 : Int)) = true then some (((64 : Int) : Int)) else (some (Int.fdiv (IntKind.u64.wrap ((IntKind.u64.wrap (BitVec.ofInt IntKind.u64.bits a0 &&& BitVec.ofInt IntKind.u64.bits (IntKind.u64.wrap (0 - a0))).toNat) * (285870213051353865 : Int))) (2 ^ (min (58 : Int).toNat IntKind.u64.bits))) : Option Int).bind fun ix8 => (if 0 ≤ ix8 ∧ ix8 < (64 : Int) then some ((IntKind.i64.wrap (ar dbTab (Int.toNat ix8)) : Int)) else none))
set_option maxRecDepth 100000 in
theorem bits_TrailingZeros64.walk (w : World) (M : List Nat) (hM : MS M w) (hG : GF w M) (a0 : Int) (r : Int) (H : bits_TrailingZeros64.f a0 = some r) :
    To Tryd.prog 110 [.int .u64 a0] w fun v w' => v = .int .i64 r ∧ Chg [] w w' ∧ MS (M) w' := by
 unfold bits_TrailingZeros64.f at H
 refine ent Tryd.func110 rfl [(0, .int .u64 a0)] rfl (by rfl) fun a ha => ?_
 have hC : Chg [] w w := Chg.refl _ _
 refine wp_seq_k fun K1 hK1 => ?_
 refine wp_region_lit ?_
 refine seg ha 1 [(0, .int .u64 a0)] (by kernel_rfl) fun a ha => ?_
 refine hK1 _ _ ?_; try clear hK1 K1
 refine wp_seq_k fun K2 hK2 => ?_
 refine wp_seq_k fun K3 hK3 => ?_
 refine wp_region_lit ?_
 refine seg ha 2 [(0, .int .u64 a0), (4, .bool (a0 == (0 : Int)))] (by kernel_rfl) fun a ha => ?_
 refine hK3 _ _ ?_; try clear hK3 K3
 refine cnd ha rfl (fun hc4 => ?_) (fun hc4 => ?_)
 ·have H := ite_t hc4 H
  refine wp_seq_k fun K5 hK5 => ?_
  refine wp_region_lit ?_
  refine seg ha 1 [(2, .int .i64 (64 : Int))] (by kernel_rfl) fun a ha => ?_
  refine hK5 _ _ ?_; try clear hK5 K5
  refine wp_ret ?_
  try simp only [Exit.then, Exit.inBlock]
  obtain rfl := Option.some.inj H
  refine rt1 ha rfl rfl ?_
  exact ⟨rfl, hC, hM⟩
 ·have H := ite_f hc4 H
  refine wp_skip ?_
  refine hK2 _ _ ?_; try clear hK2 K2
  refine wp_seq_k fun K6 hK6 => ?_
  refine wp_region_lit ?_
  refine seg ha 6 [(10, .int .u64 (Int.fdiv (IntKind.u64.wrap ((IntKind.u64.wrap (BitVec.ofInt IntKind.u64.bits a0 &&& BitVec.ofInt IntKind.u64.bits (IntKind.u64.wrap (0 - a0))).toNat) * (285870213051353865 : Int))) (2 ^ (min (58 : Int).toNat IntKind.u64.bits))))] (by kernel_rfl) fun a ha => ?_
  have hTc7 := TabOk.cells (n := 64) hG.2.1 (by kernel_rfl) (by kernel_rfl)
  have hTn7 := (hG.2.1).2
  obtain ⟨ix8, hix8, H⟩ := bind_some H
  rw [Option.some.inj hix8] at ha
  obtain ⟨⟨hx9, hx9'⟩, H⟩ := ite_some H
  have hE9 : ∀ j v, ([.int .u8 (ar dbTab (Int.toNat ix8))] : List Value)[j]? = some v → w.cell? ⟨5, (0 + 0 + (Int.toNat ix8)) + j, none⟩ = some v := cellA (m := 64) [] [] hTc7 (by kernel_rfl) (by omega)
  have hn9 := hTn7
  refine hop (v := .pointer (some ⟨5, (0 + 0 + (Int.toNat ix8)), none⟩)) (w' := w) ha rfl rfl rfl (ixA_run (T := 5) (N := 64) (g := 5) (o' := 0) (k := .u64) (i := ix8) ha (by kernel_rfl) (by kernel_rfl) (by rfl) (by rfl) hx9 hx9' _) fun a ha => ?_
  refine ld ha rfl (by kernel_rfl) rfl rfl rfl (hE9 0 (.int .u8 (ar dbTab (Int.toNat ix8))) (by kernel_rfl)) fun a ha => ?_
  refine seg ha 2 [(2, .int .i64 (IntKind.i64.wrap (ar dbTab (Int.toNat ix8))))] (by kernel_rfl) fun a ha => ?_
  refine hK6 _ _ ?_; try clear hK6 K6
  refine wp_ret ?_
  try simp only [Exit.then, Exit.inBlock]
  obtain rfl := Option.some.inj H
  refine rt1 ha rfl rfl ?_
  exact ⟨rfl, hC, hM⟩
def bits_TrailingZeros.f (a0 : Int) : Option (Int) := (bits_TrailingZeros64.f a0).bind fun t5 => some ((t5 : Int))
set_option maxRecDepth 100000 in
theorem bits_TrailingZeros.walk (w : World) (M : List Nat) (hM : MS M w) (hG : GF w M) (a0 : Int) (r : Int) (H : bits_TrailingZeros.f a0 = some r) :
    To Tryd.prog 106 [.int .u64 a0] w fun v w' => v = .int .i64 r ∧ Chg [] w w' ∧ MS (M) w' := by
 unfold bits_TrailingZeros.f at H
 refine ent Tryd.func106 rfl [(0, .int .u64 a0)] rfl (by rfl) fun a ha => ?_
 have hC : Chg [] w w := Chg.refl _ _
 refine wp_seq_k fun K1 hK1 => ?_
 refine wp_region_lit ?_
 refine seg ha 1 [(0, .int .u64 a0)] (by kernel_rfl) fun a ha => ?_
 refine hK1 _ _ ?_; try clear hK1 K1
 refine wp_seq_k fun K2 hK2 => ?_
 refine cnd ha rfl (fun h => nomatch h) (fun _ => ?_)
 refine wp_skip ?_
 refine hK2 _ _ ?_; try clear hK2 K2
 refine wp_seq_k fun K4 hK4 => ?_
 refine wp_region_lit ?_
 refine seg ha 1 [(6, .int .u64 a0)] (by kernel_rfl) fun a ha => ?_
 obtain ⟨t5, H5, H⟩ := bind_some H
 refine cl ha (by rfl) (by kernel_rfl) (by rfl) (by rfl) (by rfl) (bits_TrailingZeros64.walk w _ hM hG a0 _ H5) ?_
 rintro _ w5 ⟨rfl, hc5, hMn⟩ a ha
 have o1 : Ok [] (M) w.heap.size := Ok.nil _ _
 have o2 : Ok (M) (M) w.heap.size := (Ok.refl _ _)
 have hG := hG.chg hc5 o1 o2
 have hM : MS (M) w5 := (hM.chg hc5)
 have hC := hC.trans hc5 (Ok.nil _ _)
 refine seg ha 1 [(2, .int .i64 t5)] (by kernel_rfl) fun a ha => ?_
 refine hK4 _ _ ?_; try clear hK4 K4
 refine wp_ret ?_
 try simp only [Exit.then, Exit.inBlock]
 obtain rfl := Option.some.inj H
 refine rt1 ha rfl rfl ?_
 exact ⟨rfl, hC, hM⟩
def strconv_formatBits.l0 (a2 : Int) (t35 : Int) : Nat → Int → Int → (List Int) → Option (Int × Int × List Int)
  | 0, _, _, _ => none
  | kk + 1, x40, x41, x42 => (if (decide (x40 ≥ (IntKind.u64.wrap a2))) = true then (if 0 ≤ (IntKind.u64.wrap (BitVec.ofInt IntKind.u64.bits x40 &&& BitVec.ofInt IntKind.u64.bits (IntKind.u64.wrap ((IntKind.u64.wrap a2) - (1 : Int)))).toNat) ∧ (IntKind.u64.wrap (BitVec.ofInt IntKind.u64.bits x40 &&& BitVec.ofInt IntKind.u64.bits (IntKind.u64.wrap ((IntKind.u64.wrap a2) - (1 : Int)))).toNat) < (([48, 49, 50, 51, 52, 53, 54, 55, 56, 57, 97, 98, 99, 100, 101, 102, 103, 104, 105, 106, 107, 108, 109, 110, 111, 112, 113, 114, 115, 116, 117, 118, 119, 120, 121, 122] : List UInt8).length : Int) then (if 0 ≤ (IntKind.i64.wrap (x41 - (1 : Int))) ∧ (IntKind.i64.wrap (x41 - (1 : Int))) < (65 : Int) then (if 0 ≤ (IntKind.u64.wrap t35) then strconv_formatBits.l0 a2 t35 kk (Int.fdiv x40 (2 ^ (min (Int.toNat (IntKind.u64.wrap t35)) IntKind.u64.bits))) (IntKind.i64.wrap (x41 - (1 : Int))) ((arL 65 x42).set (Int.toNat (IntKind.i64.wrap (x41 - (1 : Int)))) ((([48, 49, 50, 51, 52, 53, 54, 55, 56, 57, 97, 98, 99, 100, 101, 102, 103, 104, 105, 106, 107, 108, 109, 110, 111, 112, 113, 114, 115, 116, 117, 118, 119, 120, 121, 122] : List UInt8).getD (Int.toNat (IntKind.u64.wrap (BitVec.ofInt IntKind.u64.bits x40 &&& BitVec.ofInt IntKind.u64.bits (IntKind.u64.wrap ((IntKind.u64.wrap a2) - (1 : Int)))).toNat)) 0).toNat : Int)) else none) else none) else none) else some ((x40 : Int), (x41 : Int), (x42 : List Int)))
def strconv_formatBits.l1 (a2 : Int) : Nat → Int → Int → (List Int) → Option (Int × Int × List Int)
  | 0, _, _, _ => none
  | kk + 1, x61, x62, x63 => (if (decide (x61 ≥ (IntKind.u64.wrap a2))) = true then (if (IntKind.u64.wrap a2) ≠ 0 then (if 0 ≤ (IntKind.u64.wrap (x61 - (IntKind.u64.wrap ((IntKind.u64.wrap (Int.tdiv x61 (IntKind.u64.wrap a2))) * (IntKind.u64.wrap a2))))) ∧ (IntKind.u64.wrap (x61 - (IntKind.u64.wrap ((IntKind.u64.wrap (Int.tdiv x61 (IntKind.u64.wrap a2))) * (IntKind.u64.wrap a2))))) < (([48, 49, 50, 51, 52, 53, 54, 55, 56, 57, 97, 98, 99, 100, 101, 102, 103, 104, 105, 106, 107, 108, 109, 110, 111, 112, 113, 114, 115, 116, 117, 118, 119, 120, 121, 122] : List UInt8).length : Int) then (if 0 ≤ (IntKind.i64.wrap (x62 - (1 : Int))) ∧ (IntKind.i64.wrap (x62 - (1 : Int))) < (65 : Int) then strconv_formatBits.l1 a2 kk (IntKind.u64.wrap (Int.tdiv x61 (IntKind.u64.wrap a2))) (IntKind.i64.wrap (x62 - (1 : Int))) ((arL 65 x63).set (Int.toNat (IntKind.i64.wrap (x62 - (1 : Int)))) ((([48, 49, 50, 51, 52, 53, 54, 55, 56, 57, 97, 98, 99, 100, 101, 102, 103, 104, 105, 106, 107, 108, 109, 110, 111, 112, 113, 114, 115, 116, 117, 118, 119, 120, 121, 122] : List UInt8).getD (Int.toNat (IntKind.u64.wrap (x61 - (IntKind.u64.wrap ((IntKind.u64.wrap (Int.tdiv x61 (IntKind.u64.wrap a2))) * (IntKind.u64.wrap a2)))))) 0).toNat : Int)) else none) else none) else none) else some ((x61 : Int), (x62 : Int), (x63 : List Int)))
def strconv_formatBits.f (k : Nat) (a0 : List Int) (a1 : Int) (a2 : Int) (a3 : Bool) (a4 : Bool) : Option (List Int × List UInt8) := (if (if (if (decide (a2 < (2 : Int))) = true then true else (a2 == (10 : Int))) = true then true else (decide (a2 > (36 : Int)))) = true then none else ((if a3 = true then some (IntKind.u64.wrap (0 - a1) : Int) else some (a1 : Int))).bind fun s13 => ((strconv_isPowerOfTwo.f a2).bind fun t32 => (if t32 = true then (bits_TrailingZeros.f (IntKind.u64.wrap a2)).bind fun t35 => (strconv_formatBits.l0 a2 t35 k s13 (65 : Int) (List.replicate 65 (0 : Int))).bind fun s39 => (if 0 ≤ s39.1 ∧ s39.1 < (([48, 49, 50, 51, 52, 53, 54, 55, 56, 57, 97, 98, 99, 100, 101, 102, 103, 104, 105, 106, 107, 108, 109, 110, 111, 112, 113, 114, 115, 116, 117, 118, 119, 120, 121, 122] : List UInt8).length : Int) then (if 0 ≤ (IntKind.i64.wrap (s39.2.1 - (1 : Int))) ∧ (IntKind.i64.wrap (s39.2.1 - (1 : Int))) < (65 : Int) then some ((IntKind.i64.wrap (s39.2.1 - (1 : Int)) : Int), (((arL 65 s39.2.2).set (Int.toNat (IntKind.i64.wrap (s39.2.1 - (1 : Int)))) ((([48, 49, 50, 51, 52, 53, 54, 55, 56, 57, 97, 98, 99, 100, 101, 102, 103, 104, 105, 106, 107, 108, 109, 110, 111, 112, 113, 114, 115, 116, 117, 118, 119, 120, 121, 122] : List UInt8).getD (Int.toNat s39.1) 0).toNat : Int)) : List Int)) else none) else none) else (strconv_formatBits.l1 a2 k s13 (65 : Int) (List.replicate 65 (0 : Int))).bind fun s60 => (if 0 ≤ s60.1 ∧ s60.1 < (([48, 49, 50, 51, 52, 53, 54, 55, 56, 57, 97, 98, 99, 100, 101, 102, 103, 104, 105, 106, 107, 108, 109, 110, 111, 112, 113, 114, 115, 116, 117, 118, 119, 120, 121, 122] : List UInt8).length : Int) then (if 0 ≤ (IntKind.i64.wrap (s60.2.1 - (1 : Int))) ∧ (IntKind.i64.wrap (s60.2.1 - (1 : Int))) < (65 : Int) then some ((IntKind.i64.wrap (s60.2.1 - (1 : Int)) : Int), (((arL 65 s60.2.2).set (Int.toNat (IntKind.i64.wrap (s60.2.1 - (1 : Int)))) ((([48, 49, 50, 51, 52, 53, 54, 55, 56, 57, 97, 98, 99, 100, 101, 102, 103, 104, 105, 106, 107, 108, 109, 110, 111, 112, 113, 114, 115, 116, 117, 118, 119, 120, 121, 122] : List UInt8).getD (Int.toNat s60.1) 0).toNat : Int)) : List Int)) else none) else none))).bind fun s15 => ((if a3 = true then (if 0 ≤ (IntKind.i64.wrap (s15.1 - (1 : Int))) ∧ (IntKind.i64.wrap (s15.1 - (1 : Int))) < (65 : Int) then some ((IntKind.i64.wrap (s15.1 - (1 : Int)) : Int), (((arL 65 s15.2).set (Int.toNat (IntKind.i64.wrap (s15.1 - (1 : Int)))) (45 : Int)) : List Int)) else none) else some ((s15.1 : Int), (s15.2 : List Int)))).bind fun s17 => (if a4 = true then none else (if 0 ≤ s17.1 ∧ s17.1 ≤ (65 : Int) ∧ (65 : Int) ≤ (65 : Int) then some ((([] : List Int) : List Int), (b2s (((arL 65 s17.2).take (Int.toNat (65 : Int))).drop (Int.toNat s17.1)) : List UInt8)) else none)))
set_option maxRecDepth 100000 in
theorem strconv_formatBits.walk (w : World) (M : List Nat) (hM : MS M w) (hG : GF w M) (a0 : List Int) (ao1 : Option Addr) (cap1 : Nat) (f1 : RSl (rInt .u8) 5 w M ao1 cap1 a0) (a1 : Int) (a2 : Int) (a3 : Bool) (a4 : Bool) (k : Nat) (r : List Int × List UInt8) (H : strconv_formatBits.f k a0 a1 a2 a3 a4 = some r) :
    To Tryd.prog 93 [.slice ao1 a0.length cap1, .int .u64 a1, .int .i64 a2, .bool a3, .bool a4] w fun v w' => ∃ (ao82 : Option Addr) (cap82 : Nat), v = .tuple #[.slice ao82 r.1.length cap82, .string (bstr r.2)] ∧ (Own (rInt .u8) 5 w' (blkL ao82 ++ (M)) ao82 cap82 r.1) ∧ (∀ x ∈ blkL ao82, w.heap.size ≤ x) ∧ Chg [] w w' ∧ MS (blkL ao82 ++ (M)) w' := by
 unfold strconv_formatBits.f at H
 refine ent Tryd.func93 rfl [(0, .slice ao1 a0.length cap1), (1, .int .u64 a1), (2, .int .i64 a2), (3, .bool a3), (4, .bool a4)] rfl (by rfl) fun a ha => ?_
 have hC : Chg [] w w := Chg.refl _ _
 refine wp_seq_k fun K2 hK2 => ?_
 refine wp_region_lit ?_
 refine seg ha 2 [(0, .slice ao1 a0.length cap1), (1, .int .u64 a1), (2, .int .i64 a2), (3, .bool a3), (4, .bool a4), (10, .slice none 0 0), (11, .string (bstr ([] : List UInt8)))] (by kernel_rfl) fun a ha => ?_
 refine hK2 _ _ ?_; try clear hK2 K2
 refine wp_seq_k fun K3 hK3 => ?_
 refine wp_seq_k fun K4 hK4 => ?_
 refine wp_region_lit ?_
 refine seg ha 10 [(0, .slice ao1 a0.length cap1), (1, .int .u64 a1), (2, .int .i64 a2), (3, .bool a3), (4, .bool a4), (10, .slice none 0 0), (11, .string (bstr ([] : List UInt8))), (28, .bool (if (if (decide (a2 < (2 : Int))) = true then true else (a2 == (10 : Int))) = true then true else (decide (a2 > (36 : Int)))))] (by kernel_rfl) fun a ha => ?_
 refine hK4 _ _ ?_; try clear hK4 K4
 refine cnd ha rfl (fun hc5 => ?_) (fun hc5 => ?_)
 ·have H := ite_t hc5 H
  exact nomatch (show none = some _ from H)
 ·have H := ite_f hc5 H
  refine wp_skip ?_
  refine hK3 _ _ ?_; try clear hK3 K3
  refine wp_seq_k fun K6 hK6 => ?_
  refine wp_region_lit ?_
  refine al (cs := (cA .u8 65 (List.replicate 65 (0 : Int)))) (z := .agg (cA .u8 65 (List.replicate 65 (0 : Int))).toArray) ha (fun w => by kernel_rfl) rfl rfl rfl rfl fun a w7 g8 hN9 ha => ?_
  have o1 : Ok [] (M) w.heap.size := Ok.nil _ _
  have o2 : Ok ([g8] ++ (M)) (M) w.heap.size := (Ok.app (hN9.ok _) (Ok.refl _ _))
  have hG := hG.chg hN9.chg o1 o2
  have f1 := f1.chg hN9.chg o1 o2
  have p_i10_M : ∀ x ∈ [g8], x ∉ M := fun x hx hy => absurd (hM x (hy)) (Nat.not_lt.2 ((hN9.ge1) x hx))
  have e_i10 : ∀ x ∈ [g8], w.heap.size ≤ x := fun x hx => Nat.le_trans hC.size ((hN9.ge1) x hx)
  have hM : MS ([g8] ++ (M)) w7 := (MS.app hN9.ms (hM.chg hN9.chg))
  have hC := hC.trans hN9.chg (Ok.nil _ _)
  have hBg8 : Box w7 g8 (cA .u8 65 (List.replicate 65 (0 : Int))) := hN9.box
  refine hK6 _ _ ?_; try clear hK6 K6
  refine wp_seq_k fun K11 hK11 => ?_
  refine wp_region_lit ?_
  refine seg ha 1 [(0, .slice ao1 a0.length cap1), (1, .int .u64 a1), (2, .int .i64 a2), (3, .bool a3), (4, .bool a4), (10, .slice none 0 0), (11, .string (bstr ([] : List UInt8))), (12, .pointer (some ⟨g8, 0, none⟩)), (13, .int .i64 (65 : Int))] (by kernel_rfl) fun a ha => ?_
  refine hK11 _ _ ?_; try clear hK11 K11
  refine wp_seq_k fun K12 hK12 => ?_
  obtain ⟨s13, H13, H⟩ := bind_some H
  have J13 : ∀ (a : Act) (w13 : World), Has a Tryd.f93.ntmps [(0, .slice ao1 a0.length cap1), (1, .int .u64 s13), (2, .int .i64 a2), (3, .bool a3), (4, .bool a4), (10, .slice none 0 0), (11, .string (bstr ([] : List UInt8))), (12, .pointer (some ⟨g8, 0, none⟩)), (13, .int .i64 (65 : Int))] → (RSl (rInt .u8) 5 w13 ([g8] ++ (M)) ao1 cap1 a0) → (Box w13 g8 (cA .u8 65 (List.replicate 65 (0 : Int)))) → (GF w13 ([g8] ++ (M))) → (Chg [] w w13) → (MS ([g8] ++ (M)) w13) → K12 a w13 := by
   intro a w13 ha f1 hBg8 hG hC hM
   refine hK12 _ _ ?_; try clear hK12 K12
   refine wp_seq_k fun K14 hK14 => ?_
   obtain ⟨s15, H15, H⟩ := bind_some H
   have J15 : ∀ (a : Act) (w15 : World), Has a Tryd.f93.ntmps [(0, .slice ao1 a0.length cap1), (3, .bool a3), (4, .bool a4), (10, .slice none 0 0), (11, .string (bstr ([] : List UInt8))), (12, .pointer (some ⟨g8, 0, none⟩)), (13, .int .i64 s15.1)] → (RSl (rInt .u8) 5 w15 ([g8] ++ (M)) ao1 cap1 a0) → (Box w15 g8 (cA .u8 65 s15.2)) → (GF w15 ([g8] ++ (M))) → (Chg [] w w15) → (MS ([g8] ++ (M)) w15) → K14 a w15 := by
    intro a w15 ha f1 hBg8 hG hC hM
    refine hK14 _ _ ?_; try clear hK14 K14
    refine wp_seq_k fun K16 hK16 => ?_
    obtain ⟨s17, H17, H⟩ := bind_some H
    have J17 : ∀ (a : Act) (w17 : World), Has a Tryd.f93.ntmps [(0, .slice ao1 a0.length cap1), (4, .bool a4), (10, .slice none 0 0), (11, .string (bstr ([] : List UInt8))), (12, .pointer (some ⟨g8, 0, none⟩)), (13, .int .i64 s17.1)] → (RSl (rInt .u8) 5 w17 ([g8] ++ (M)) ao1 cap1 a0) → (Box w17 g8 (cA .u8 65 s17.2)) → (GF w17 ([g8] ++ (M))) → (Chg [] w w17) → (MS ([g8] ++ (M)) w17) → K16 a w17 := by
     intro a w17 ha f1 hBg8 hG hC hM
     refine hK16 _ _ ?_; try clear hK16 K16
     refine wp_seq_k fun K18 hK18 => ?_
     refine wp_seq_k fun K19 hK19 => ?_
     refine wp_region_lit ?_
     refine seg ha 1 [(0, .slice ao1 a0.length cap1), (10, .slice none 0 0), (11, .string (bstr ([] : List UInt8))), (12, .pointer (some ⟨g8, 0, none⟩)), (13, .int .i64 s17.1), (94, .bool a4)] (by kernel_rfl) fun a ha => ?_
     refine hK19 _ _ ?_; try clear hK19 K19
     refine cnd ha rfl (fun hc20 => ?_) (fun hc20 => ?_)
     ·have H := ite_t hc20 H
      exact nomatch (show none = some _ from H)
     ·have H := ite_f hc20 H
      refine wp_skip ?_
      refine hK18 _ _ ?_; try clear hK18 K18
      refine wp_seq_k fun K21 hK21 => ?_
      refine wp_region_lit ?_
      refine seg ha 1 [(10, .slice none 0 0), (12, .pointer (some ⟨g8, 0, none⟩)), (99, .int .i64 s17.1)] (by kernel_rfl) fun a ha => ?_
      have fw22 : RSl (rInt .u8) 5 w17 (butL g8 w17) (some ⟨g8, 0, none⟩) 65 (arL 65 s17.2) := RSl.ofA ([] : List Value) ([] : List Value) (Box.cells hBg8) butL_self (by kernel_rfl) rfl
      obtain ⟨⟨hx23, hx23', hx23''⟩, H⟩ := ite_some H
      obtain ⟨ao23, cap23, f23, hr23⟩ := slA_run (kk := .u8) (T := 5) (N := 65) (g := g8) (o' := 0) (xs := (arL 65 s17.2)) (t := 125) (lo := (Option.some (Operand.tmp 99))) (hi := Option.none) (l := s17.1) (h := (65 : Int)) (dd := some 100) (ty := 43) (pos := "itoa.go:146") (af := #[{ on := 0, ground := Ground.data }]) (gd := Option.none) ha (by kernel_rfl) (by kernel_rfl) (x := (Operand.tmp 12)) rfl (arL_length _ _) rfl rfl fw22 hx23 hx23' (by rw [arL_length]; exact hx23'')
      refine hop (v := .slice ao23 (((arL 65 s17.2).take (Int.toNat (65 : Int))).drop (Int.toNat s17.1)).length cap23) (w' := w17) ha rfl rfl rfl (hr23 _) fun a ha => ?_
      refine cvs ha rfl (by kernel_rfl) (by kernel_rfl) (by kernel_rfl) rfl rfl rfl f23 fun a ha => ?_
      refine seg ha 1 [(10, .slice none 0 0), (11, .string (bstr (b2s (((arL 65 s17.2).take (Int.toNat (65 : Int))).drop (Int.toNat s17.1)))))] (by kernel_rfl) fun a ha => ?_
      refine hK21 _ _ ?_; try clear hK21 K21
      refine wp_ret ?_
      try simp only [Exit.then, Exit.inBlock]
      have o1 : Ok [] ([g8] ++ (M)) w17.heap.size := Ok.nil _ _
      have o2 : Ok (blkL none ++ (M)) ([g8] ++ (M)) w17.heap.size := (Ok.app (fun _ h => nomatch h) (fun _ h => .inl (mr (h))))
      have hG := hG.chg (Chg.refl [] _) o1 o2
      have hBg8 := hBg8.chg (Chg.refl [] _) (fun h => nomatch h)
      have p_z24_M : ∀ x ∈ blkL none, x ∉ M := fun x hx hy => absurd (hM x (mr (hy))) (Nat.not_lt.2 ((fun _ h => nomatch h) x hx))
      have e_z24 : ∀ x ∈ blkL none, w.heap.size ≤ x := fun x hx => Nat.le_trans hC.size ((fun _ h => nomatch h) x hx)
      have hM : MS (blkL none ++ (M)) w17 := (MS.app (fun _ h => nomatch h) (fun x h => hM.chg (Chg.refl [] _) x (mr (h))))
      have hC := hC.trans (Chg.refl [] _) (Ok.nil _ _)
      obtain rfl := Option.some.inj H
      refine rt2 ha rfl rfl rfl ?_
      exact ⟨none, 0, rfl, Own.nil, e_z24, hC, hM⟩
    have H := H17
    refine wp_seq_k fun K25 hK25 => ?_
    refine wp_region_lit ?_
    refine seg ha 1 [(0, .slice ao1 a0.length cap1), (4, .bool a4), (10, .slice none 0 0), (11, .string (bstr ([] : List UInt8))), (12, .pointer (some ⟨g8, 0, none⟩)), (13, .int .i64 s15.1), (89, .bool a3)] (by kernel_rfl) fun a ha => ?_
    refine hK25 _ _ ?_; try clear hK25 K25
    refine cnd ha rfl (fun hc26 => ?_) (fun hc26 => ?_)
    ·have H := ite_t hc26 H
     refine wp_seq_k fun K27 hK27 => ?_
     refine wp_region_lit ?_
     refine seg ha 3 [(0, .slice ao1 a0.length cap1), (4, .bool a4), (10, .slice none 0 0), (11, .string (bstr ([] : List UInt8))), (12, .pointer (some ⟨g8, 0, none⟩)), (13, .int .i64 (IntKind.i64.wrap (s15.1 - (1 : Int))))] (by kernel_rfl) fun a ha => ?_
     refine hK27 _ _ ?_; try clear hK27 K27
     refine wp_region_lit ?_
     refine seg ha 1 [(0, .slice ao1 a0.length cap1), (4, .bool a4), (10, .slice none 0 0), (11, .string (bstr ([] : List UInt8))), (12, .pointer (some ⟨g8, 0, none⟩)), (13, .int .i64 (IntKind.i64.wrap (s15.1 - (1 : Int)))), (92, .int .i64 (IntKind.i64.wrap (s15.1 - (1 : Int))))] (by kernel_rfl) fun a ha => ?_
     obtain ⟨⟨hx28, hx28'⟩, H⟩ := ite_some H
     have hi28 : (Int.toNat (IntKind.i64.wrap (s15.1 - (1 : Int)))) < 65 := by omega
     refine hop (v := .pointer (some ⟨g8, 0 + (Int.toNat (IntKind.i64.wrap (s15.1 - (1 : Int)))), none⟩)) (w' := w15) ha rfl rfl rfl (ixA_run (T := 5) (N := 65) (g := g8) (o' := 0) (k := .i64) (i := IntKind.i64.wrap (s15.1 - (1 : Int))) ha (by kernel_rfl) (by kernel_rfl) (by rfl) (by rfl) hx28 hx28' _) fun a ha => ?_
     refine st (o' := 0 + (Int.toNat (IntKind.i64.wrap (s15.1 - (1 : Int))))) ha rfl rfl rfl (by kernel_rfl) rfl rfl hBg8 (arr_lt (k := .u8) (m := 65) (x := s15.2) ([] : List Value) ([] : List Value) (by kernel_rfl) hi28) fun a w29 ha hb2 hc30 _ => ?_
     have o1 : Ok [g8] ([g8] ++ (M)) w15.heap.size := (fun _ h => .inl (ml h))
     have o2 : Ok ([g8] ++ (M)) ([g8] ++ (M)) w15.heap.size := (Ok.refl _ _)
     have hG := hG.chg hc30 o1 o2
     have f1 := f1.chg hc30 o1 o2
     have hM : MS ([g8] ++ (M)) w29 := (hM.chg hc30)
     have hC := hC.trans hc30 (fun x h => .inr (e_i10 x h))
     have hBg8 : Box w29 g8 (cA .u8 65 ((arL 65 s15.2).set (Int.toNat (IntKind.i64.wrap (s15.1 - (1 : Int)))) (45 : Int))) := Box.setA (k := .u8) (m := 65) (x := s15.2) ([] : List Value) ([] : List Value) hb2 (by kernel_rfl) hi28 (by kernel_rfl)
     obtain rfl := Option.some.inj H
     exact J17 _ _ (ha.sel (by kernel_rfl)) f1 hBg8 hG hC hM
    ·have H := ite_f hc26 H
     refine wp_skip ?_
     obtain rfl := Option.some.inj H
     exact J17 _ _ (ha.sel (by kernel_rfl)) f1 hBg8 hG hC hM
   have H := H15
   refine wp_seq_k fun K31 hK31 => ?_
   refine wp_region_lit ?_
   refine seg ha 1 [(0, .slice ao1 a0.length cap1), (1, .int .u64 s13), (2, .int .i64 a2), (3, .bool a3), (4, .bool a4), (10, .slice none 0 0), (11, .string (bstr ([] : List UInt8))), (12, .pointer (some ⟨g8, 0, none⟩)), (13, .int .i64 (65 : Int)), (33, .int .i64 a2)] (by kernel_rfl) fun a ha => ?_
   obtain ⟨t32, H32, H⟩ := bind_some H
   refine cl ha (by rfl) (by kernel_rfl) (by rfl) (by rfl) (by rfl) (strconv_isPowerOfTwo.walk w13 _ hM a2 _ H32) ?_
   rintro _ w32 ⟨rfl, hc32, hMn⟩ a ha
   have o1 : Ok [] ([g8] ++ (M)) w13.heap.size := Ok.nil _ _
   have o2 : Ok ([g8] ++ (M)) ([g8] ++ (M)) w13.heap.size := (Ok.refl _ _)
   have hG := hG.chg hc32 o1 o2
   have f1 := f1.chg hc32 o1 o2
   have hBg8 := hBg8.chg hc32 (fun h => nomatch h)
   have hM : MS ([g8] ++ (M)) w32 := (hM.chg hc32)
   have hC := hC.trans hc32 (Ok.nil _ _)
   refine hK31 _ _ ?_; try clear hK31 K31
   refine cnd ha rfl (fun hc33 => ?_) (fun hc33 => ?_)
   ·have H := ite_t hc33 H
    refine wp_seq_k fun K34 hK34 => ?_
    refine wp_region_lit ?_
    refine seg ha 2 [(0, .slice ao1 a0.length cap1), (1, .int .u64 s13), (2, .int .i64 a2), (3, .bool a3), (4, .bool a4), (10, .slice none 0 0), (11, .string (bstr ([] : List UInt8))), (12, .pointer (some ⟨g8, 0, none⟩)), (13, .int .i64 (65 : Int)), (36, .int .u64 (IntKind.u64.wrap a2))] (by kernel_rfl) fun a ha => ?_
    obtain ⟨t35, H35, H⟩ := bind_some H
    refine cl ha (by rfl) (by kernel_rfl) (by rfl) (by rfl) (by rfl) (bits_TrailingZeros.walk w32 _ hM hG (IntKind.u64.wrap a2) _ H35) ?_
    rintro _ w35 ⟨rfl, hc35, hMn⟩ a ha
    have o1 : Ok [] ([g8] ++ (M)) w32.heap.size := Ok.nil _ _
    have o2 : Ok ([g8] ++ (M)) ([g8] ++ (M)) w32.heap.size := (Ok.refl _ _)
    have hG := hG.chg hc35 o1 o2
    have f1 := f1.chg hc35 o1 o2
    have hBg8 := hBg8.chg hc35 (fun h => nomatch h)
    have hM : MS ([g8] ++ (M)) w35 := (hM.chg hc35)
    have hC := hC.trans hc35 (Ok.nil _ _)
    refine seg ha 2 [(0, .slice ao1 a0.length cap1), (1, .int .u64 s13), (2, .int .i64 a2), (3, .bool a3), (4, .bool a4), (10, .slice none 0 0), (11, .string (bstr ([] : List UInt8))), (12, .pointer (some ⟨g8, 0, none⟩)), (13, .int .i64 (65 : Int)), (14, .int .u64 (IntKind.u64.wrap t35))] (by kernel_rfl) fun a ha => ?_
    refine hK34 _ _ ?_; try clear hK34 K34
    refine wp_seq_k fun K36 hK36 => ?_
    refine wp_region_lit ?_
    refine seg ha 3 [(0, .slice ao1 a0.length cap1), (1, .int .u64 s13), (2, .int .i64 a2), (3, .bool a3), (4, .bool a4), (10, .slice none 0 0), (11, .string (bstr ([] : List UInt8))), (12, .pointer (some ⟨g8, 0, none⟩)), (13, .int .i64 (65 : Int)), (14, .int .u64 (IntKind.u64.wrap t35)), (15, .int .u64 (IntKind.u64.wrap a2))] (by kernel_rfl) fun a ha => ?_
    refine hK36 _ _ ?_; try clear hK36 K36
    refine wp_seq_k fun K37 hK37 => ?_
    refine wp_region_lit ?_
    refine seg ha 4 [(0, .slice ao1 a0.length cap1), (1, .int .u64 s13), (3, .bool a3), (4, .bool a4), (10, .slice none 0 0), (11, .string (bstr ([] : List UInt8))), (12, .pointer (some ⟨g8, 0, none⟩)), (13, .int .i64 (65 : Int)), (14, .int .u64 (IntKind.u64.wrap t35)), (15, .int .u64 (IntKind.u64.wrap a2)), (16, .int .u64 (IntKind.u64.wrap ((IntKind.u64.wrap a2) - (1 : Int))))] (by kernel_rfl) fun a ha => ?_
    refine hK37 _ _ ?_; try clear hK37 K37
    refine wp_seq_k fun K38 hK38 => ?_
    refine wp_block ?_
    obtain ⟨s39, H39, H⟩ := bind_some H
    have J39 : ∀ (a : Act) (wx39 : World), Has a Tryd.f93.ntmps [(0, .slice ao1 a0.length cap1), (1, .int .u64 s39.1), (3, .bool a3), (4, .bool a4), (10, .slice none 0 0), (11, .string (bstr ([] : List UInt8))), (12, .pointer (some ⟨g8, 0, none⟩)), (13, .int .i64 s39.2.1)] → (RSl (rInt .u8) 5 wx39 ([g8] ++ (M)) ao1 cap1 a0) → (Box wx39 g8 (cA .u8 65 s39.2.2)) → (GF wx39 ([g8] ++ (M))) → (Chg [] w wx39) → (MS ([g8] ++ (M)) wx39) → K38 a wx39 := by
     intro a wx39 ha f1 hBg8 hG hC hM
     refine hK38 _ _ ?_; try clear hK38 K38
     refine wp_seq_k fun K43 hK43 => ?_
     refine wp_region_lit ?_
     refine seg ha 3 [(0, .slice ao1 a0.length cap1), (1, .int .u64 s39.1), (3, .bool a3), (4, .bool a4), (10, .slice none 0 0), (11, .string (bstr ([] : List UInt8))), (12, .pointer (some ⟨g8, 0, none⟩)), (13, .int .i64 (IntKind.i64.wrap (s39.2.1 - (1 : Int))))] (by kernel_rfl) fun a ha => ?_
     refine hK43 _ _ ?_; try clear hK43 K43
     refine wp_region_lit ?_
     refine seg ha 2 [(0, .slice ao1 a0.length cap1), (3, .bool a3), (4, .bool a4), (10, .slice none 0 0), (11, .string (bstr ([] : List UInt8))), (12, .pointer (some ⟨g8, 0, none⟩)), (13, .int .i64 (IntKind.i64.wrap (s39.2.1 - (1 : Int)))), (60, .int .i64 (IntKind.i64.wrap (s39.2.1 - (1 : Int)))), (61, .int .u64 s39.1)] (by kernel_rfl) fun a ha => ?_
     obtain ⟨⟨hx44, hx44'⟩, H⟩ := ite_some H
     refine hop (v := .int .u8 ((([48, 49, 50, 51, 52, 53, 54, 55, 56, 57, 97, 98, 99, 100, 101, 102, 103, 104, 105, 106, 107, 108, 109, 110, 111, 112, 113, 114, 115, 116, 117, 118, 119, 120, 121, 122] : List UInt8).getD (Int.toNat s39.1) 0).toNat : Int)) (w' := wx39) ha rfl rfl rfl (sidx_run (l := ([48, 49, 50, 51, 52, 53, 54, 55, 56, 57, 97, 98, 99, 100, 101, 102, 103, 104, 105, 106, 107, 108, 109, 110, 111, 112, 113, 114, 115, 116, 117, 118, 119, 120, 121, 122] : List UInt8)) (k := .u64) (i := s39.1) ha (by kernel_rfl) (by rfl) (by rfl) hx44 hx44' _) fun a ha => ?_
     obtain ⟨⟨hx45, hx45'⟩, H⟩ := ite_some H
     have hi45 : (Int.toNat (IntKind.i64.wrap (s39.2.1 - (1 : Int)))) < 65 := by omega
     refine hop (v := .pointer (some ⟨g8, 0 + (Int.toNat (IntKind.i64.wrap (s39.2.1 - (1 : Int)))), none⟩)) (w' := wx39) ha rfl rfl rfl (ixA_run (T := 5) (N := 65) (g := g8) (o' := 0) (k := .i64) (i := IntKind.i64.wrap (s39.2.1 - (1 : Int))) ha (by kernel_rfl) (by kernel_rfl) (by rfl) (by rfl) hx45 hx45' _) fun a ha => ?_
     refine st (o' := 0 + (Int.toNat (IntKind.i64.wrap (s39.2.1 - (1 : Int))))) ha rfl rfl rfl (by kernel_rfl) rfl rfl hBg8 (arr_lt (k := .u8) (m := 65) (x := s39.2.2) ([] : List Value) ([] : List Value) (by kernel_rfl) hi45) fun a w46 ha hb2 hc47 _ => ?_
     have o1 : Ok [g8] ([g8] ++ (M)) wx39.heap.size := (fun _ h => .inl (ml h))
     have o2 : Ok ([g8] ++ (M)) ([g8] ++ (M)) wx39.heap.size := (Ok.refl _ _)
     have hG := hG.chg hc47 o1 o2
     have f1 := f1.chg hc47 o1 o2
     have hM : MS ([g8] ++ (M)) w46 := (hM.chg hc47)
     have hC := hC.trans hc47 (fun x h => .inr (e_i10 x h))
     have hBg8 : Box w46 g8 (cA .u8 65 ((arL 65 s39.2.2).set (Int.toNat (IntKind.i64.wrap (s39.2.1 - (1 : Int)))) ((([48, 49, 50, 51, 52, 53, 54, 55, 56, 57, 97, 98, 99, 100, 101, 102, 103, 104, 105, 106, 107, 108, 109, 110, 111, 112, 113, 114, 115, 116, 117, 118, 119, 120, 121, 122] : List UInt8).getD (Int.toNat s39.1) 0).toNat : Int))) := Box.setA (k := .u8) (m := 65) (x := s39.2.2) ([] : List Value) ([] : List Value) hb2 (by kernel_rfl) hi45 (by kernel_rfl)
     obtain rfl := Option.some.inj H
     exact J15 _ _ (ha.sel (by kernel_rfl)) f1 hBg8 hG hC hM
    have Hc39 := H
    have H := H39
    refine wp_loop_ghost (fun kk a w39 => ∃ (x40 : Int) (x41 : Int) (x42 : List Int), strconv_formatBits.l0 a2 t35 kk x40 x41 x42 = some s39 ∧ Has a Tryd.f93.ntmps [(0, .slice ao1 a0.length cap1), (1, .int .u64 x40), (3, .bool a3), (4, .bool a4), (10, .slice none 0 0), (11, .string (bstr ([] : List UInt8))), (12, .pointer (some ⟨g8, 0, none⟩)), (13, .int .i64 x41), (14, .int .u64 (IntKind.u64.wrap t35)), (15, .int .u64 (IntKind.u64.wrap a2)), (16, .int .u64 (IntKind.u64.wrap ((IntKind.u64.wrap a2) - (1 : Int))))] ∧ (RSl (rInt .u8) 5 w39 ([g8] ++ (M)) ao1 cap1 a0) ∧ (Box w39 g8 (cA .u8 65 x42)) ∧ (GF w39 ([g8] ++ (M))) ∧ (Chg [] w w39) ∧ (MS ([g8] ++ (M)) w39)) k ?_ ?_
    ·skip
     exact ⟨s13, (65 : Int), (List.replicate 65 (0 : Int)), H, (ha.sel (by kernel_rfl)), f1, hBg8, hG, hC, hM⟩
    ·rintro kk a w39 ⟨x40, x41, x42, H, ha, f1, hBg8, hG, hC, hM⟩
     obtain _ | kk := kk
     ·exact nomatch (show none = some _ from H)
     rw [strconv_formatBits.l0] at H
     refine wp_seq_k fun K48 hK48 => ?_
     refine wp_seq_k fun K49 hK49 => ?_
     refine wp_region_lit ?_
     refine seg ha 3 [(0, .slice ao1 a0.length cap1), (1, .int .u64 x40), (3, .bool a3), (4, .bool a4), (10, .slice none 0 0), (11, .string (bstr ([] : List UInt8))), (12, .pointer (some ⟨g8, 0, none⟩)), (13, .int .i64 x41), (14, .int .u64 (IntKind.u64.wrap t35)), (15, .int .u64 (IntKind.u64.wrap a2)), (16, .int .u64 (IntKind.u64.wrap ((IntKind.u64.wrap a2) - (1 : Int)))), (46, .bool (decide (x40 ≥ (IntKind.u64.wrap a2))))] (by kernel_rfl) fun a ha => ?_
     refine hK49 _ _ ?_; try clear hK49 K49
     refine cnd ha rfl (fun hc50 => ?_) (fun hc50 => ?_)
     ·have H := ite_t hc50 H
      refine wp_skip ?_
      refine hK48 _ _ ?_; try clear hK48 K48
      refine wp_block ?_
      refine wp_seq_k fun K51 hK51 => ?_
      refine wp_region_lit ?_
      refine seg ha 3 [(0, .slice ao1 a0.length cap1), (1, .int .u64 x40), (3, .bool a3), (4, .bool a4), (10, .slice none 0 0), (11, .string (bstr ([] : List UInt8))), (12, .pointer (some ⟨g8, 0, none⟩)), (13, .int .i64 (IntKind.i64.wrap (x41 - (1 : Int)))), (14, .int .u64 (IntKind.u64.wrap t35)), (15, .int .u64 (IntKind.u64.wrap a2)), (16, .int .u64 (IntKind.u64.wrap ((IntKind.u64.wrap a2) - (1 : Int))))] (by kernel_rfl) fun a ha => ?_
      refine hK51 _ _ ?_; try clear hK51 K51
      refine wp_seq_k fun K52 hK52 => ?_
      refine wp_region_lit ?_
      refine seg ha 4 [(0, .slice ao1 a0.length cap1), (1, .int .u64 x40), (3, .bool a3), (4, .bool a4), (10, .slice none 0 0), (11, .string (bstr ([] : List UInt8))), (12, .pointer (some ⟨g8, 0, none⟩)), (13, .int .i64 (IntKind.i64.wrap (x41 - (1 : Int)))), (14, .int .u64 (IntKind.u64.wrap t35)), (15, .int .u64 (IntKind.u64.wrap a2)), (16, .int .u64 (IntKind.u64.wrap ((IntKind.u64.wrap a2) - (1 : Int)))), (49, .int .i64 (IntKind.i64.wrap (x41 - (1 : Int)))), (52, .int .u64 (IntKind.u64.wrap (BitVec.ofInt IntKind.u64.bits x40 &&& BitVec.ofInt IntKind.u64.bits (IntKind.u64.wrap ((IntKind.u64.wrap a2) - (1 : Int)))).toNat))] (by kernel_rfl) fun a ha => ?_
      obtain ⟨⟨hx53, hx53'⟩, H⟩ := ite_some H
      refine hop (v := .int .u8 ((([48, 49, 50, 51, 52, 53, 54, 55, 56, 57, 97, 98, 99, 100, 101, 102, 103, 104, 105, 106, 107, 108, 109, 110, 111, 112, 113, 114, 115, 116, 117, 118, 119, 120, 121, 122] : List UInt8).getD (Int.toNat (IntKind.u64.wrap (BitVec.ofInt IntKind.u64.bits x40 &&& BitVec.ofInt IntKind.u64.bits (IntKind.u64.wrap ((IntKind.u64.wrap a2) - (1 : Int)))).toNat)) 0).toNat : Int)) (w' := w39) ha rfl rfl rfl (sidx_run (l := ([48, 49, 50, 51, 52, 53, 54, 55, 56, 57, 97, 98, 99, 100, 101, 102, 103, 104, 105, 106, 107, 108, 109, 110, 111, 112, 113, 114, 115, 116, 117, 118, 119, 120, 121, 122] : List UInt8)) (k := .u64) (i := IntKind.u64.wrap (BitVec.ofInt IntKind.u64.bits x40 &&& BitVec.ofInt IntKind.u64.bits (IntKind.u64.wrap ((IntKind.u64.wrap a2) - (1 : Int)))).toNat) ha (by kernel_rfl) (by rfl) (by rfl) hx53 hx53' _) fun a ha => ?_
      obtain ⟨⟨hx54, hx54'⟩, H⟩ := ite_some H
      have hi54 : (Int.toNat (IntKind.i64.wrap (x41 - (1 : Int)))) < 65 := by omega
      refine hop (v := .pointer (some ⟨g8, 0 + (Int.toNat (IntKind.i64.wrap (x41 - (1 : Int)))), none⟩)) (w' := w39) ha rfl rfl rfl (ixA_run (T := 5) (N := 65) (g := g8) (o' := 0) (k := .i64) (i := IntKind.i64.wrap (x41 - (1 : Int))) ha (by kernel_rfl) (by kernel_rfl) (by rfl) (by rfl) hx54 hx54' _) fun a ha => ?_
      refine st (o' := 0 + (Int.toNat (IntKind.i64.wrap (x41 - (1 : Int))))) ha rfl rfl rfl (by kernel_rfl) rfl rfl hBg8 (arr_lt (k := .u8) (m := 65) (x := x42) ([] : List Value) ([] : List Value) (by kernel_rfl) hi54) fun a w55 ha hb2 hc56 _ => ?_
      have o1 : Ok [g8] ([g8] ++ (M)) w39.heap.size := (fun _ h => .inl (ml h))
      have o2 : Ok ([g8] ++ (M)) ([g8] ++ (M)) w39.heap.size := (Ok.refl _ _)
      have hG := hG.chg hc56 o1 o2
      have f1 := f1.chg hc56 o1 o2
      have hM : MS ([g8] ++ (M)) w55 := (hM.chg hc56)
      have hC := hC.trans hc56 (fun x h => .inr (e_i10 x h))
      have hBg8 : Box w55 g8 (cA .u8 65 ((arL 65 x42).set (Int.toNat (IntKind.i64.wrap (x41 - (1 : Int)))) ((([48, 49, 50, 51, 52, 53, 54, 55, 56, 57, 97, 98, 99, 100, 101, 102, 103, 104, 105, 106, 107, 108, 109, 110, 111, 112, 113, 114, 115, 116, 117, 118, 119, 120, 121, 122] : List UInt8).getD (Int.toNat (IntKind.u64.wrap (BitVec.ofInt IntKind.u64.bits x40 &&& BitVec.ofInt IntKind.u64.bits (IntKind.u64.wrap ((IntKind.u64.wrap a2) - (1 : Int)))).toNat)) 0).toNat : Int))) := Box.setA (k := .u8) (m := 65) (x := x42) ([] : List Value) ([] : List Value) hb2 (by kernel_rfl) hi54 (by kernel_rfl)
      refine hK52 _ _ ?_; try clear hK52 K52
      refine wp_region_lit ?_
      refine seg ha 2 [(0, .slice ao1 a0.length cap1), (3, .bool a3), (4, .bool a4), (10, .slice none 0 0), (11, .string (bstr ([] : List UInt8))), (12, .pointer (some ⟨g8, 0, none⟩)), (13, .int .i64 (IntKind.i64.wrap (x41 - (1 : Int)))), (14, .int .u64 (IntKind.u64.wrap t35)), (15, .int .u64 (IntKind.u64.wrap a2)), (16, .int .u64 (IntKind.u64.wrap ((IntKind.u64.wrap a2) - (1 : Int)))), (55, .int .u64 x40), (56, .int .u64 (IntKind.u64.wrap t35))] (by kernel_rfl) fun a ha => ?_
      obtain ⟨hx57, H⟩ := ite_some H
      refine hop (v := .int .u64 (Int.fdiv x40 (2 ^ (min (Int.toNat (IntKind.u64.wrap t35)) IntKind.u64.bits)))) (w' := w55) ha rfl rfl rfl (shr_run ha (by rfl) (by rfl) hx57 _) fun a ha => ?_
      refine seg ha 1 [(0, .slice ao1 a0.length cap1), (1, .int .u64 (Int.fdiv x40 (2 ^ (min (Int.toNat (IntKind.u64.wrap t35)) IntKind.u64.bits)))), (3, .bool a3), (4, .bool a4), (10, .slice none 0 0), (11, .string (bstr ([] : List UInt8))), (12, .pointer (some ⟨g8, 0, none⟩)), (13, .int .i64 (IntKind.i64.wrap (x41 - (1 : Int)))), (14, .int .u64 (IntKind.u64.wrap t35)), (15, .int .u64 (IntKind.u64.wrap a2)), (16, .int .u64 (IntKind.u64.wrap ((IntKind.u64.wrap a2) - (1 : Int))))] (by kernel_rfl) fun a ha => ?_
      exact ⟨kk, Nat.lt_succ_self _, ⟨Int.fdiv x40 (2 ^ (min (Int.toNat (IntKind.u64.wrap t35)) IntKind.u64.bits)), IntKind.i64.wrap (x41 - (1 : Int)), ((arL 65 x42).set (Int.toNat (IntKind.i64.wrap (x41 - (1 : Int)))) ((([48, 49, 50, 51, 52, 53, 54, 55, 56, 57, 97, 98, 99, 100, 101, 102, 103, 104, 105, 106, 107, 108, 109, 110, 111, 112, 113, 114, 115, 116, 117, 118, 119, 120, 121, 122] : List UInt8).getD (Int.toNat (IntKind.u64.wrap (BitVec.ofInt IntKind.u64.bits x40 &&& BitVec.ofInt IntKind.u64.bits (IntKind.u64.wrap ((IntKind.u64.wrap a2) - (1 : Int)))).toNat)) 0).toNat : Int)), H, (ha.sel (by kernel_rfl)), f1, hBg8, hG, hC, hM⟩⟩
     ·have H := ite_f hc50 H
      refine wp_exit ?_
      simp only [Exit.then, Exit.inBlock, ↓reduceIte, Nat.reduceEqDiff]
      obtain rfl := Option.some.inj H
      exact J39 _ _ (ha.sel (by kernel_rfl)) f1 hBg8 hG hC hM
   ·have H := ite_f hc33 H
    refine wp_seq_k fun K58 hK58 => ?_
    refine wp_region_lit ?_
    refine seg ha 3 [(0, .slice ao1 a0.length cap1), (1, .int .u64 s13), (3, .bool a3), (4, .bool a4), (10, .slice none 0 0), (11, .string (bstr ([] : List UInt8))), (12, .pointer (some ⟨g8, 0, none⟩)), (13, .int .i64 (65 : Int)), (17, .int .u64 (IntKind.u64.wrap a2))] (by kernel_rfl) fun a ha => ?_
    refine hK58 _ _ ?_; try clear hK58 K58
    refine wp_seq_k fun K59 hK59 => ?_
    refine wp_block ?_
    obtain ⟨s60, H60, H⟩ := bind_some H
    have J60 : ∀ (a : Act) (wx60 : World), Has a Tryd.f93.ntmps [(0, .slice ao1 a0.length cap1), (1, .int .u64 s60.1), (3, .bool a3), (4, .bool a4), (10, .slice none 0 0), (11, .string (bstr ([] : List UInt8))), (12, .pointer (some ⟨g8, 0, none⟩)), (13, .int .i64 s60.2.1)] → (RSl (rInt .u8) 5 wx60 ([g8] ++ (M)) ao1 cap1 a0) → (Box wx60 g8 (cA .u8 65 s60.2.2)) → (GF wx60 ([g8] ++ (M))) → (Chg [] w wx60) → (MS ([g8] ++ (M)) wx60) → K59 a wx60 := by
     intro a wx60 ha f1 hBg8 hG hC hM
     refine hK59 _ _ ?_; try clear hK59 K59
     refine wp_seq_k fun K64 hK64 => ?_
     refine wp_region_lit ?_
     refine seg ha 3 [(0, .slice ao1 a0.length cap1), (1, .int .u64 s60.1), (3, .bool a3), (4, .bool a4), (10, .slice none 0 0), (11, .string (bstr ([] : List UInt8))), (12, .pointer (some ⟨g8, 0, none⟩)), (13, .int .i64 (IntKind.i64.wrap (s60.2.1 - (1 : Int))))] (by kernel_rfl) fun a ha => ?_
     refine hK64 _ _ ?_; try clear hK64 K64
     refine wp_region_lit ?_
     refine seg ha 2 [(0, .slice ao1 a0.length cap1), (3, .bool a3), (4, .bool a4), (10, .slice none 0 0), (11, .string (bstr ([] : List UInt8))), (12, .pointer (some ⟨g8, 0, none⟩)), (13, .int .i64 (IntKind.i64.wrap (s60.2.1 - (1 : Int)))), (85, .int .i64 (IntKind.i64.wrap (s60.2.1 - (1 : Int)))), (86, .int .u64 s60.1)] (by kernel_rfl) fun a ha => ?_
     obtain ⟨⟨hx65, hx65'⟩, H⟩ := ite_some H
     refine hop (v := .int .u8 ((([48, 49, 50, 51, 52, 53, 54, 55, 56, 57, 97, 98, 99, 100, 101, 102, 103, 104, 105, 106, 107, 108, 109, 110, 111, 112, 113, 114, 115, 116, 117, 118, 119, 120, 121, 122] : List UInt8).getD (Int.toNat s60.1) 0).toNat : Int)) (w' := wx60) ha rfl rfl rfl (sidx_run (l := ([48, 49, 50, 51, 52, 53, 54, 55, 56, 57, 97, 98, 99, 100, 101, 102, 103, 104, 105, 106, 107, 108, 109, 110, 111, 112, 113, 114, 115, 116, 117, 118, 119, 120, 121, 122] : List UInt8)) (k := .u64) (i := s60.1) ha (by kernel_rfl) (by rfl) (by rfl) hx65 hx65' _) fun a ha => ?_
     obtain ⟨⟨hx66, hx66'⟩, H⟩ := ite_some H
     have hi66 : (Int.toNat (IntKind.i64.wrap (s60.2.1 - (1 : Int)))) < 65 := by omega
     refine hop (v := .pointer (some ⟨g8, 0 + (Int.toNat (IntKind.i64.wrap (s60.2.1 - (1 : Int)))), none⟩)) (w' := wx60) ha rfl rfl rfl (ixA_run (T := 5) (N := 65) (g := g8) (o' := 0) (k := .i64) (i := IntKind.i64.wrap (s60.2.1 - (1 : Int))) ha (by kernel_rfl) (by kernel_rfl) (by rfl) (by rfl) hx66 hx66' _) fun a ha => ?_
     refine st (o' := 0 + (Int.toNat (IntKind.i64.wrap (s60.2.1 - (1 : Int))))) ha rfl rfl rfl (by kernel_rfl) rfl rfl hBg8 (arr_lt (k := .u8) (m := 65) (x := s60.2.2) ([] : List Value) ([] : List Value) (by kernel_rfl) hi66) fun a w67 ha hb2 hc68 _ => ?_
     have o1 : Ok [g8] ([g8] ++ (M)) wx60.heap.size := (fun _ h => .inl (ml h))
     have o2 : Ok ([g8] ++ (M)) ([g8] ++ (M)) wx60.heap.size := (Ok.refl _ _)
     have hG := hG.chg hc68 o1 o2
     have f1 := f1.chg hc68 o1 o2
     have hM : MS ([g8] ++ (M)) w67 := (hM.chg hc68)
     have hC := hC.trans hc68 (fun x h => .inr (e_i10 x h))
     have hBg8 : Box w67 g8 (cA .u8 65 ((arL 65 s60.2.2).set (Int.toNat (IntKind.i64.wrap (s60.2.1 - (1 : Int)))) ((([48, 49, 50, 51, 52, 53, 54, 55, 56, 57, 97, 98, 99, 100, 101, 102, 103, 104, 105, 106, 107, 108, 109, 110, 111, 112, 113, 114, 115, 116, 117, 118, 119, 120, 121, 122] : List UInt8).getD (Int.toNat s60.1) 0).toNat : Int))) := Box.setA (k := .u8) (m := 65) (x := s60.2.2) ([] : List Value) ([] : List Value) hb2 (by kernel_rfl) hi66 (by kernel_rfl)
     obtain rfl := Option.some.inj H
     exact J15 _ _ (ha.sel (by kernel_rfl)) f1 hBg8 hG hC hM
    have Hc60 := H
    have H := H60
    refine wp_loop_ghost (fun kk a w60 => ∃ (x61 : Int) (x62 : Int) (x63 : List Int), strconv_formatBits.l1 a2 kk x61 x62 x63 = some s60 ∧ Has a Tryd.f93.ntmps [(0, .slice ao1 a0.length cap1), (1, .int .u64 x61), (3, .bool a3), (4, .bool a4), (10, .slice none 0 0), (11, .string (bstr ([] : List UInt8))), (12, .pointer (some ⟨g8, 0, none⟩)), (13, .int .i64 x62), (17, .int .u64 (IntKind.u64.wrap a2))] ∧ (RSl (rInt .u8) 5 w60 ([g8] ++ (M)) ao1 cap1 a0) ∧ (Box w60 g8 (cA .u8 65 x63)) ∧ (GF w60 ([g8] ++ (M))) ∧ (Chg [] w w60) ∧ (MS ([g8] ++ (M)) w60)) k ?_ ?_
    ·skip
     exact ⟨s13, (65 : Int), (List.replicate 65 (0 : Int)), H, (ha.sel (by kernel_rfl)), f1, hBg8, hG, hC, hM⟩
    ·rintro kk a w60 ⟨x61, x62, x63, H, ha, f1, hBg8, hG, hC, hM⟩
     obtain _ | kk := kk
     ·exact nomatch (show none = some _ from H)
     rw [strconv_formatBits.l1] at H
     refine wp_seq_k fun K69 hK69 => ?_
     refine wp_seq_k fun K70 hK70 => ?_
     refine wp_region_lit ?_
     refine seg ha 3 [(0, .slice ao1 a0.length cap1), (1, .int .u64 x61), (3, .bool a3), (4, .bool a4), (10, .slice none 0 0), (11, .string (bstr ([] : List UInt8))), (12, .pointer (some ⟨g8, 0, none⟩)), (13, .int .i64 x62), (17, .int .u64 (IntKind.u64.wrap a2)), (68, .bool (decide (x61 ≥ (IntKind.u64.wrap a2))))] (by kernel_rfl) fun a ha => ?_
     refine hK70 _ _ ?_; try clear hK70 K70
     refine cnd ha rfl (fun hc71 => ?_) (fun hc71 => ?_)
     ·have H := ite_t hc71 H
      refine wp_skip ?_
      refine hK69 _ _ ?_; try clear hK69 K69
      refine wp_block ?_
      refine wp_seq_k fun K72 hK72 => ?_
      refine wp_region_lit ?_
      refine seg ha 3 [(0, .slice ao1 a0.length cap1), (1, .int .u64 x61), (3, .bool a3), (4, .bool a4), (10, .slice none 0 0), (11, .string (bstr ([] : List UInt8))), (12, .pointer (some ⟨g8, 0, none⟩)), (13, .int .i64 (IntKind.i64.wrap (x62 - (1 : Int)))), (17, .int .u64 (IntKind.u64.wrap a2))] (by kernel_rfl) fun a ha => ?_
      refine hK72 _ _ ?_; try clear hK72 K72
      refine wp_seq_k fun K73 hK73 => ?_
      refine wp_region_lit ?_
      refine seg ha 2 [(0, .slice ao1 a0.length cap1), (1, .int .u64 x61), (3, .bool a3), (4, .bool a4), (10, .slice none 0 0), (11, .string (bstr ([] : List UInt8))), (12, .pointer (some ⟨g8, 0, none⟩)), (13, .int .i64 (IntKind.i64.wrap (x62 - (1 : Int)))), (17, .int .u64 (IntKind.u64.wrap a2)), (71, .int .u64 x61), (72, .int .u64 (IntKind.u64.wrap a2))] (by kernel_rfl) fun a ha => ?_
      obtain ⟨hx74, H⟩ := ite_some H
      refine hop (v := .int .u64 (IntKind.u64.wrap (Int.tdiv x61 (IntKind.u64.wrap a2)))) (w' := w60) ha rfl rfl rfl (quo_run ha (by rfl) (by rfl) hx74 _) fun a ha => ?_
      refine seg ha 1 [(0, .slice ao1 a0.length cap1), (1, .int .u64 x61), (3, .bool a3), (4, .bool a4), (10, .slice none 0 0), (11, .string (bstr ([] : List UInt8))), (12, .pointer (some ⟨g8, 0, none⟩)), (13, .int .i64 (IntKind.i64.wrap (x62 - (1 : Int)))), (17, .int .u64 (IntKind.u64.wrap a2)), (18, .int .u64 (IntKind.u64.wrap (Int.tdiv x61 (IntKind.u64.wrap a2))))] (by kernel_rfl) fun a ha => ?_
      refine hK73 _ _ ?_; try clear hK73 K73
      refine wp_seq_k fun K75 hK75 => ?_
      refine wp_region_lit ?_
      refine seg ha 6 [(0, .slice ao1 a0.length cap1), (3, .bool a3), (4, .bool a4), (10, .slice none 0 0), (11, .string (bstr ([] : List UInt8))), (12, .pointer (some ⟨g8, 0, none⟩)), (13, .int .i64 (IntKind.i64.wrap (x62 - (1 : Int)))), (17, .int .u64 (IntKind.u64.wrap a2)), (18, .int .u64 (IntKind.u64.wrap (Int.tdiv x61 (IntKind.u64.wrap a2)))), (74, .int .i64 (IntKind.i64.wrap (x62 - (1 : Int)))), (79, .int .u64 (IntKind.u64.wrap (x61 - (IntKind.u64.wrap ((IntKind.u64.wrap (Int.tdiv x61 (IntKind.u64.wrap a2))) * (IntKind.u64.wrap a2))))))] (by kernel_rfl) fun a ha => ?_
      obtain ⟨⟨hx76, hx76'⟩, H⟩ := ite_some H
      refine hop (v := .int .u8 ((([48, 49, 50, 51, 52, 53, 54, 55, 56, 57, 97, 98, 99, 100, 101, 102, 103, 104, 105, 106, 107, 108, 109, 110, 111, 112, 113, 114, 115, 116, 117, 118, 119, 120, 121, 122] : List UInt8).getD (Int.toNat (IntKind.u64.wrap (x61 - (IntKind.u64.wrap ((IntKind.u64.wrap (Int.tdiv x61 (IntKind.u64.wrap a2))) * (IntKind.u64.wrap a2)))))) 0).toNat : Int)) (w' := w60) ha rfl rfl rfl (sidx_run (l := ([48, 49, 50, 51, 52, 53, 54, 55, 56, 57, 97, 98, 99, 100, 101, 102, 103, 104, 105, 106, 107, 108, 109, 110, 111, 112, 113, 114, 115, 116, 117, 118, 119, 120, 121, 122] : List UInt8)) (k := .u64) (i := IntKind.u64.wrap (x61 - (IntKind.u64.wrap ((IntKind.u64.wrap (Int.tdiv x61 (IntKind.u64.wrap a2))) * (IntKind.u64.wrap a2))))) ha (by kernel_rfl) (by rfl) (by rfl) hx76 hx76' _) fun a ha => ?_
      obtain ⟨⟨hx77, hx77'⟩, H⟩ := ite_some H
      have hi77 : (Int.toNat (IntKind.i64.wrap (x62 - (1 : Int)))) < 65 := by omega
      refine hop (v := .pointer (some ⟨g8, 0 + (Int.toNat (IntKind.i64.wrap (x62 - (1 : Int)))), none⟩)) (w' := w60) ha rfl rfl rfl (ixA_run (T := 5) (N := 65) (g := g8) (o' := 0) (k := .i64) (i := IntKind.i64.wrap (x62 - (1 : Int))) ha (by kernel_rfl) (by kernel_rfl) (by rfl) (by rfl) hx77 hx77' _) fun a ha => ?_
      refine st (o' := 0 + (Int.toNat (IntKind.i64.wrap (x62 - (1 : Int))))) ha rfl rfl rfl (by kernel_rfl) rfl rfl hBg8 (arr_lt (k := .u8) (m := 65) (x := x63) ([] : List Value) ([] : List Value) (by kernel_rfl) hi77) fun a w78 ha hb2 hc79 _ => ?_
      have o1 : Ok [g8] ([g8] ++ (M)) w60.heap.size := (fun _ h => .inl (ml h))
      have o2 : Ok ([g8] ++ (M)) ([g8] ++ (M)) w60.heap.size := (Ok.refl _ _)
      have hG := hG.chg hc79 o1 o2
      have f1 := f1.chg hc79 o1 o2
      have hM : MS ([g8] ++ (M)) w78 := (hM.chg hc79)
      have hC := hC.trans hc79 (fun x h => .inr (e_i10 x h))
      have hBg8 : Box w78 g8 (cA .u8 65 ((arL 65 x63).set (Int.toNat (IntKind.i64.wrap (x62 - (1 : Int)))) ((([48, 49, 50, 51, 52, 53, 54, 55, 56, 57, 97, 98, 99, 100, 101, 102, 103, 104, 105, 106, 107, 108, 109, 110, 111, 112, 113, 114, 115, 116, 117, 118, 119, 120, 121, 122] : List UInt8).getD (Int.toNat (IntKind.u64.wrap (x61 - (IntKind.u64.wrap ((IntKind.u64.wrap (Int.tdiv x61 (IntKind.u64.wrap a2))) * (IntKind.u64.wrap a2)))))) 0).toNat : Int))) := Box.setA (k := .u8) (m := 65) (x := x63) ([] : List Value) ([] : List Value) hb2 (by kernel_rfl) hi77 (by kernel_rfl)
      refine hK75 _ _ ?_; try clear hK75 K75
      refine wp_region_lit ?_
      refine seg ha 2 [(0, .slice ao1 a0.length cap1), (1, .int .u64 (IntKind.u64.wrap (Int.tdiv x61 (IntKind.u64.wrap a2)))), (3, .bool a3), (4, .bool a4), (10, .slice none 0 0), (11, .string (bstr ([] : List UInt8))), (12, .pointer (some ⟨g8, 0, none⟩)), (13, .int .i64 (IntKind.i64.wrap (x62 - (1 : Int)))), (17, .int .u64 (IntKind.u64.wrap a2))] (by kernel_rfl) fun a ha => ?_
      exact ⟨kk, Nat.lt_succ_self _, ⟨IntKind.u64.wrap (Int.tdiv x61 (IntKind.u64.wrap a2)), IntKind.i64.wrap (x62 - (1 : Int)), ((arL 65 x63).set (Int.toNat (IntKind.i64.wrap (x62 - (1 : Int)))) ((([48, 49, 50, 51, 52, 53, 54, 55, 56, 57, 97, 98, 99, 100, 101, 102, 103, 104, 105, 106, 107, 108, 109, 110, 111, 112, 113, 114, 115, 116, 117, 118, 119, 120, 121, 122] : List UInt8).getD (Int.toNat (IntKind.u64.wrap (x61 - (IntKind.u64.wrap ((IntKind.u64.wrap (Int.tdiv x61 (IntKind.u64.wrap a2))) * (IntKind.u64.wrap a2)))))) 0).toNat : Int)), H, (ha.sel (by kernel_rfl)), f1, hBg8, hG, hC, hM⟩⟩
     ·have H := ite_f hc71 H
      refine wp_exit ?_
      simp only [Exit.then, Exit.inBlock, ↓reduceIte, Nat.reduceEqDiff]
      obtain rfl := Option.some.inj H
      exact J60 _ _ (ha.sel (by kernel_rfl)) f1 hBg8 hG hC hM
  have H := H13
  refine wp_seq_k fun K80 hK80 => ?_
  refine wp_region_lit ?_
  refine seg ha 1 [(0, .slice ao1 a0.length cap1), (1, .int .u64 a1), (2, .int .i64 a2), (3, .bool a3), (4, .bool a4), (10, .slice none 0 0), (11, .string (bstr ([] : List UInt8))), (12, .pointer (some ⟨g8, 0, none⟩)), (13, .int .i64 (65 : Int)), (30, .bool a3)] (by kernel_rfl) fun a ha => ?_
  refine hK80 _ _ ?_; try clear hK80 K80
  refine cnd ha rfl (fun hc81 => ?_) (fun hc81 => ?_)
  ·have H := ite_t hc81 H
   refine wp_region_lit ?_
   refine seg ha 3 [(0, .slice ao1 a0.length cap1), (1, .int .u64 (IntKind.u64.wrap (0 - a1))), (2, .int .i64 a2), (3, .bool a3), (4, .bool a4), (10, .slice none 0 0), (11, .string (bstr ([] : List UInt8))), (12, .pointer (some ⟨g8, 0, none⟩)), (13, .int .i64 (65 : Int))] (by kernel_rfl) fun a ha => ?_
   obtain rfl := Option.some.inj H
   exact J13 _ _ (ha.sel (by kernel_rfl)) f1 hBg8 hG hC hM
  ·have H := ite_f hc81 H
   refine wp_skip ?_
   obtain rfl := Option.some.inj H
   exact J13 _ _ (ha.sel (by kernel_rfl)) f1 hBg8 hG hC hM
def strconv_FormatInt.f (k : Nat) (a0 : Int) (a1 : Int) : Option (List UInt8) := (if (a1 == (10 : Int)) = true then (if (if (decide ((0 : Int) ≤ a0)) = true then (decide (a0 < (100 : Int))) else false) = true then (strconv_small.f a0).bind fun t9 => some ((t9 : List UInt8)) else none) else (strconv_formatBits.f k ([] : List Int) (IntKind.u64.wrap a0) a1 (decide (a0 < (0 : Int))) false).bind fun t11 => some ((t11.2 : List UInt8)))
set_option maxRecDepth 100000 in
theorem strconv_FormatInt.walk (w : World) (M : List Nat) (hM : MS M w) (hG : GF w M) (a0 : Int) (a1 : Int) (k : Nat) (r : List UInt8) (H : strconv_FormatInt.f k a0 a1 = some r) :
    To Tryd.prog 80 [.int .i64 a0, .int .i64 a1] w fun v w' => v = .string (bstr r) ∧ Chg [] w w' ∧ MS (M) w' := by
 unfold strconv_FormatInt.f at H
 refine ent Tryd.func80 rfl [(0, .int .i64 a0), (1, .int .i64 a1)] rfl (by rfl) fun a ha => ?_
 have hC : Chg [] w w := Chg.refl _ _
 refine wp_seq_k fun K1 hK1 => ?_
 refine wp_region_lit ?_
 refine seg ha 1 [(0, .int .i64 a0), (1, .int .i64 a1)] (by kernel_rfl) fun a ha => ?_
 refine hK1 _ _ ?_; try clear hK1 K1
 refine wp_seq_k fun K2 hK2 => ?_
 refine wp_seq_k fun K3 hK3 => ?_
 refine wp_region_lit ?_
 refine seg ha 2 [(0, .int .i64 a0), (1, .int .i64 a1), (11, .bool (a1 == (10 : Int)))] (by kernel_rfl) fun a ha => ?_
 refine hK3 _ _ ?_; try clear hK3 K3
 refine cnd ha rfl (fun hc4 => ?_) (fun hc4 => ?_)
 ·have H := ite_t hc4 H
  refine wp_seq_k fun K5 hK5 => ?_
  refine wp_seq_k fun K6 hK6 => ?_
  refine wp_region_lit ?_
  refine seg ha 6 [(0, .int .i64 a0), (17, .bool (if (decide ((0 : Int) ≤ a0)) = true then (decide (a0 < (100 : Int))) else false))] (by kernel_rfl) fun a ha => ?_
  refine hK6 _ _ ?_; try clear hK6 K6
  refine cnd ha rfl (fun hc7 => ?_) (fun hc7 => ?_)
  ·have H := ite_t hc7 H
   refine wp_seq_k fun K8 hK8 => ?_
   refine wp_region_lit ?_
   refine seg ha 1 [(18, .int .i64 a0)] (by kernel_rfl) fun a ha => ?_
   obtain ⟨t9, H9, H⟩ := bind_some H
   refine cl ha (by rfl) (by kernel_rfl) (by rfl) (by rfl) (by rfl) (strconv_small.walk w _ hM a0 _ H9) ?_
   rintro _ w9 ⟨rfl, hc9, hMn⟩ a ha
   have o1 : Ok [] (M) w.heap.size := Ok.nil _ _
   have o2 : Ok (M) (M) w.heap.size := (Ok.refl _ _)
   have hG := hG.chg hc9 o1 o2
   have hM : MS (M) w9 := (hM.chg hc9)
   have hC := hC.trans hc9 (Ok.nil _ _)
   refine seg ha 1 [(4, .string (bstr t9))] (by kernel_rfl) fun a ha => ?_
   refine hK8 _ _ ?_; try clear hK8 K8
   refine wp_ret ?_
   try simp only [Exit.then, Exit.inBlock]
   obtain rfl := Option.some.inj H
   refine rt1 ha rfl rfl ?_
   exact ⟨rfl, hC, hM⟩
  ·have H := ite_f hc7 H
   exact nomatch (show none = some _ from H)
 ·have H := ite_f hc4 H
  refine wp_skip ?_
  refine hK2 _ _ ?_; try clear hK2 K2
  refine wp_seq_k fun K10 hK10 => ?_
  refine wp_region_lit ?_
  refine seg ha 5 [(46, .int .u64 (IntKind.u64.wrap a0)), (47, .int .i64 a1), (49, .bool (decide (a0 < (0 : Int))))] (by kernel_rfl) fun a ha => ?_
  obtain ⟨t11, H11, H⟩ := bind_some H
  refine cl ha (by rfl) (by kernel_rfl) (by rfl) (by rfl) (by rfl) (strconv_formatBits.walk w _ hM hG ([] : List Int) none 0 (RSl.nil (Nat.zero_le _)) (IntKind.u64.wrap a0) a1 (decide (a0 < (0 : Int))) false k _ H11) ?_
  rintro _ w11 ⟨ao12, cap12, rfl, f12, ne_i12, hc11, hMn⟩ a ha
  have o1 : Ok [] (M) w.heap.size := Ok.nil _ _
  have o2 : Ok (blkL ao12 ++ (M)) (M) w.heap.size := (Ok.app (fun x h => .inr (ne_i12 x h)) (Ok.refl _ _))
  have hG := hG.chg hc11 o1 o2
  have p_i12_M : ∀ x ∈ blkL ao12, x ∉ M := fun x hx hy => absurd (hM x (hy)) (Nat.not_lt.2 (ne_i12 x hx))
  have e_i12 : ∀ x ∈ blkL ao12, w.heap.size ≤ x := fun x hx => Nat.le_trans hC.size (ne_i12 x hx)
  have hM : MS (blkL ao12 ++ (M)) w11 := (MS.app (fun x h => hMn x (ml h)) (hM.chg hc11))
  have hC := hC.trans hc11 (Ok.nil _ _)
  refine seg ha 5 [(9, .string (bstr t11.2))] (by kernel_rfl) fun a ha => ?_
  refine hK10 _ _ ?_; try clear hK10 K10
  refine wp_seq_k fun K13 hK13 => ?_
  refine wp_region_lit ?_
  refine seg ha 2 [(4, .string (bstr t11.2))] (by kernel_rfl) fun a ha => ?_
  refine hK13 _ _ ?_; try clear hK13 K13
  refine wp_ret ?_
  try simp only [Exit.then, Exit.inBlock]
  have o1 : Ok [] (blkL ao12 ++ (M)) w11.heap.size := Ok.nil _ _
  have o2 : Ok (M) (blkL ao12 ++ (M)) w11.heap.size := (fun _ h => .inl (mr (h)))
  have hG := hG.chg (Chg.refl [] _) o1 o2
  have hM : MS (M) w11 := (fun x h => hM.chg (Chg.refl [] _) x (mr (h)))
  have hC := hC.trans (Chg.refl [] _) (Ok.nil _ _)
  obtain rfl := Option.some.inj H
  refine rt1 ha rfl rfl ?_
  exact ⟨rfl, hC, hM⟩
def strconv_FormatInt_83.f (k : Nat) (a0 : Int) (a1 : Int) : Option (List UInt8) := (strconv_FormatInt.f k a0 a1).bind fun t3 => some ((t3 : List UInt8))
set_option maxRecDepth 100000 in
theorem strconv_FormatInt_83.walk (w : World) (M : List Nat) (hM : MS M w) (hG : GF w M) (a0 : Int) (a1 : Int) (k : Nat) (r : List UInt8) (H : strconv_FormatInt_83.f k a0 a1 = some r) :
    To Tryd.prog 83 [.int .i64 a0, .int .i64 a1] w fun v w' => v = .string (bstr r) ∧ Chg [] w w' ∧ MS (M) w' := by
 unfold strconv_FormatInt_83.f at H
 refine ent Tryd.func83 rfl [(0, .int .i64 a0), (1, .int .i64 a1)] rfl (by rfl) fun a ha => ?_
 have hC : Chg [] w w := Chg.refl _ _
 refine wp_seq_k fun K1 hK1 => ?_
 refine wp_region_lit ?_
 refine seg ha 1 [(0, .int .i64 a0), (1, .int .i64 a1)] (by kernel_rfl) fun a ha => ?_
 refine hK1 _ _ ?_; try clear hK1 K1
 refine wp_seq_k fun K2 hK2 => ?_
 refine wp_region_lit ?_
 refine seg ha 2 [(5, .int .i64 a0), (6, .int .i64 a1)] (by kernel_rfl) fun a ha => ?_
 obtain ⟨t3, H3, H⟩ := bind_some H
 refine cl ha (by rfl) (by kernel_rfl) (by rfl) (by rfl) (by rfl) (strconv_FormatInt.walk w _ hM hG a0 a1 k _ H3) ?_
 rintro _ w3 ⟨rfl, hc3, hMn⟩ a ha
 have o1 : Ok [] (M) w.heap.size := Ok.nil _ _
 have o2 : Ok (M) (M) w.heap.size := (Ok.refl _ _)
 have hG := hG.chg hc3 o1 o2
 have hM : MS (M) w3 := (hM.chg hc3)
 have hC := hC.trans hc3 (Ok.nil _ _)
 refine seg ha 1 [(4, .string (bstr t3))] (by kernel_rfl) fun a ha => ?_
 refine hK2 _ _ ?_; try clear hK2 K2
 refine wp_ret ?_
 try simp only [Exit.then, Exit.inBlock]
 obtain rfl := Option.some.inj H
 refine rt1 ha rfl rfl ?_
 exact ⟨rfl, hC, hM⟩
end Go.E
