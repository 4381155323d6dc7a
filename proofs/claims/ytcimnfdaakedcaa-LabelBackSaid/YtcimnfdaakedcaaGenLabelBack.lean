/- What the functions that the law reaches compute, and the walks that show it. -/
import Derived.Test.YtcimnfdaakedcaaEngO
import Derived.Test.YtcimnfdaakedcaaEngX
import Derived.Test.YtcimnfdaakedcaaProg
set_option linter.unusedVariables false
set_option linter.unusedSimpArgs false
namespace Go.E
open Go.RowKit Go.Proofs
structure S_cursor_rest where
  left : List Int
  bad : Bool
  deriving DecidableEq, Inhabited
def cS_cursor_rest (x : S_cursor_rest) (ao1 : Option Addr) (cap1 : Nat) : List Value := ([.slice ao1 x.left.length cap1] : List Value) ++ (([.bool x.bad] : List Value))
def rS_cursor_rest : Rep S_cursor_rest := rIso (fun x : S_cursor_rest => (x.left, x.bad)) (rPair (rSl 5 (rInt .u8)) rBool)
theorem rS_cursor_rest.open {w : World} {M : List Nat} {cs : List Value} {x : S_cursor_rest} (h : rS_cursor_rest.R w M cs x) : ∃ (ao1 : Option Addr) (cap1 : Nat), cs = cS_cursor_rest x ao1 cap1 ∧ RSl (rInt .u8) 5 w M ao1 cap1 x.left := by
  obtain ⟨c0, k0, e0, h0, h1⟩ := h
  obtain ⟨ao1, cap1, rfl, f1⟩ := h0
  obtain rfl := h1
  subst e0
  exact ⟨ao1, cap1, rfl, f1⟩
theorem rS_cursor_rest.mk {w : World} {M : List Nat} (x : S_cursor_rest) {ao1 : Option Addr} {cap1 : Nat} (f1 : RSl (rInt .u8) 5 w M ao1 cap1 x.left) : rS_cursor_rest.R w M (cS_cursor_rest x ao1 cap1) x := ⟨_, _, rfl, ⟨ao1, cap1, rfl, f1⟩, rfl⟩
def okS_cursor_rest (x : S_cursor_rest) : Prop := (okL 1 (okI .u8)) x.left ∧ okB x.bad
structure S_cursor_Reader where
  rest : S_cursor_rest
  deriving DecidableEq, Inhabited
def cS_cursor_Reader (x : S_cursor_Reader) (ao1 : Option Addr) (cap1 : Nat) : List Value := cS_cursor_rest x.rest ao1 cap1
def rS_cursor_Reader : Rep S_cursor_Reader := rIso (fun x : S_cursor_Reader => x.rest) rS_cursor_rest
theorem rS_cursor_Reader.open {w : World} {M : List Nat} {cs : List Value} {x : S_cursor_Reader} (h : rS_cursor_Reader.R w M cs x) : ∃ (ao1 : Option Addr) (cap1 : Nat), cs = cS_cursor_Reader x ao1 cap1 ∧ RSl (rInt .u8) 5 w M ao1 cap1 x.rest.left := by
  have h0 := h
  have h0 := rS_cursor_rest.open h0
  obtain ⟨ao1, cap1, rfl, f1⟩ := h0
  exact ⟨ao1, cap1, rfl, f1⟩
theorem rS_cursor_Reader.mk {w : World} {M : List Nat} (x : S_cursor_Reader) {ao1 : Option Addr} {cap1 : Nat} (f1 : RSl (rInt .u8) 5 w M ao1 cap1 x.rest.left) : rS_cursor_Reader.R w M (cS_cursor_Reader x ao1 cap1) x := (rS_cursor_rest.mk x.rest f1)
def okS_cursor_Reader (x : S_cursor_Reader) : Prop := (okS_cursor_rest) x.rest

def bytes_Clone.f (a0 : List Int) : Option (List Int) := if a0.length ≤ 140737488355328 then some a0 else none
theorem bytes_Clone.walk (w : World) (M : List Nat) (hM : MS M w) (a0 : List Int) (ao1 : Option Addr) (cap1 : Nat) (f1 : RSl (rInt .u8) 5 w M ao1 cap1 a0) (r : List Int) (H : bytes_Clone.f a0 = some r) :
    To Try.prog 36 [.slice ao1 a0.length cap1] w fun v w' => ∃ (ao2 : Option Addr) (cap2 : Nat), v = .slice ao2 r.length cap2 ∧ (Own (rInt .u8) 5 w' (blkL ao2 ++ M) ao2 cap2 r) ∧ (∀ x ∈ blkL ao2, w.heap.size ≤ x) ∧ Chg [] w w' ∧ MS (blkL ao2 ++ M) w' := by
  unfold bytes_Clone.f at H
  obtain ⟨hb, H⟩ := ite_some H
  obtain rfl := Option.some.inj H
  refine ent Try.func36 rfl [(0, .slice ao1 a0.length cap1)] rfl rfl fun a ha => ?_
  refine wp_seq_k fun K hK => ?_
  refine wp_region_lit ?_
  refine seg ha 1 [(0, .slice ao1 a0.length cap1)] (by kernel_rfl) fun a ha => ?_
  refine hK _ _ ?_; clear hK K
  refine wp_seq_k fun K hK => ?_
  refine wp_seq_k fun K2 hK2 => ?_
  refine wp_region_lit ?_
  refine seg ha 2 [(0, .slice ao1 a0.length cap1), (4, .bool ao1.isNone)] (by kernel_rfl) fun a ha => ?_
  refine hK2 _ _ ?_; clear hK2 K2
  refine cnd ha rfl (fun hc => ?_) (fun hc => ?_)
  · refine wp_seq_k fun K2 hK2 => ?_
    refine wp_region_lit ?_
    refine seg ha 1 [(2, .slice none 0 0)] (by kernel_rfl) fun a ha => ?_
    refine hK2 _ _ ?_; clear hK2 K2
    refine wp_ret ?_
    have hx : a0 = [] := by
      rcases f1 with ⟨_, _, h | ⟨g, o, cur, fr, e, _⟩⟩
      · exact h
      · subst e; simp at hc
    simp only [Exit.then]
    refine rt1 ha rfl rfl ?_
    exact ⟨none, 0, by rw [hx]; rfl, by rw [hx]; exact Own.nil, (fun _ h => nomatch h), Chg.refl _ _, hM⟩
  · refine wp_skip ?_
    refine hK _ _ ?_; clear hK K
    refine wp_seq_k fun K hK => ?_
    refine wp_region_lit ?_
    refine bsl (vals := []) (T := 5) ha rfl [] (fun w => by kernel_rfl) rfl rfl rfl fun a w1 g hN ha => ?_
    refine seg ha 1 [(0, .slice ao1 a0.length cap1), (5, .slice (some ⟨g, 0, none⟩) 0 0), (6, .slice ao1 a0.length cap1)] (by kernel_rfl) fun a ha => ?_
    have hO : Own (rInt .u8) 5 w1 ([g] ++ M) (some ⟨g, 0, none⟩) 0 [] := hN.own rfl (Nat.zero_le _)
    have h1 : RSl (rInt .u8) 5 w1 ([g] ++ M) ao1 cap1 a0 := f1.chg hN.chg (Ok.nil _ _) (Ok.app (hN.ok _) (Ok.refl _ _))
    refine app (r := rInt .u8) (xs := []) ha (ElemT.mk' (bytes := 1) (by kernel_rfl)) rfl rfl rfl rfl rfl hO h1.src (by simpa using hb) (by decide) fun a w2 ao2 cap2 hO2 hc2 hok hlt ha => ?_
    refine seg ha 1 [(2, .slice ao2 ([] ++ a0).length cap2)] (by kernel_rfl) fun a ha => ?_
    refine hK _ _ ?_; clear hK K
    refine wp_ret ?_
    refine rt1 ha rfl rfl ⟨ao2, cap2, rfl, ?_, ?_, ?_, ?_⟩
    · exact hO2.chg (Chg.refl [] _) (Ok.nil _ _) (Ok.app (fun g hg => .inl (ml hg)) (fun g hg => .inl (mr (mr hg)))) (fun _ _ hh => nomatch hh) (fun g hg => ml hg)
    · intro x hx
      rcases hok x hx with h | h
      · simp [blkL] at h; subst h; exact hN.ge
      · exact Nat.le_trans hN.chg.size h
    · exact hN.chg.trans hc2 (Ok.one (.inr hN.ge))
    · exact MS.app hlt ((hM.chg hN.chg).chg hc2)

def cursor_Put.l0 (a1 : Int) : Nat → (List Int) → Int → Option (List Int)
  | 0, _, _ => none
  | kk + 1, x20, x21 => (if (decide (x21 ≥ (0 : Int))) = true then (if 0 ≤ x21 then (if (x20.length + ([IntKind.u8.wrap (Int.fdiv a1 (2 ^ (min (Int.toNat x21) IntKind.i64.bits)))] : List Int).length) * 1 ≤ 140737488355328 then cursor_Put.l0 a1 kk (x20 ++ ([IntKind.u8.wrap (Int.fdiv a1 (2 ^ (min (Int.toNat x21) IntKind.i64.bits)))] : List Int)) (IntKind.i64.wrap (x21 - (8 : Int))) else none) else none) else some (x20 : List Int))
def cursor_Put.f (k : Nat) (a0 : List Int) (a1 : Int) (a2 : Int) : Option (List Int × Int) := (if (if (decide (a2 < (1 : Int))) = true then true else (decide (a2 > (4 : Int)))) = true then some ((([] : List Int) : List Int), ((1 : Int) : Int)) else ((if (decide (a1 < (0 : Int))) = true then some (true : Bool) else (if 0 ≤ (IntKind.i64.wrap ((8 : Int) * a2)) then some ((Int.fdiv a1 (2 ^ (min (Int.toNat (IntKind.i64.wrap ((8 : Int) * a2))) IntKind.i64.bits))) != (0 : Int) : Bool) else none))).bind fun s9 => (if s9 = true then some ((([] : List Int) : List Int), ((5 : Int) : Int)) else (bytes_Clone.f a0).bind fun t14 => (cursor_Put.l0 a1 k t14 (IntKind.i64.wrap ((8 : Int) * (IntKind.i64.wrap (a2 - (1 : Int)))))).bind fun s18 => some ((s18 : List Int), ((0 : Int) : Int))))
set_option maxRecDepth 100000 in
theorem cursor_Put.walk (w : World) (M : List Nat) (hM : MS M w) (a0 : List Int) (ao1 : Option Addr) (cap1 : Nat) (f1 : RSl (rInt .u8) 5 w M ao1 cap1 a0) (a1 : Int) (a2 : Int) (k : Nat) (r : List Int × Int) (H : cursor_Put.f k a0 a1 a2 = some r) :
    To Try.prog 31 [.slice ao1 a0.length cap1, .int .i64 a1, .int .i64 a2] w fun v w' => ∃ (ao39 : Option Addr) (cap39 : Nat), v = .tuple #[.slice ao39 r.1.length cap39, .int .i64 r.2] ∧ (Own (rInt .u8) 5 w' (blkL ao39 ++ (M)) ao39 cap39 r.1) ∧ (∀ x ∈ blkL ao39, w.heap.size ≤ x) ∧ Chg [] w w' ∧ MS (blkL ao39 ++ (M)) w' := by
 unfold cursor_Put.f at H
 refine ent Try.func31 rfl [(0, .slice ao1 a0.length cap1), (1, .int .i64 a1), (2, .int .i64 a2)] rfl (by rfl) fun a ha => ?_
 have hC : Chg [] w w := Chg.refl _ _
 refine wp_seq_k fun K2 hK2 => ?_
 refine wp_region_lit ?_
 refine seg ha 2 [(0, .slice ao1 a0.length cap1), (1, .int .i64 a1), (2, .int .i64 a2)] (by kernel_rfl) fun a ha => ?_
 refine hK2 _ _ ?_; try clear hK2 K2
 refine wp_seq_k fun K3 hK3 => ?_
 refine wp_block ?_
 refine wp_seq_k fun K4 hK4 => ?_
 refine wp_region_lit ?_
 refine seg ha 7 [(0, .slice ao1 a0.length cap1), (1, .int .i64 a1), (2, .int .i64 a2), (10, .bool (if (decide (a2 < (1 : Int))) = true then true else (decide (a2 > (4 : Int)))))] (by kernel_rfl) fun a ha => ?_
 refine hK4 _ _ ?_; try clear hK4 K4
 refine cnd ha rfl (fun hc5 => ?_) (fun hc5 => ?_)
 ·have H := ite_t hc5 H
  refine wp_seq_k fun K6 hK6 => ?_
  refine wp_region_lit ?_
  refine seg ha 2 [(6, .slice none 0 0), (7, .int .i64 (1 : Int))] (by kernel_rfl) fun a ha => ?_
  refine hK6 _ _ ?_; try clear hK6 K6
  refine wp_ret ?_
  try simp only [Exit.then, Exit.inBlock]
  have p_z7_M : ∀ x ∈ blkL none, x ∉ M := fun x hx hy => absurd (hM x (hy)) (Nat.not_lt.2 ((fun _ h => nomatch h) x hx))
  have e_z7 : ∀ x ∈ blkL none, w.heap.size ≤ x := fun x hx => Nat.le_trans hC.size ((fun _ h => nomatch h) x hx)
  have hM : MS (blkL none ++ (M)) w := (MS.app (fun _ h => nomatch h) (hM.chg (Chg.refl [] _)))
  have hC := hC.trans (Chg.refl [] _) (Ok.nil _ _)
  obtain rfl := Option.some.inj H
  refine rt2 ha rfl rfl rfl ?_
  exact ⟨none, 0, rfl, Own.nil, e_z7, hC, hM⟩
 ·have H := ite_f hc5 H
  refine wp_seq_k fun K8 hK8 => ?_
  refine wp_region_lit ?_
  obtain ⟨s9, H9, H⟩ := bind_some H
  have J9 : ∀ (a : Act) (w9 : World), Has a Try.f31.ntmps [(0, .slice ao1 a0.length cap1), (1, .int .i64 a1), (2, .int .i64 a2), (17, .bool s9)] → (RSl (rInt .u8) 5 w9 (M) ao1 cap1 a0) → (Chg [] w w9) → (MS (M) w9) → K8 a w9 := by
   intro a w9 ha f1 hC hM
   refine hK8 _ _ ?_; try clear hK8 K8
   refine cnd ha rfl (fun hc10 => ?_) (fun hc10 => ?_)
   ·have H := ite_t hc10 H
    refine wp_seq_k fun K11 hK11 => ?_
    refine wp_region_lit ?_
    refine seg ha 2 [(6, .slice none 0 0), (7, .int .i64 (5 : Int))] (by kernel_rfl) fun a ha => ?_
    refine hK11 _ _ ?_; try clear hK11 K11
    refine wp_ret ?_
    try simp only [Exit.then, Exit.inBlock]
    have p_z12_M : ∀ x ∈ blkL none, x ∉ M := fun x hx hy => absurd (hM x (hy)) (Nat.not_lt.2 ((fun _ h => nomatch h) x hx))
    have e_z12 : ∀ x ∈ blkL none, w.heap.size ≤ x := fun x hx => Nat.le_trans hC.size ((fun _ h => nomatch h) x hx)
    have hM : MS (blkL none ++ (M)) w9 := (MS.app (fun _ h => nomatch h) (hM.chg (Chg.refl [] _)))
    have hC := hC.trans (Chg.refl [] _) (Ok.nil _ _)
    obtain rfl := Option.some.inj H
    refine rt2 ha rfl rfl rfl ?_
    exact ⟨none, 0, rfl, Own.nil, e_z12, hC, hM⟩
   ·have H := ite_f hc10 H
    refine wp_skip ?_
    refine hK3 _ _ ?_; try clear hK3 K3
    refine wp_seq_k fun K13 hK13 => ?_
    refine wp_region_lit ?_
    refine seg ha 1 [(1, .int .i64 a1), (2, .int .i64 a2), (27, .slice ao1 a0.length cap1)] (by kernel_rfl) fun a ha => ?_
    obtain ⟨t14, H14, H⟩ := bind_some H
    refine cl ha (by rfl) (by kernel_rfl) (by rfl) (by rfl) (by rfl) (bytes_Clone.walk w9 _ hM a0 ao1 cap1 f1 _ H14) ?_
    rintro _ w14 ⟨ao15, cap15, rfl, f15, ne_i15, hc14, hMn⟩ a ha
    have o1 : Ok [] (M) w9.heap.size := Ok.nil _ _
    have o2 : Ok (blkL ao15 ++ (M)) (M) w9.heap.size := (Ok.app (fun x h => .inr (ne_i15 x h)) (Ok.refl _ _))
    have f1 := f1.chg hc14 o1 o2
    have p_i15_M : ∀ x ∈ blkL ao15, x ∉ M := fun x hx hy => absurd (hM x (hy)) (Nat.not_lt.2 (ne_i15 x hx))
    have e_i15 : ∀ x ∈ blkL ao15, w.heap.size ≤ x := fun x hx => Nat.le_trans hC.size (ne_i15 x hx)
    have hM : MS (blkL ao15 ++ (M)) w14 := (MS.app (fun x h => hMn x (ml h)) (hM.chg hc14))
    have hC := hC.trans hc14 (Ok.nil _ _)
    refine seg ha 1 [(1, .int .i64 a1), (2, .int .i64 a2), (8, .slice ao15 t14.length cap15)] (by kernel_rfl) fun a ha => ?_
    refine hK13 _ _ ?_; try clear hK13 K13
    refine wp_seq_k fun K16 hK16 => ?_
    refine wp_seq_k fun K17 hK17 => ?_
    refine wp_region_lit ?_
    refine seg ha 4 [(1, .int .i64 a1), (8, .slice ao15 t14.length cap15), (9, .int .i64 (IntKind.i64.wrap ((8 : Int) * (IntKind.i64.wrap (a2 - (1 : Int))))))] (by kernel_rfl) fun a ha => ?_
    refine hK17 _ _ ?_; try clear hK17 K17
    refine wp_block ?_
    obtain ⟨s18, H18, H⟩ := bind_some H
    have J18 : ∀ (a : Act) (wx18 : World) (ao22 : Option Addr) (cap22 : Nat), Has a Try.f31.ntmps [(8, .slice ao22 s18.length cap22)] → (Own (rInt .u8) 5 wx18 (blkL ao22 ++ (M)) ao22 cap22 s18) → (∀ x ∈ blkL ao22, w.heap.size ≤ x) → (∀ x ∈ blkL ao22, x ∉ M) → (Chg [] w wx18) → (MS (blkL ao22 ++ (M)) wx18) → K16 a wx18 := by
     intro a wx18 ao22 cap22 ha f22 e_i22 p_i22_M hC hM
     refine hK16 _ _ ?_; try clear hK16 K16
     refine wp_seq_k fun K23 hK23 => ?_
     refine wp_region_lit ?_
     refine seg ha 3 [(6, .slice ao22 s18.length cap22), (7, .int .i64 (0 : Int))] (by kernel_rfl) fun a ha => ?_
     refine hK23 _ _ ?_; try clear hK23 K23
     refine wp_ret ?_
     try simp only [Exit.then, Exit.inBlock]
     obtain rfl := Option.some.inj H
     refine rt2 ha rfl rfl rfl ?_
     exact ⟨ao22, cap22, rfl, f22, e_i22, hC, hM⟩
    have Hc18 := H
    have H := H18
    refine wp_loop_ghost (fun kk a w18 => ∃ (x20 : List Int) (x21 : Int) (ao19 : Option Addr) (cap19 : Nat), cursor_Put.l0 a1 kk x20 x21 = some s18 ∧ Has a Try.f31.ntmps [(1, .int .i64 a1), (8, .slice ao19 x20.length cap19), (9, .int .i64 x21)] ∧ (Own (rInt .u8) 5 w18 (blkL ao19 ++ (M)) ao19 cap19 x20) ∧ (∀ x ∈ blkL ao19, w.heap.size ≤ x) ∧ (∀ x ∈ blkL ao19, x ∉ M) ∧ (Chg [] w w18) ∧ (MS (blkL ao19 ++ (M)) w18)) k ?_ ?_
    ·skip
     exact ⟨t14, IntKind.i64.wrap ((8 : Int) * (IntKind.i64.wrap (a2 - (1 : Int)))), ao15, cap15, H, (ha.sel (by kernel_rfl)), f15, e_i15, p_i15_M, hC, hM⟩
    ·rintro kk a w18 ⟨x20, x21, ao19, cap19, H, ha, f19, e_i19, p_i19_M, hC, hM⟩
     obtain _ | kk := kk
     ·exact nomatch (show none = some _ from H)
     rw [cursor_Put.l0] at H
     refine wp_seq_k fun K24 hK24 => ?_
     refine wp_seq_k fun K25 hK25 => ?_
     refine wp_region_lit ?_
     refine seg ha 2 [(1, .int .i64 a1), (8, .slice ao19 x20.length cap19), (9, .int .i64 x21), (33, .bool (decide (x21 ≥ (0 : Int))))] (by kernel_rfl) fun a ha => ?_
     refine hK25 _ _ ?_; try clear hK25 K25
     refine cnd ha rfl (fun hc26 => ?_) (fun hc26 => ?_)
     ·have H := ite_t hc26 H
      refine wp_skip ?_
      refine hK24 _ _ ?_; try clear hK24 K24
      refine wp_seq_k fun K27 hK27 => ?_
      refine wp_block ?_
      refine wp_region_lit ?_
      refine seg ha 3 [(1, .int .i64 a1), (9, .int .i64 x21), (36, .slice ao19 x20.length cap19), (37, .int .i64 a1), (38, .int .i64 x21)] (by kernel_rfl) fun a ha => ?_
      obtain ⟨hx28, H⟩ := ite_some H
      refine hop (v := .int .i64 (Int.fdiv a1 (2 ^ (min (Int.toNat x21) IntKind.i64.bits)))) (w' := w18) ha rfl rfl rfl (shr_run ha (by rfl) (by rfl) hx28 _) fun a ha => ?_
      refine seg ha 1 [(1, .int .i64 a1), (9, .int .i64 x21), (36, .slice ao19 x20.length cap19), (40, .int .u8 (IntKind.u8.wrap (Int.fdiv a1 (2 ^ (min (Int.toNat x21) IntKind.i64.bits)))))] (by kernel_rfl) fun a ha => ?_
      refine bsl (vals := ([.int .u8 (IntKind.u8.wrap (Int.fdiv a1 (2 ^ (min (Int.toNat x21) IntKind.i64.bits))))] : List Value)) (T := 5) ha rfl (([.int .u8 (IntKind.u8.wrap (Int.fdiv a1 (2 ^ (min (Int.toNat x21) IntKind.i64.bits))))] : List Value) ++ ([] : List Value)) (fun w => by kernel_rfl) rfl rfl rfl fun a w29 g30 hN31 ha => ?_
      have o1 : Ok [] (blkL ao19 ++ (M)) w18.heap.size := Ok.nil _ _
      have o2 : Ok ([g30] ++ (blkL ao19 ++ (M))) (blkL ao19 ++ (M)) w18.heap.size := (Ok.app (hN31.ok _) (Ok.refl _ _))
      have f19 := f19.chg hN31.chg o1 o2 (fun _ _ h => nomatch h) (fun _ h => mr (ml h))
      have p_i32_i19 : ∀ x ∈ [g30], x ∉ (blkL ao19) := fun x hx hy => absurd (hM x (ml hy)) (Nat.not_lt.2 ((hN31.ge1) x hx))
      have p_i32_M : ∀ x ∈ [g30], x ∉ M := fun x hx hy => absurd (hM x (mr (hy))) (Nat.not_lt.2 ((hN31.ge1) x hx))
      have e_i32 : ∀ x ∈ [g30], w.heap.size ≤ x := fun x hx => Nat.le_trans hC.size ((hN31.ge1) x hx)
      have hM : MS ([g30] ++ (blkL ao19 ++ (M))) w29 := (MS.app hN31.ms (hM.chg hN31.chg))
      have hC := hC.trans hN31.chg (Ok.nil _ _)
      have f33 : Own (rInt .u8) 5 w29 ([g30] ++ (blkL ao19 ++ (M))) (some ⟨g30, 0, none⟩) 1 ([IntKind.u8.wrap (Int.fdiv a1 (2 ^ (min (Int.toNat x21) IntKind.i64.bits)))] : List Int) := hN31.own ⟨([.int .u8 (IntKind.u8.wrap (Int.fdiv a1 (2 ^ (min (Int.toNat x21) IntKind.i64.bits))))] : List Value), _, rfl, rfl, rfl⟩ (Nat.le_of_ble_eq_true rfl)
      obtain ⟨hx34, H⟩ := ite_some H
      refine app (r := (rInt .u8)) (xs := x20) (ys := ([IntKind.u8.wrap (Int.fdiv a1 (2 ^ (min (Int.toNat x21) IntKind.i64.bits)))] : List Int)) ha (ElemT.mk' (bytes := 1) (by kernel_rfl)) rfl rfl rfl rfl rfl f19 f33.src hx34 (by decide) fun a w35 ao36 cap36 hO36 hc36 hk36 hl36 ha => ?_
      have o1 : Ok (blkL ao19) ([g30] ++ (blkL ao19 ++ (M))) w29.heap.size := (fun _ h => .inl (mr (ml h)))
      have o2 : Ok (blkL ao36 ++ ([g30] ++ (M))) ([g30] ++ (blkL ao19 ++ (M))) w29.heap.size := (Ok.app (Ok.to hk36 (fun _ h => mr (ml h))) (Ok.app (fun _ h => .inl (ml h)) (fun _ h => .inl (mr (mr (h))))))
      have f33 := f33.chg hc36 o1 o2 p_i32_i19 (fun _ h => mr (ml h))
      have p_i36_i32 : ∀ x ∈ blkL ao36, x ∉ ([g30]) := fun x hx hy => (hk36 x hx).elim (fun h => (fun x hx hy => p_i32_i19 x hy hx) x h hy) (fun h => absurd (hM x (ml hy)) (Nat.not_lt.2 h))
      have p_i36_M : ∀ x ∈ blkL ao36, x ∉ M := fun x hx hy => (hk36 x hx).elim (fun h => p_i19_M x h hy) (fun h => absurd (hM x (mr (mr (hy)))) (Nat.not_lt.2 h))
      have e_i36 : ∀ x ∈ blkL ao36, w.heap.size ≤ x := fun x hx => (hk36 x hx).elim (e_i19 x) (Nat.le_trans hC.size)
      have hM : MS (blkL ao36 ++ ([g30] ++ (M))) w35 := (MS.app hl36 (MS.app (fun x h => hM.chg hc36 x (ml h)) (fun x h => hM.chg hc36 x (mr (mr (h))))))
      have hC := hC.trans hc36 (fun x h => .inr (e_i19 x h))
      have f36 := hO36.chg (M' := blkL ao36 ++ ([g30] ++ (M))) (Chg.refl [] _) (Ok.nil _ _) (Ok.app (fun _ h => .inl (ml h)) (Ok.to (Ok.app (fun _ h => .inl (ml h)) (fun _ h => .inl (mr (mr (h))))) (fun _ h => mr h))) (fun _ _ h => nomatch h) (fun _ h => ml h)
      refine seg ha 1 [(1, .int .i64 a1), (8, .slice ao36 (x20 ++ ([IntKind.u8.wrap (Int.fdiv a1 (2 ^ (min (Int.toNat x21) IntKind.i64.bits)))] : List Int)).length cap36), (9, .int .i64 x21)] (by kernel_rfl) fun a ha => ?_
      refine hK27 _ _ ?_; try clear hK27 K27
      refine wp_region_lit ?_
      refine seg ha 3 [(1, .int .i64 a1), (8, .slice ao36 (x20 ++ ([IntKind.u8.wrap (Int.fdiv a1 (2 ^ (min (Int.toNat x21) IntKind.i64.bits)))] : List Int)).length cap36), (9, .int .i64 (IntKind.i64.wrap (x21 - (8 : Int))))] (by kernel_rfl) fun a ha => ?_
      have o1 : Ok [] (blkL ao36 ++ ([g30] ++ (M))) w35.heap.size := Ok.nil _ _
      have o2 : Ok (blkL ao36 ++ (M)) (blkL ao36 ++ ([g30] ++ (M))) w35.heap.size := (Ok.app (fun _ h => .inl (ml h)) (fun _ h => .inl (mr (mr (h)))))
      have f36 := f36.chg (Chg.refl [] _) o1 o2 (fun _ _ h => nomatch h) (fun _ h => ml h)
      have hM : MS (blkL ao36 ++ (M)) w35 := (MS.app (fun x h => hM.chg (Chg.refl [] _) x (ml h)) (fun x h => hM.chg (Chg.refl [] _) x (mr (mr (h)))))
      have hC := hC.trans (Chg.refl [] _) (Ok.nil _ _)
      exact ⟨kk, Nat.lt_succ_self _, ⟨(x20 ++ ([IntKind.u8.wrap (Int.fdiv a1 (2 ^ (min (Int.toNat x21) IntKind.i64.bits)))] : List Int)), IntKind.i64.wrap (x21 - (8 : Int)), ao36, cap36, H, (ha.sel (by kernel_rfl)), f36, e_i36, p_i36_M, hC, hM⟩⟩
     ·have H := ite_f hc26 H
      refine wp_exit ?_
      simp only [Exit.then, Exit.inBlock, ↓reduceIte, Nat.reduceEqDiff]
      obtain rfl := Option.some.inj H
      exact J18 _ _ ao19 cap19 (ha.sel (by kernel_rfl)) f19 e_i19 p_i19_M hC hM
  have H := H9
  refine seg ha 3 [(20, .bool (decide (a1 < (0 : Int)))), (0, .slice ao1 a0.length cap1), (1, .int .i64 a1), (2, .int .i64 a2)] (by kernel_rfl) fun a ha => ?_
  rcases Bool.eq_false_or_eq_true (decide (a1 < (0 : Int))) with hb37 | hb37
  ·have ha := ha.lit hb37
   have H := ite_t hb37 H
   refine sgh ha 7 [1, 1, 1, 1, 1, 3, 0] [(0, .slice ao1 a0.length cap1), (1, .int .i64 a1), (2, .int .i64 a2), (17, .bool true)] (by kernel_rfl) fun a ha => ?_
   obtain rfl := Option.some.inj H
   exact J9 _ _ (ha.sel (by kernel_rfl)) f1 hC hM
  ·have ha := ha.lit hb37
   have H := ite_f hb37 H
   refine sgh ha 3 [2, 2, 2] [(0, .slice ao1 a0.length cap1), (1, .int .i64 a1), (2, .int .i64 a2), (20, .bool false), (21, .int .i64 a1), (23, .int .i64 (IntKind.i64.wrap ((8 : Int) * a2)))] (by kernel_rfl) fun a ha => ?_
   obtain ⟨hx38, H⟩ := ite_some H
   refine hop (v := .int .i64 (Int.fdiv a1 (2 ^ (min (Int.toNat (IntKind.i64.wrap ((8 : Int) * a2))) IntKind.i64.bits)))) (w' := w) ha rfl rfl rfl (shr_run ha (by rfl) (by rfl) hx38 _) fun a ha => ?_
   refine sgh ha 3 [2, 4, 0] [(0, .slice ao1 a0.length cap1), (1, .int .i64 a1), (2, .int .i64 a2), (17, .bool ((Int.fdiv a1 (2 ^ (min (Int.toNat (IntKind.i64.wrap ((8 : Int) * a2))) IntKind.i64.bits))) != (0 : Int)))] (by kernel_rfl) fun a ha => ?_
   obtain rfl := Option.some.inj H
   exact J9 _ _ (ha.sel (by kernel_rfl)) f1 hC hM
def label_Bytes.f (k : Nat) (a0 : Int) (a1 : Bool) : Option (List Int × Int) := (if (if (decide (a0 < (0 : Int))) = true then true else (decide (a0 > (1048575 : Int)))) = true then some ((([] : List Int) : List Int), ((5 : Int) : Int)) else ((if a1 = true then some (IntKind.i64.wrap (BitVec.ofInt IntKind.i64.bits (IntKind.i64.wrap (a0 * 2 ^ (min (4 : Int).toNat IntKind.i64.bits))) ||| BitVec.ofInt IntKind.i64.bits (1 : Int)).toNat : Int) else some (IntKind.i64.wrap (a0 * 2 ^ (min (4 : Int).toNat IntKind.i64.bits)) : Int))).bind fun s9 => (cursor_Put.f k ([] : List Int) s9 (3 : Int)).bind fun t11 => some ((t11.1 : List Int), (t11.2 : Int)))
set_option maxRecDepth 100000 in
theorem label_Bytes.walk (w : World) (M : List Nat) (hM : MS M w) (a0 : Int) (a1 : Bool) (k : Nat) (r : List Int × Int) (H : label_Bytes.f k a0 a1 = some r) :
    To Try.prog 24 [.int .i64 a0, .bool a1] w fun v w' => ∃ (ao15 : Option Addr) (cap15 : Nat), v = .tuple #[.slice ao15 r.1.length cap15, .int .i64 r.2] ∧ (Own (rInt .u8) 5 w' (blkL ao15 ++ (M)) ao15 cap15 r.1) ∧ (∀ x ∈ blkL ao15, w.heap.size ≤ x) ∧ Chg [] w w' ∧ MS (blkL ao15 ++ (M)) w' := by
 unfold label_Bytes.f at H
 refine ent Try.func24 rfl [(0, .int .i64 a0), (1, .bool a1)] rfl (by rfl) fun a ha => ?_
 have hC : Chg [] w w := Chg.refl _ _
 refine wp_seq_k fun K1 hK1 => ?_
 refine wp_region_lit ?_
 refine seg ha 2 [(0, .int .i64 a0), (1, .bool a1)] (by kernel_rfl) fun a ha => ?_
 refine hK1 _ _ ?_; try clear hK1 K1
 refine wp_seq_k fun K2 hK2 => ?_
 refine wp_seq_k fun K3 hK3 => ?_
 refine wp_region_lit ?_
 refine seg ha 6 [(0, .int .i64 a0), (1, .bool a1), (12, .bool (if (decide (a0 < (0 : Int))) = true then true else (decide (a0 > (1048575 : Int)))))] (by kernel_rfl) fun a ha => ?_
 refine hK3 _ _ ?_; try clear hK3 K3
 refine cnd ha rfl (fun hc4 => ?_) (fun hc4 => ?_)
 ·have H := ite_t hc4 H
  refine wp_seq_k fun K5 hK5 => ?_
  refine wp_region_lit ?_
  refine seg ha 2 [(4, .slice none 0 0), (5, .int .i64 (5 : Int))] (by kernel_rfl) fun a ha => ?_
  refine hK5 _ _ ?_; try clear hK5 K5
  refine wp_ret ?_
  try simp only [Exit.then, Exit.inBlock]
  have p_z6_M : ∀ x ∈ blkL none, x ∉ M := fun x hx hy => absurd (hM x (hy)) (Nat.not_lt.2 ((fun _ h => nomatch h) x hx))
  have e_z6 : ∀ x ∈ blkL none, w.heap.size ≤ x := fun x hx => Nat.le_trans hC.size ((fun _ h => nomatch h) x hx)
  have hM : MS (blkL none ++ (M)) w := (MS.app (fun _ h => nomatch h) (hM.chg (Chg.refl [] _)))
  have hC := hC.trans (Chg.refl [] _) (Ok.nil _ _)
  obtain rfl := Option.some.inj H
  refine rt2 ha rfl rfl rfl ?_
  exact ⟨none, 0, rfl, Own.nil, e_z6, hC, hM⟩
 ·have H := ite_f hc4 H
  refine wp_skip ?_
  refine hK2 _ _ ?_; try clear hK2 K2
  refine wp_seq_k fun K7 hK7 => ?_
  refine wp_region_lit ?_
  refine seg ha 3 [(1, .bool a1), (6, .int .i64 (IntKind.i64.wrap (a0 * 2 ^ (min (4 : Int).toNat IntKind.i64.bits))))] (by kernel_rfl) fun a ha => ?_
  refine hK7 _ _ ?_; try clear hK7 K7
  refine wp_seq_k fun K8 hK8 => ?_
  obtain ⟨s9, H9, H⟩ := bind_some H
  have J9 : ∀ (a : Act) (w9 : World), Has a Try.f24.ntmps [(6, .int .i64 s9)] → (Chg [] w w9) → (MS (M) w9) → K8 a w9 := by
   intro a w9 ha hC hM
   refine hK8 _ _ ?_; try clear hK8 K8
   refine wp_seq_k fun K10 hK10 => ?_
   refine wp_region_lit ?_
   refine seg ha 1 [(18, .int .i64 s9)] (by kernel_rfl) fun a ha => ?_
   obtain ⟨t11, H11, H⟩ := bind_some H
   refine cl ha (by rfl) (by kernel_rfl) (by rfl) (by rfl) (by rfl) (cursor_Put.walk w9 _ hM ([] : List Int) none 0 (RSl.nil (Nat.zero_le _)) s9 (3 : Int) k _ H11) ?_
   rintro _ w11 ⟨ao12, cap12, rfl, f12, ne_i12, hc11, hMn⟩ a ha
   have p_i12_M : ∀ x ∈ blkL ao12, x ∉ M := fun x hx hy => absurd (hM x (hy)) (Nat.not_lt.2 (ne_i12 x hx))
   have e_i12 : ∀ x ∈ blkL ao12, w.heap.size ≤ x := fun x hx => Nat.le_trans hC.size (ne_i12 x hx)
   have hM : MS (blkL ao12 ++ (M)) w11 := (MS.app (fun x h => hMn x (ml h)) (hM.chg hc11))
   have hC := hC.trans hc11 (Ok.nil _ _)
   refine seg ha 4 [(4, .slice ao12 t11.1.length cap12), (5, .int .i64 t11.2)] (by kernel_rfl) fun a ha => ?_
   refine hK10 _ _ ?_; try clear hK10 K10
   refine wp_ret ?_
   try simp only [Exit.then, Exit.inBlock]
   obtain rfl := Option.some.inj H
   refine rt2 ha rfl rfl rfl ?_
   exact ⟨ao12, cap12, rfl, f12, e_i12, hC, hM⟩
  have H := H9
  refine wp_seq_k fun K13 hK13 => ?_
  refine wp_region_lit ?_
  refine seg ha 1 [(6, .int .i64 (IntKind.i64.wrap (a0 * 2 ^ (min (4 : Int).toNat IntKind.i64.bits)))), (15, .bool a1)] (by kernel_rfl) fun a ha => ?_
  refine hK13 _ _ ?_; try clear hK13 K13
  refine cnd ha rfl (fun hc14 => ?_) (fun hc14 => ?_)
  ·have H := ite_t hc14 H
   refine wp_region_lit ?_
   refine seg ha 3 [(6, .int .i64 (IntKind.i64.wrap (BitVec.ofInt IntKind.i64.bits (IntKind.i64.wrap (a0 * 2 ^ (min (4 : Int).toNat IntKind.i64.bits))) ||| BitVec.ofInt IntKind.i64.bits (1 : Int)).toNat))] (by kernel_rfl) fun a ha => ?_
   obtain rfl := Option.some.inj H
   exact J9 _ _ (ha.sel (by kernel_rfl)) hC hM
  ·have H := ite_f hc14 H
   refine wp_skip ?_
   obtain rfl := Option.some.inj H
   exact J9 _ _ (ha.sel (by kernel_rfl)) hC hM
structure PoolS where
  first : Int
  count : Int
  labels : List (List UInt8 × Int)
  owners : List (Int × List UInt8)
def PoolAt (w : World) (g : Nat) (L : List Nat) (x : PoolS) : Prop :=
  ∃ g1 g2, L = [g, g1, g2] ∧ g ≠ g1 ∧ g ≠ g2 ∧ g1 ≠ g2 ∧ Box w g [.int .i64 x.first, .int .i64 x.count, .map (some g1), .map (some g2)] ∧ MapR kS (kI .i64) w g1 x.labels ∧ MapR (kI .i64) kS w g2 x.owners
theorem PoolAt.chg {w w' : World} {g : Nat} {L gs : List Nat} {x : PoolS} (h : PoolAt w g L x) (hc : Chg gs w w') (hn : ∀ y ∈ L, y ∉ gs) : PoolAt w' g L x := by
  obtain ⟨g1, g2, rfl, n1, n2, n3, hB, h1, h2⟩ := h
  exact ⟨g1, g2, rfl, n1, n2, n3, hB.chg hc (hn g (by simp)), h1.chg hc (hn g1 (by simp)), h2.chg hc (hn g2 (by simp))⟩
theorem u54 : Try.prog.underlying 54 = some (.map 9 3) := by kernel_rfl
theorem u55 : Try.prog.underlying 55 = some (.map 3 9) := by kernel_rfl
theorem K9 : MKey Try.prog 9 kS := mkey_str (by kernel_rfl)
theorem K3 : MKey Try.prog 3 (kI .i64) := mkey_int (by kernel_rfl)
def Pool_Count.f (x : PoolS) : Option Int := some (x.labels.length : Int)
theorem Pool_Count.walk (w : World) (M : List Nat) (hM : MS M w) (g : Nat) (L : List Nat) (x : PoolS) (f : PoolAt w g L x) (hL : ∀ y ∈ L, y ∈ M) (r : Int) (H : Pool_Count.f x = some r) :
    To Try.prog 11 [.pointer (some ⟨g, 0, none⟩)] w fun v w' => v = .int .i64 r ∧ Chg [] w w' ∧ MS M w' := by
  unfold Pool_Count.f at H
  obtain rfl := Option.some.inj H
  obtain ⟨g1, g2, rfl, n1, n2, n3, hB, h1, h2⟩ := f
  refine ent Try.func11 rfl [(0, .pointer (some ⟨g, 0, none⟩))] rfl (by rfl) fun a ha => ?_
  refine wp_seq_k fun K hK => ?_
  refine wp_region_lit ?_
  refine seg ha 1 [(0, .pointer (some ⟨g, 0, none⟩))] (by kernel_rfl) fun a ha => ?_
  refine hK _ _ ?_; clear hK K
  refine wp_seq_k fun K hK => ?_
  refine wp_region_lit ?_
  refine seg ha 3 [(5, .pointer (some ⟨g, 2, none⟩))] (by kernel_rfl) fun a ha => ?_
  refine ld (v := .map (some g1)) ha rfl (by kernel_rfl) rfl rfl rfl (hB.cell' (o := 2) rfl rfl) fun a ha => ?_
  refine mln ha u54 rfl rfl rfl rfl h1 fun a ha => ?_
  refine seg ha 1 [(2, .int .i64 (x.labels.length : Int))] (by kernel_rfl) fun a ha => ?_
  refine hK _ _ ?_; clear hK K
  refine wp_ret ?_
  exact rt1 ha rfl rfl ⟨rfl, Chg.refl _ _, hM⟩
def Pool_Of.f (x : PoolS) (o : List UInt8) : Option (Int × Bool) := some ((mget x.labels o).getD 0, (mget x.labels o).isSome)
theorem Pool_Of.walk (w : World) (M : List Nat) (hM : MS M w) (g : Nat) (L : List Nat) (x : PoolS) (f : PoolAt w g L x) (hL : ∀ y ∈ L, y ∈ M) (o : List UInt8) (r : Int × Bool) (H : Pool_Of.f x o = some r) :
    To Try.prog 17 [.pointer (some ⟨g, 0, none⟩), .string (bstr o)] w fun v w' => v = .tuple #[.int .i64 r.1, .bool r.2] ∧ Chg [] w w' ∧ MS M w' := by
  unfold Pool_Of.f at H
  obtain rfl := Option.some.inj H
  obtain ⟨g1, g2, rfl, n1, n2, n3, hB, h1, h2⟩ := f
  refine ent Try.func17 rfl [(0, .pointer (some ⟨g, 0, none⟩)), (1, .string (bstr o))] rfl (by rfl) fun a ha => ?_
  refine wp_seq_k fun K hK => ?_
  refine wp_region_lit ?_
  refine seg ha 2 [(0, .pointer (some ⟨g, 0, none⟩)), (1, .string (bstr o))] (by kernel_rfl) fun a ha => ?_
  refine hK _ _ ?_; clear hK K
  refine wp_seq_k fun K hK => ?_
  refine wp_region_lit ?_
  refine seg ha 3 [(1, .string (bstr o)), (11, .pointer (some ⟨g, 2, none⟩))] (by kernel_rfl) fun a ha => ?_
  refine ld (v := .map (some g1)) ha rfl (by kernel_rfl) rfl rfl rfl (hB.cell' (o := 2) rfl rfl) fun a ha => ?_
  refine seg ha 1 [(12, .map (some g1)), (13, .string (bstr o))] (by kernel_rfl) fun a ha => ?_
  refine mlk (k := o) (z := (0 : Int)) ha u54 K9 rfl rfl (fun w => by kernel_rfl) rfl rfl rfl h1 fun a ha => ?_
  refine seg ha 5 [(6, .int .i64 ((mget x.labels o).getD 0)), (7, .bool (mget x.labels o).isSome)] (by kernel_rfl) fun a ha => ?_
  refine hK _ _ ?_; clear hK K
  refine wp_seq_k fun K hK => ?_
  refine wp_region_lit ?_
  refine seg ha 4 [(4, .int .i64 ((mget x.labels o).getD 0)), (5, .bool (mget x.labels o).isSome)] (by kernel_rfl) fun a ha => ?_
  refine hK _ _ ?_; clear hK K
  refine wp_ret ?_
  exact rt2 ha rfl rfl rfl ⟨rfl, Chg.refl _ _, hM⟩
def Pool_Owner.f (x : PoolS) (n : Int) : Option (List UInt8 × Bool) := some ((mget x.owners n).getD [], (mget x.owners n).isSome)
theorem Pool_Owner.walk (w : World) (M : List Nat) (hM : MS M w) (g : Nat) (L : List Nat) (x : PoolS) (f : PoolAt w g L x) (hL : ∀ y ∈ L, y ∈ M) (n : Int) (r : List UInt8 × Bool) (H : Pool_Owner.f x n = some r) :
    To Try.prog 19 [.pointer (some ⟨g, 0, none⟩), .int .i64 n] w fun v w' => v = .tuple #[.string (bstr r.1), .bool r.2] ∧ Chg [] w w' ∧ MS M w' := by
  unfold Pool_Owner.f at H
  obtain rfl := Option.some.inj H
  obtain ⟨g1, g2, rfl, n1, n2, n3, hB, h1, h2⟩ := f
  refine ent Try.func19 rfl [(0, .pointer (some ⟨g, 0, none⟩)), (1, .int .i64 n)] rfl (by rfl) fun a ha => ?_
  refine wp_seq_k fun K hK => ?_
  refine wp_region_lit ?_
  refine seg ha 2 [(0, .pointer (some ⟨g, 0, none⟩)), (1, .int .i64 n)] (by kernel_rfl) fun a ha => ?_
  refine hK _ _ ?_; clear hK K
  refine wp_seq_k fun K hK => ?_
  refine wp_region_lit ?_
  refine seg ha 3 [(1, .int .i64 n), (11, .pointer (some ⟨g, 3, none⟩))] (by kernel_rfl) fun a ha => ?_
  refine ld (v := .map (some g2)) ha rfl (by kernel_rfl) rfl rfl rfl (hB.cell' (o := 3) rfl rfl) fun a ha => ?_
  refine seg ha 1 [(12, .map (some g2)), (13, .int .i64 n)] (by kernel_rfl) fun a ha => ?_
  refine mlk (k := n) (z := ([] : List UInt8)) ha u55 K3 rfl rfl (fun w => by kernel_rfl) rfl rfl rfl h2 fun a ha => ?_
  refine seg ha 5 [(6, .string (bstr ((mget x.owners n).getD []))), (7, .bool (mget x.owners n).isSome)] (by kernel_rfl) fun a ha => ?_
  refine hK _ _ ?_; clear hK K
  refine wp_seq_k fun K hK => ?_
  refine wp_region_lit ?_
  refine seg ha 4 [(4, .string (bstr ((mget x.owners n).getD []))), (5, .bool (mget x.owners n).isSome)] (by kernel_rfl) fun a ha => ?_
  refine hK _ _ ?_; clear hK K
  refine wp_ret ?_
  exact rt2 ha rfl rfl rfl ⟨rfl, Chg.refl _ _, hM⟩
def Pool_Clear.f (x : PoolS) : Option PoolS := some ⟨x.first, x.count, [], []⟩
theorem Pool_Clear.walk (w : World) (M : List Nat) (hM : MS M w) (g : Nat) (L : List Nat) (x : PoolS) (f : PoolAt w g L x) (hL : ∀ y ∈ L, y ∈ M) (r : PoolS) (H : Pool_Clear.f x = some r) :
    To Try.prog 12 [.pointer (some ⟨g, 0, none⟩)] w fun v w' => v = .tuple #[] ∧ PoolAt w' g L r ∧ Chg L w w' ∧ MS M w' := by
  unfold Pool_Clear.f at H
  obtain rfl := Option.some.inj H
  obtain ⟨g1, g2, rfl, n1, n2, n3, hB, h1, h2⟩ := f
  refine ent Try.func12 rfl [(0, .pointer (some ⟨g, 0, none⟩))] rfl (by rfl) fun a ha => ?_
  refine wp_seq_k fun K hK => ?_
  refine wp_region_lit ?_
  refine seg ha 3 [(0, .pointer (some ⟨g, 0, none⟩)), (4, .pointer (some ⟨g, 2, none⟩))] (by kernel_rfl) fun a ha => ?_
  refine ld (v := .map (some g1)) ha rfl (by kernel_rfl) rfl rfl rfl (hB.cell' (o := 2) rfl rfl) fun a ha => ?_
  refine mcl ha u54 rfl rfl h1 fun a w1 ha h1 c1 => ?_
  have hB := hB.chg c1 (by simp [n1])
  have h2 := h2.chg c1 (by simp [Ne.symm n3])
  refine wpl_end ?_
  have ha := ha.sel (env' := [(0, .pointer (some ⟨g, 0, none⟩))]) (by kernel_rfl)
  refine hK _ _ ?_; clear hK K
  refine wp_region_lit ?_
  refine seg ha 3 [(8, .pointer (some ⟨g, 3, none⟩))] (by kernel_rfl) fun a ha => ?_
  refine ld (v := .map (some g2)) ha rfl (by kernel_rfl) rfl rfl rfl (hB.cell' (o := 3) rfl rfl) fun a ha => ?_
  refine mcl ha u55 rfl rfl h2 fun a w2 ha h2 c2 => ?_
  have hB := hB.chg c2 (by simp [n2])
  have h1 := h1.chg c2 (by simp [n3])
  refine wpl_end ?_
  exact rt0 ha rfl ⟨rfl, ⟨g1, g2, rfl, n1, n2, n3, hB, h1, h2⟩, (c1.mono (gs' := [g, g1, g2]) (Ok.one (.inl (by simp)))).trans c2 (Ok.one (.inl (by simp))), (hM.chg c1).chg c2⟩
def Pool_Free.f (x : PoolS) (o : List UInt8) : Option (Bool × PoolS) :=
  if (mget x.labels o).isSome = true then some (true, ⟨x.first, x.count, mdel x.labels o, mdel x.owners ((mget x.labels o).getD 0)⟩) else some (false, x)
theorem Pool_Free.walk (w : World) (M : List Nat) (hM : MS M w) (g : Nat) (L : List Nat) (x : PoolS) (f : PoolAt w g L x) (hL : ∀ y ∈ L, y ∈ M) (o : List UInt8) (r : Bool × PoolS) (H : Pool_Free.f x o = some r) :
    To Try.prog 15 [.pointer (some ⟨g, 0, none⟩), .string (bstr o)] w fun v w' => v = .bool r.1 ∧ PoolAt w' g L r.2 ∧ Chg L w w' ∧ MS M w' := by
  unfold Pool_Free.f at H
  obtain ⟨g1, g2, rfl, n1, n2, n3, hB, h1, h2⟩ := f
  refine ent Try.func15 rfl [(0, .pointer (some ⟨g, 0, none⟩)), (1, .string (bstr o))] rfl (by rfl) fun a ha => ?_
  refine wp_seq_k fun K hK => ?_
  refine wp_region_lit ?_
  refine seg ha 1 [(0, .pointer (some ⟨g, 0, none⟩)), (1, .string (bstr o))] (by kernel_rfl) fun a ha => ?_
  refine hK _ _ ?_; clear hK K
  refine wp_seq_k fun K hK => ?_
  refine wp_region_lit ?_
  refine seg ha 3 [(0, .pointer (some ⟨g, 0, none⟩)), (1, .string (bstr o)), (10, .pointer (some ⟨g, 2, none⟩))] (by kernel_rfl) fun a ha => ?_
  refine ld (v := .map (some g1)) ha rfl (by kernel_rfl) rfl rfl rfl (hB.cell' (o := 2) rfl rfl) fun a ha => ?_
  refine seg ha 1 [(0, .pointer (some ⟨g, 0, none⟩)), (1, .string (bstr o)), (11, .map (some g1)), (12, .string (bstr o))] (by kernel_rfl) fun a ha => ?_
  refine mlk (k := o) (z := (0 : Int)) ha u54 K9 rfl rfl (fun w => by kernel_rfl) rfl rfl rfl h1 fun a ha => ?_
  refine seg ha 5 [(0, .pointer (some ⟨g, 0, none⟩)), (1, .string (bstr o)), (5, .int .i64 ((mget x.labels o).getD 0)), (6, .bool (mget x.labels o).isSome)] (by kernel_rfl) fun a ha => ?_
  refine hK _ _ ?_; clear hK K
  refine wp_seq_k fun K hK => ?_
  refine wp_seq_k fun K2 hK2 => ?_
  refine wp_region_lit ?_
  refine seg ha 1 [(0, .pointer (some ⟨g, 0, none⟩)), (1, .string (bstr o)), (5, .int .i64 ((mget x.labels o).getD 0)), (6, .bool (mget x.labels o).isSome), (16, .bool (mget x.labels o).isSome)] (by kernel_rfl) fun a ha => ?_
  refine hK2 _ _ ?_; clear hK2 K2
  have J : ∀ (a : Act) (w1 : World), Has a Try.f15.ntmps [(6, .bool r.1)] → PoolAt w1 g [g, g1, g2] r.2 → Chg [g, g1, g2] w w1 → MS M w1 → K a w1 := by
    intro a w1 ha hP hC hM
    refine hK _ _ ?_; clear hK K
    refine wp_seq_k fun K hK => ?_
    refine wp_region_lit ?_
    refine seg ha 2 [(4, .bool r.1)] (by kernel_rfl) fun a ha => ?_
    refine hK _ _ ?_; clear hK K
    refine wp_ret ?_
    exact rt1 ha rfl rfl ⟨rfl, hP, hC, hM⟩
  refine cnd ha rfl (fun hc => ?_) (fun hc => ?_)
  · have H := Option.some.inj (ite_t hc H)
    refine wp_seq_k fun K2 hK2 => ?_
    refine wp_region_lit ?_
    refine seg ha 3 [(0, .pointer (some ⟨g, 0, none⟩)), (1, .string (bstr o)), (5, .int .i64 ((mget x.labels o).getD 0)), (6, .bool (mget x.labels o).isSome), (19, .pointer (some ⟨g, 2, none⟩))] (by kernel_rfl) fun a ha => ?_
    refine ld (v := .map (some g1)) ha rfl (by kernel_rfl) rfl rfl rfl (hB.cell' (o := 2) rfl rfl) fun a ha => ?_
    refine seg ha 1 [(0, .pointer (some ⟨g, 0, none⟩)), (5, .int .i64 ((mget x.labels o).getD 0)), (6, .bool (mget x.labels o).isSome), (20, .map (some g1)), (21, .string (bstr o))] (by kernel_rfl) fun a ha => ?_
    refine mdl (k := o) ha u54 K9 rfl rfl rfl h1 fun a w1 ha h1 c1 => ?_
    have hB := hB.chg c1 (by simp [n1])
    have h2 := h2.chg c1 (by simp [Ne.symm n3])
    refine wpl_end ?_
    have ha := ha.sel (env' := [(0, .pointer (some ⟨g, 0, none⟩)), (5, .int .i64 ((mget x.labels o).getD 0)), (6, .bool (mget x.labels o).isSome)]) (by kernel_rfl)
    refine hK2 _ _ ?_; clear hK2 K2
    refine wp_region_lit ?_
    refine seg ha 3 [(5, .int .i64 ((mget x.labels o).getD 0)), (6, .bool (mget x.labels o).isSome), (24, .pointer (some ⟨g, 3, none⟩))] (by kernel_rfl) fun a ha => ?_
    refine ld (v := .map (some g2)) ha rfl (by kernel_rfl) rfl rfl rfl (hB.cell' (o := 3) rfl rfl) fun a ha => ?_
    refine seg ha 1 [(6, .bool (mget x.labels o).isSome), (25, .map (some g2)), (26, .int .i64 ((mget x.labels o).getD 0))] (by kernel_rfl) fun a ha => ?_
    refine mdl (k := (mget x.labels o).getD 0) ha u55 K3 rfl rfl rfl h2 fun a w2 ha h2 c2 => ?_
    have hB := hB.chg c2 (by simp [n2])
    have h1 := h1.chg c2 (by simp [n3])
    refine wpl_end ?_
    subst H
    have ha := ha.sel (env' := [(6, .bool (mget x.labels o).isSome)]) (by kernel_rfl)
    exact J _ _ (ha.lit hc) ⟨g1, g2, rfl, n1, n2, n3, hB, h1, h2⟩ ((c1.mono (gs' := [g, g1, g2]) (Ok.one (.inl (by simp)))).trans c2 (Ok.one (.inl (by simp)))) ((hM.chg c1).chg c2)
  · have H := Option.some.inj (ite_f hc H)
    refine wp_skip ?_
    subst H
    have ha := ha.sel (env' := [(6, .bool (mget x.labels o).isSome)]) (by kernel_rfl)
    exact J _ _ (ha.lit hc) ⟨g1, g2, rfl, n1, n2, n3, hB, h1, h2⟩ (Chg.refl _ _) hM
def Pool_New.f (a b : Int) : Option (Option PoolS × Int) := (if (if (if (if decide (a < (16 : Int)) = true then true else decide (a > (1048575 : Int))) = true then true else decide (b < (1 : Int))) = true then true else decide (b > IntKind.i64.wrap (IntKind.i64.wrap ((1048575 : Int) - a) + (1 : Int)))) = true then some (none, 1) else some (some ⟨a, b, [], []⟩, 0))
theorem Pool_New.walk (w : World) (M : List Nat) (hM : MS M w) (a0 b0 : Int) (r : Option PoolS × Int) (H : Pool_New.f a0 b0 = some r) :
    To Try.prog 9 [.int .i64 a0, .int .i64 b0] w fun v w' => ∃ po g L, v = .tuple #[.pointer po, .int .i64 r.2] ∧ (r.1 = none → po = none ∧ L = []) ∧ (∀ x, r.1 = some x → po = some ⟨g, 0, none⟩ ∧ PoolAt w' g L x) ∧ (∀ y ∈ L, w.heap.size ≤ y) ∧ Chg [] w w' ∧ MS (L ++ M) w' := by
  unfold Pool_New.f at H
  refine ent Try.func9 rfl [(0, .int .i64 a0), (1, .int .i64 b0)] rfl (by rfl) fun a ha => ?_
  refine wp_seq_k fun K hK => ?_
  refine wp_region_lit ?_
  refine seg ha 2 [(0, .int .i64 a0), (1, .int .i64 b0)] (by kernel_rfl) fun a ha => ?_
  refine hK _ _ ?_; clear hK K
  refine wp_seq_k fun K hK => ?_
  refine wp_seq_k fun K2 hK2 => ?_
  refine wp_region_lit ?_
  refine seg ha 17 [(0, .int .i64 a0), (1, .int .i64 b0), (22, .bool (if (if (if decide (a0 < (16 : Int)) = true then true else decide (a0 > (1048575 : Int))) = true then true else decide (b0 < (1 : Int))) = true then true else decide (b0 > IntKind.i64.wrap (IntKind.i64.wrap ((1048575 : Int) - a0) + (1 : Int)))))] (by kernel_rfl) fun a ha => ?_
  refine hK2 _ _ ?_; clear hK2 K2
  refine cnd ha rfl (fun hc => ?_) (fun hc => ?_)
  · have H := Option.some.inj (ite_t hc H)
    refine wp_seq_k fun K2 hK2 => ?_
    refine wp_region_lit ?_
    refine seg ha 2 [(4, .pointer none), (5, .int .i64 1)] (by kernel_rfl) fun a ha => ?_
    refine hK2 _ _ ?_; clear hK2 K2
    refine wp_ret ?_
    simp only [Exit.then, Exit.inBlock]
    subst H
    exact rt2 ha rfl rfl rfl ⟨none, 0, [], rfl, fun _ => ⟨rfl, rfl⟩, (fun x h => nomatch h), (fun _ h => nomatch h), Chg.refl _ _, hM⟩
  · have H := Option.some.inj (ite_f hc H)
    refine wp_skip ?_
    refine hK _ _ ?_; clear hK K
    refine wp_seq_k fun K hK => ?_
    refine wp_region_lit ?_
    refine seg ha 2 [(23, .int .i64 a0), (24, .int .i64 b0)] (by kernel_rfl) fun a ha => ?_
    refine mmk ha rfl rfl rfl fun a w1 g1 N1 ha => ?_
    refine mmk ha rfl rfl rfl fun a w2 g2 N2 ha => ?_
    refine opk (v := .agg #[.int .i64 a0, .int .i64 b0, .map (some g1), .map (some g2)]) ha rfl rfl rfl rfl rfl (fun w => by kernel_rfl) fun a ha => ?_
    refine bx (cs := [.int .i64 a0, .int .i64 b0, .map (some g1), .map (some g2)]) ha rfl rfl rfl rfl rfl fun a w3 g N3 ha => ?_
    refine seg ha 2 [(4, .pointer (some ⟨g, 0, none⟩)), (5, .int .i64 0)] (by kernel_rfl) fun a ha => ?_
    refine hK _ _ ?_; clear hK K
    refine wp_ret ?_
    subst H
    have z1 := N1.ge
    have z2 := N2.ge
    have z3 := N3.ge
    have s1 := N1.size
    have s2 := N2.size
    have s3 := N3.size
    have m1 : MapR kS (kI .i64) w3 g1 [] := (N1.mapR.chg N2.chg (fun h => nomatch h)).chg N3.chg (fun h => nomatch h)
    have m2 : MapR (kI .i64) kS w3 g2 [] := N2.mapR.chg N3.chg (fun h => nomatch h)
    refine rt2 ha rfl rfl rfl ⟨some ⟨g, 0, none⟩, g, [g, g1, g2], rfl, (fun h => nomatch h), ?_, ?_, ?_, ?_⟩
    · rintro x h
      obtain rfl := Option.some.inj h
      exact ⟨rfl, g1, g2, rfl, by omega, by omega, by omega, N3.box, m1, m2⟩
    · intro y hy
      simp at hy
      omega
    · exact (N1.chg.trans N2.chg (Ok.nil _ _)).trans N3.chg (Ok.nil _ _)
    · refine MS.app ?_ (((hM.chg N1.chg).chg N2.chg).chg N3.chg)
      intro y hy
      simp at hy
      omega
def Pool_Take.l0 (ow : List (Int × List UInt8)) : Nat → Int → Option Int
  | 0, _ => none
  | k + 1, n => if (mget ow n).isSome = true then Pool_Take.l0 ow k (IntKind.i64.wrap (n + (1 : Int))) else some n
def Pool_Take.f (k : Nat) (x : PoolS) (o : List UInt8) : Option (Int × Int × PoolS) :=
  if (mget x.labels o).isSome = true then some ((mget x.labels o).getD 0, 0, x) else
  if ((x.labels.length : Int) == x.count) = true then some (0, 6, x) else
  (Pool_Take.l0 x.owners k x.first).bind fun n => some (n, 0, ⟨x.first, x.count, mset x.labels o n, mset x.owners n o⟩)
theorem Pool_Take.walk (w : World) (M : List Nat) (hM : MS M w) (g : Nat) (L : List Nat) (x : PoolS) (f : PoolAt w g L x) (hL : ∀ y ∈ L, y ∈ M) (o : List UInt8) (k : Nat) (r : Int × Int × PoolS) (H : Pool_Take.f k x o = some r) :
    To Try.prog 10 [.pointer (some ⟨g, 0, none⟩), .string (bstr o)] w fun v w' => v = .tuple #[.int .i64 r.1, .int .i64 r.2.1] ∧ PoolAt w' g L r.2.2 ∧ Chg L w w' ∧ MS M w' := by
  unfold Pool_Take.f at H
  obtain ⟨g1, g2, rfl, n1, n2, n3, hB, h1, h2⟩ := f
  refine ent Try.func10 rfl [(0, .pointer (some ⟨g, 0, none⟩)), (1, .string (bstr o))] rfl (by rfl) fun a ha => ?_
  refine wp_seq_k fun K hK => ?_
  refine wp_region_lit ?_
  refine seg ha 2 [(0, .pointer (some ⟨g, 0, none⟩)), (1, .string (bstr o))] (by kernel_rfl) fun a ha => ?_
  refine hK _ _ ?_; clear hK K
  refine wp_seq_k fun K hK => ?_
  refine wp_seq_k fun K2 hK2 => ?_
  refine wp_region_lit ?_
  refine seg ha 3 [(0, .pointer (some ⟨g, 0, none⟩)), (1, .string (bstr o)), (14, .pointer (some ⟨g, 2, none⟩))] (by kernel_rfl) fun a ha => ?_
  refine ld (v := .map (some g1)) ha rfl (by kernel_rfl) rfl rfl rfl (hB.cell' (o := 2) rfl rfl) fun a ha => ?_
  refine seg ha 1 [(0, .pointer (some ⟨g, 0, none⟩)), (1, .string (bstr o)), (15, .map (some g1)), (16, .string (bstr o))] (by kernel_rfl) fun a ha => ?_
  refine mlk (k := o) (z := (0 : Int)) ha u54 K9 rfl rfl (fun w => by kernel_rfl) rfl rfl rfl h1 fun a ha => ?_
  refine seg ha 5 [(0, .pointer (some ⟨g, 0, none⟩)), (1, .string (bstr o)), (6, .int .i64 ((mget x.labels o).getD 0)), (7, .bool (mget x.labels o).isSome)] (by kernel_rfl) fun a ha => ?_
  refine hK2 _ _ ?_; clear hK2 K2
  refine wp_seq_k fun K2 hK2 => ?_
  refine wp_region_lit ?_
  refine seg ha 1 [(0, .pointer (some ⟨g, 0, none⟩)), (1, .string (bstr o)), (6, .int .i64 ((mget x.labels o).getD 0)), (20, .bool (mget x.labels o).isSome)] (by kernel_rfl) fun a ha => ?_
  refine hK2 _ _ ?_; clear hK2 K2
  refine cnd ha rfl (fun hc => ?_) (fun hc => ?_)
  · have H := Option.some.inj (ite_t hc H)
    refine wp_seq_k fun K2 hK2 => ?_
    refine wp_region_lit ?_
    refine seg ha 3 [(4, .int .i64 ((mget x.labels o).getD 0)), (5, .int .i64 0)] (by kernel_rfl) fun a ha => ?_
    refine hK2 _ _ ?_; clear hK2 K2
    refine wp_ret ?_
    simp only [Exit.then, Exit.inBlock]
    subst H
    exact rt2 ha rfl rfl rfl ⟨rfl, ⟨g1, g2, rfl, n1, n2, n3, hB, h1, h2⟩, Chg.refl _ _, hM⟩
  have H := ite_f hc H
  refine wp_skip ?_
  refine hK _ _ ?_; clear hK K
  refine wp_seq_k fun K hK => ?_
  refine wp_seq_k fun K2 hK2 => ?_
  refine drq0 (fun w' => Chg [] w w') (by kernel_rfl) (by kernel_rfl) (fun _ h => h) ?_
  refine qp 0 (.pointer (some ⟨g, 0, none⟩)) ha rfl rfl rfl (by kernel_rfl) fun a ha => ?_
  refine qp 0 (.pointer (some ⟨g, 0, none⟩)) ha rfl rfl rfl (by kernel_rfl) fun a ha => ?_
  refine qp 0 (.pointer (some ⟨g, 2, none⟩)) ha rfl rfl rfl (by kernel_rfl) fun a ha => ?_
  refine qv (v := .map (some g1)) ha rfl rfl rfl (fun w' hs => ld_run ha rfl (by kernel_rfl) ((hB.chg hs (fun h => nomatch h)).cell' (o := 2) rfl rfl)) fun a ha => ?_
  refine qv (v := .int .i64 (x.labels.length : Int)) ha rfl rfl rfl (fun w' hs => mln_run ha u54 rfl (h1.chg hs (fun h => nomatch h))) fun a ha => ?_
  refine qp 0 (.pointer (some ⟨g, 0, none⟩)) ha rfl rfl rfl (by kernel_rfl) fun a ha => ?_
  refine qp 0 (.pointer (some ⟨g, 0, none⟩)) ha rfl rfl rfl (by kernel_rfl) fun a ha => ?_
  refine qp 0 (.pointer (some ⟨g, 1, none⟩)) ha rfl rfl rfl (by kernel_rfl) fun a ha => ?_
  refine qv (v := .int .i64 x.count) ha rfl rfl rfl (fun w' hs => ld_run ha rfl (by kernel_rfl) ((hB.chg hs (fun h => nomatch h)).cell' (o := 1) rfl rfl)) fun a ha => ?_
  refine qp 0 (.bool ((x.labels.length : Int) == x.count)) ha rfl rfl rfl (by kernel_rfl) fun a ha => ?_
  have ha := ha.sel (env' := [(31, .bool ((x.labels.length : Int) == x.count)), (0, .pointer (some ⟨g, 0, none⟩)), (1, .string (bstr o))]) (by kernel_rfl)
  intro w1 hs
  refine wpl_end ?_
  have hB := hB.chg hs (fun h => nomatch h)
  have h1 := h1.chg hs (fun h => nomatch h)
  have h2 := h2.chg hs (fun h => nomatch h)
  have hM := hM.chg hs
  have hC : Chg [g, g1, g2] w w1 := hs.mono (Ok.nil _ _)
  refine hK2 _ _ ?_; clear hK2 K2
  refine cnd ha rfl (fun hc2 => ?_) (fun hc2 => ?_)
  · have H := Option.some.inj (ite_t hc2 H)
    refine wp_seq_k fun K2 hK2 => ?_
    refine wp_region_lit ?_
    refine seg ha 2 [(4, .int .i64 0), (5, .int .i64 6)] (by kernel_rfl) fun a ha => ?_
    refine hK2 _ _ ?_; clear hK2 K2
    refine wp_ret ?_
    simp only [Exit.then, Exit.inBlock]
    subst H
    exact rt2 ha rfl rfl rfl ⟨rfl, ⟨g1, g2, rfl, n1, n2, n3, hB, h1, h2⟩, hC, hM⟩
  have H := ite_f hc2 H
  refine wp_skip ?_
  refine hK _ _ ?_; clear hK K
  obtain ⟨s, Hs, H⟩ := bind_some H
  have H := Option.some.inj H
  refine wp_seq_k fun K hK => ?_
  refine wp_region_lit ?_
  refine seg ha 3 [(0, .pointer (some ⟨g, 0, none⟩)), (1, .string (bstr o)), (34, .pointer (some ⟨g, 0, none⟩))] (by kernel_rfl) fun a ha => ?_
  refine ld (v := .int .i64 x.first) ha rfl (by kernel_rfl) rfl rfl rfl (hB.cell' (o := 0) rfl rfl) fun a ha => ?_
  refine seg ha 1 [(0, .pointer (some ⟨g, 0, none⟩)), (1, .string (bstr o)), (8, .int .i64 x.first)] (by kernel_rfl) fun a ha => ?_
  refine hK _ _ ?_; clear hK K
  refine wp_seq_k fun K hK => ?_
  refine wp_seq_k fun K2 hK2 => ?_
  refine wp_region_lit ?_
  refine seg ha 3 [(0, .pointer (some ⟨g, 0, none⟩)), (1, .string (bstr o)), (8, .int .i64 x.first), (39, .pointer (some ⟨g, 3, none⟩))] (by kernel_rfl) fun a ha => ?_
  refine ld (v := .map (some g2)) ha rfl (by kernel_rfl) rfl rfl rfl (hB.cell' (o := 3) rfl rfl) fun a ha => ?_
  refine seg ha 1 [(0, .pointer (some ⟨g, 0, none⟩)), (1, .string (bstr o)), (8, .int .i64 x.first), (40, .map (some g2)), (41, .int .i64 x.first)] (by kernel_rfl) fun a ha => ?_
  refine mlk (k := x.first) (z := ([] : List UInt8)) ha u55 K3 rfl rfl (fun w => by kernel_rfl) rfl rfl rfl h2 fun a ha => ?_
  refine seg ha 5 [(0, .pointer (some ⟨g, 0, none⟩)), (1, .string (bstr o)), (8, .int .i64 x.first), (10, .bool (mget x.owners x.first).isSome)] (by kernel_rfl) fun a ha => ?_
  refine hK2 _ _ ?_; clear hK2 K2
  refine wp_block ?_
  have J : ∀ (a : Act) (w1 : World), Has a Try.f10.ntmps [(0, .pointer (some ⟨g, 0, none⟩)), (1, .string (bstr o)), (8, .int .i64 s)] → Box w1 g [.int .i64 x.first, .int .i64 x.count, .map (some g1), .map (some g2)] → MapR kS (kI .i64) w1 g1 x.labels → MapR (kI .i64) kS w1 g2 x.owners → Chg [g, g1, g2] w w1 → MS M w1 → K a w1 := by
    intro a w1 ha hB h1 h2 hC hM
    refine hK _ _ ?_; clear hK K
    refine wp_seq_k fun K hK => ?_
    refine drw (fun w' => Chg [g1, g2] w1 w') (by kernel_rfl) fun w2 hs _ => ?_
    have hS : Chg [g1, g2] w1 w2 := hs.mono (Ok.nil _ _)
    refine tkpz 0 0 (.pointer (some ⟨g, 0, none⟩)) ha (s := hS) (q := fun a ha => ?_)
    refine tkpz 1 0 (.pointer (some ⟨g, 0, none⟩)) ha (s := hS) (q := fun a ha => ?_)
    refine tkpz 2 0 (.pointer (some ⟨g, 2, none⟩)) ha (s := hS) (q := fun a ha => ?_)
    refine tkz 3 ha (v := .map (some g1)) (y := fun w' hs => ld_run ha rfl (by kernel_rfl) ((hB.chg hs (by simp [n1, n2])).cell' (o := 2) rfl rfl)) (s := hS) (q := fun a ha => ?_)
    refine tkpz 4 0 (.string (bstr o)) ha (s := hS) (q := fun a ha => ?_)
    refine tkpz 5 0 (.pointer (some ⟨g, 0, none⟩)) ha (s := hS) (q := fun a ha => ?_)
    refine tkpz 6 0 (.pointer (some ⟨g, 0, none⟩)) ha (s := hS) (q := fun a ha => ?_)
    refine tkpz 7 0 (.pointer (some ⟨g, 3, none⟩)) ha (s := hS) (q := fun a ha => ?_)
    refine tkz 8 ha (v := .map (some g2)) (y := fun w' hs => ld_run ha rfl (by kernel_rfl) ((hB.chg hs (by simp [n1, n2])).cell' (o := 3) rfl rfl)) (s := hS) (q := fun a ha => ?_)
    refine tkpz 9 0 (.int .i64 s) ha (s := hS) (q := fun a ha => ?_)
    refine tkpz 10 0 (.int .i64 s) ha (s := hS) (q := fun a ha => ?_)
    refine tkpz 11 0 (.string (bstr o)) ha (s := hS) (q := fun a ha => ?_)
    have ha := ha.sel (env' := [(60, .map (some g1)), (61, .string (bstr o)), (67, .int .i64 s), (65, .map (some g2)), (66, .int .i64 s), (68, .string (bstr o)), (8, .int .i64 s)]) (by kernel_rfl)
    have hB := hB.chg hs (fun h => nomatch h)
    have h1 := h1.chg hs (fun h => nomatch h)
    have h2 := h2.chg hs (fun h => nomatch h)
    have hM := hM.chg hs
    have hC := hC.trans hs (Ok.nil _ _)
    refine ac 12 (by kernel_rfl) rfl fun K2 hK2 => ?_
    refine men (k := o) (z := (0 : Int)) ha u54 K9 rfl rfl (fun w => by kernel_rfl) rfl rfl rfl h1 fun a w3 st ha e1 c3 => ?_
    have hS := hS.trans c3 (Ok.one (.inl (by simp)))
    have hB := hB.chg c3 (by simp [n1])
    have h2 := h2.chg c3 (by simp [Ne.symm n3])
    have hM := hM.chg c3
    have hC := hC.trans c3 (Ok.one (.inl (by simp)))
    refine ae hK2 hS ?_
    clear hK2 K2
    refine tkpz 13 0 (.int .i64 st) ha (s := hS) (q := fun a ha => ?_)
    refine ac 14 (by kernel_rfl) rfl fun K2 hK2 => ?_
    refine mes (v := s) (kv := kS) (k := o) ha rfl rfl rfl rfl e1 fun a w4 ha h1 c4 => ?_
    have hS := hS.trans c4 (Ok.one (.inl (by simp)))
    have hB := hB.chg c4 (by simp [n1])
    have h2 := h2.chg c4 (by simp [Ne.symm n3])
    have hM := hM.chg c4
    have hC := hC.trans c4 (Ok.one (.inl (by simp)))
    refine ae hK2 hS ?_
    clear hK2 K2
    refine ac 15 (by kernel_rfl) rfl fun K2 hK2 => ?_
    refine men (k := s) (z := ([] : List UInt8)) ha u55 K3 rfl rfl (fun w => by kernel_rfl) rfl rfl rfl h2 fun a w5 st2 ha e2 c5 => ?_
    have hS := hS.trans c5 (Ok.one (.inl (by simp)))
    have hB := hB.chg c5 (by simp [n2])
    have h1 := h1.chg c5 (by simp [n3])
    have hM := hM.chg c5
    have hC := hC.trans c5 (Ok.one (.inl (by simp)))
    refine ae hK2 hS ?_
    clear hK2 K2
    refine tkpz 16 0 (.int .i64 st2) ha (s := hS) (q := fun a ha => ?_)
    refine ac 17 (by kernel_rfl) rfl fun K2 hK2 => ?_
    refine mes (v := o) (kv := kI .i64) (k := s) ha rfl rfl rfl rfl e2 fun a w6 ha h2 c6 => ?_
    have hS := hS.trans c6 (Ok.one (.inl (by simp)))
    have hB := hB.chg c6 (by simp [n2])
    have h1 := h1.chg c6 (by simp [n3])
    have hM := hM.chg c6
    have hC := hC.trans c6 (Ok.one (.inl (by simp)))
    refine ae hK2 hS ?_
    clear hK2 K2
    refine dn (by kernel_rfl) ?_
    have ha := ha.sel (env' := [(8, .int .i64 s)]) (by kernel_rfl)
    refine hK _ _ ?_; clear hK K
    refine wp_seq_k fun K hK => ?_
    refine wp_region_lit ?_
    refine seg ha 3 [(4, .int .i64 s), (5, .int .i64 0)] (by kernel_rfl) fun a ha => ?_
    refine hK _ _ ?_; clear hK K
    refine wp_ret ?_
    subst H
    exact rt2 ha rfl rfl rfl ⟨rfl, ⟨g1, g2, rfl, n1, n2, n3, hB, h1, h2⟩, hC, hM⟩
  refine wp_loop_ghost (fun kk a w1 => ∃ n : Int, Pool_Take.l0 x.owners kk n = some s ∧ Has a Try.f10.ntmps [(0, .pointer (some ⟨g, 0, none⟩)), (1, .string (bstr o)), (8, .int .i64 n), (10, .bool (mget x.owners n).isSome)] ∧ Box w1 g [.int .i64 x.first, .int .i64 x.count, .map (some g1), .map (some g2)] ∧ MapR kS (kI .i64) w1 g1 x.labels ∧ MapR (kI .i64) kS w1 g2 x.owners ∧ Chg [g, g1, g2] w w1 ∧ MS M w1) k ?_ ?_
  · exact ⟨x.first, Hs, ha.sel (by kernel_rfl), hB, h1, h2, hC, hM⟩
  · rintro kk a w2 ⟨n, Hn, ha, hB, h1, h2, hC, hM⟩
    obtain _ | kk := kk
    · exact nomatch (show none = some _ from Hn)
    rw [Pool_Take.l0] at Hn
    refine wp_seq_k fun K2 hK2 => ?_
    refine wp_seq_k fun K3 hK3 => ?_
    refine wp_region_lit ?_
    refine seg ha 1 [(0, .pointer (some ⟨g, 0, none⟩)), (1, .string (bstr o)), (8, .int .i64 n), (45, .bool (mget x.owners n).isSome)] (by kernel_rfl) fun a ha => ?_
    refine hK3 _ _ ?_; clear hK3 K3
    refine cnd ha rfl (fun hc3 => ?_) (fun hc3 => ?_)
    · have Hn := ite_t hc3 Hn
      refine wp_skip ?_
      refine hK2 _ _ ?_; clear hK2 K2
      refine wp_seq_k fun K2 hK2 => ?_
      refine wp_block ?_
      refine wp_region_lit ?_
      refine seg ha 3 [(0, .pointer (some ⟨g, 0, none⟩)), (1, .string (bstr o)), (8, .int .i64 (IntKind.i64.wrap (n + (1 : Int))))] (by kernel_rfl) fun a ha => ?_
      refine hK2 _ _ ?_; clear hK2 K2
      refine wp_region_lit ?_
      refine seg ha 3 [(0, .pointer (some ⟨g, 0, none⟩)), (1, .string (bstr o)), (8, .int .i64 (IntKind.i64.wrap (n + (1 : Int)))), (49, .pointer (some ⟨g, 3, none⟩))] (by kernel_rfl) fun a ha => ?_
      refine ld (v := .map (some g2)) ha rfl (by kernel_rfl) rfl rfl rfl (hB.cell' (o := 3) rfl rfl) fun a ha => ?_
      refine seg ha 1 [(0, .pointer (some ⟨g, 0, none⟩)), (1, .string (bstr o)), (8, .int .i64 (IntKind.i64.wrap (n + (1 : Int)))), (50, .map (some g2)), (51, .int .i64 (IntKind.i64.wrap (n + (1 : Int))))] (by kernel_rfl) fun a ha => ?_
      refine mlk (k := IntKind.i64.wrap (n + (1 : Int))) (z := ([] : List UInt8)) ha u55 K3 rfl rfl (fun w => by kernel_rfl) rfl rfl rfl h2 fun a ha => ?_
      refine seg ha 4 [(0, .pointer (some ⟨g, 0, none⟩)), (1, .string (bstr o)), (8, .int .i64 (IntKind.i64.wrap (n + (1 : Int)))), (10, .bool (mget x.owners (IntKind.i64.wrap (n + (1 : Int)))).isSome)] (by kernel_rfl) fun a ha => ?_
      exact ⟨kk, Nat.lt_succ_self _, ⟨_, Hn, ha.sel (by kernel_rfl), hB, h1, h2, hC, hM⟩⟩
    · have Hn := ite_f hc3 Hn
      refine wp_exit ?_
      simp only [Exit.then, Exit.inBlock, ↓reduceIte, Nat.reduceEqDiff]
      obtain rfl := Option.some.inj Hn
      exact J _ _ (ha.sel (by kernel_rfl)) hB h1 h2 hC hM



def vinerylaw05_small.f (k : Nat) : Option (Bool) := (label_Bytes.f k (16 : Int) true).bind fun t3 => (Pool_New.f (16 : Int) (2 : Int)).bind fun t6 => om t6.1 (some ((false : Bool))) fun x6 => (Pool_Take.f k x6 ([97] : List UInt8)).bind fun t15 => (Pool_Take.f k t15.2.2 ([98] : List UInt8)).bind fun t17 => (Pool_Take.f k t17.2.2 ([99] : List UInt8)).bind fun t19 => (Pool_Free.f t19.2.2 ([97] : List UInt8)).bind fun t21 => (Pool_Take.f k t21.2 ([99] : List UInt8)).bind fun t23 => ((if (t3.2 == (0 : Int)) = true then (if ((bstr (b2s t3.1)).toList == (bstr ([0, 1, 1] : List UInt8)).toList) = true then (if (t6.2 == (0 : Int)) = true then (if (t15.2.1 == (0 : Int)) = true then (if (t15.1 == (16 : Int)) = true then (if (t17.2.1 == (0 : Int)) = true then (if (t17.1 == (17 : Int)) = true then (if (t19.2.1 == (6 : Int)) = true then (if t21.1 = true then (if (t23.2.1 == (0 : Int)) = true then some (t23.1 == (16 : Int) : Bool) else some (false : Bool)) else some (false : Bool)) else some (false : Bool)) else some (false : Bool)) else some (false : Bool)) else some (false : Bool)) else some (false : Bool)) else some (false : Bool)) else some (false : Bool)) else some (false : Bool))).bind fun s25 => some ((s25 : Bool))
set_option maxRecDepth 100000 in
theorem vinerylaw05_small.walk (w : World) (M : List Nat) (hM : MS M w)  (k : Nat) (r : Bool) (H : vinerylaw05_small.f k = some r) :
    To Try.prog 8 [] w fun v w' => v = .bool r ∧ Chg [] w w' ∧ MS (M) w' := by
 unfold vinerylaw05_small.f at H
 refine ent Try.func8 rfl [] rfl (by rfl) fun a ha => ?_
 have hC : Chg [] w w := Chg.refl _ _
 refine wp_seq_k fun K1 hK1 => ?_
 refine wp_region_lit ?_
 refine seg ha 1 [] (by kernel_rfl) fun a ha => ?_
 refine hK1 _ _ ?_; try clear hK1 K1
 refine wp_seq_k fun K2 hK2 => ?_
 refine wp_region_lit ?_
 obtain ⟨t3, H3, H⟩ := bind_some H
 refine cl ha (by rfl) (by kernel_rfl) (by rfl) (by rfl) (by rfl) (label_Bytes.walk w _ hM (16 : Int) true k _ H3) ?_
 rintro _ w3 ⟨ao4, cap4, rfl, f4, ne_i4, hc3, hMn⟩ a ha
 have p_i4_M : ∀ x ∈ blkL ao4, x ∉ M := fun x hx hy => absurd (hM x (hy)) (Nat.not_lt.2 (ne_i4 x hx))
 have e_i4 : ∀ x ∈ blkL ao4, w.heap.size ≤ x := fun x hx => Nat.le_trans hC.size (ne_i4 x hx)
 have hM : MS (blkL ao4 ++ (M)) w3 := (MS.app (fun x h => hMn x (ml h)) (hM.chg hc3))
 have hC := hC.trans hc3 (Ok.nil _ _)
 refine seg ha 5 [(1, .slice ao4 t3.1.length cap4), (2, .int .i64 t3.2)] (by kernel_rfl) fun a ha => ?_
 refine hK2 _ _ ?_; try clear hK2 K2
 refine wp_seq_k fun K5 hK5 => ?_
 refine wp_region_lit ?_
 obtain ⟨t6, H6, H⟩ := bind_some H
 refine cl ha (by rfl) (by kernel_rfl) (by rfl) (by rfl) (by rfl) (Pool_New.walk w3 _ hM (16 : Int) (2 : Int) _ H6) ?_
 rintro _ w6 ⟨po6, gO6, L6, rfl, hn6, hs6, ne_i6, hc6, hMn⟩ a ha
 rcases om_cases H with ⟨he6, H⟩ | ⟨x6, he6, H⟩
 ·skip
  obtain ⟨rfl, rfl⟩ := hn6 he6
  have o1 : Ok [] (blkL ao4 ++ (M)) w3.heap.size := Ok.nil _ _
  have o2 : Ok (blkL ao4 ++ (M)) (blkL ao4 ++ (M)) w3.heap.size := (Ok.refl _ _)
  have f4 := f4.chg hc6 o1 o2 (fun _ _ h => nomatch h) (fun _ h => ml h)
  have hM : MS (blkL ao4 ++ (M)) w6 := (hM.chg hc6)
  have hC := hC.trans hc6 (Ok.nil _ _)
  refine seg ha 5 [(1, .slice ao4 t3.1.length cap4), (2, .int .i64 t3.2), (3, .pointer none), (4, .int .i64 t6.2)] (by kernel_rfl) fun a ha => ?_
  refine hK5 _ _ ?_; try clear hK5 K5
  refine wp_seq_k fun K7 hK7 => ?_
  refine wp_seq_k fun K8 hK8 => ?_
  refine wp_region_lit ?_
  refine seg ha 2 [(1, .slice ao4 t3.1.length cap4), (2, .int .i64 t3.2), (3, .pointer none), (4, .int .i64 t6.2), (23, .bool true)] (by kernel_rfl) fun a ha => ?_
  refine hK8 _ _ ?_; try clear hK8 K8
  refine cnd ha rfl (fun _ => ?_) (fun h => nomatch h)
  refine wp_seq_k fun K10 hK10 => ?_
  refine wp_region_lit ?_
  refine seg ha 1 [(0, .bool false)] (by kernel_rfl) fun a ha => ?_
  refine hK10 _ _ ?_; try clear hK10 K10
  refine wp_ret ?_
  try simp only [Exit.then, Exit.inBlock]
  have hM : MS (M) w6 := (fun x h => hM.chg (Chg.refl [] _) x (mr (h)))
  have hC := hC.trans (Chg.refl [] _) (Ok.nil _ _)
  obtain rfl := Option.some.inj H
  refine rt1 ha rfl rfl ?_
  exact ⟨rfl, hC, hM⟩
 ·skip
  obtain ⟨rfl, fO6⟩ := hs6 x6 he6
  have o1 : Ok [] (blkL ao4 ++ (M)) w3.heap.size := Ok.nil _ _
  have o2 : Ok (L6 ++ (blkL ao4 ++ (M))) (blkL ao4 ++ (M)) w3.heap.size := (Ok.app (fun x h => .inr (ne_i6 x h)) (Ok.refl _ _))
  have f4 := f4.chg hc6 o1 o2 (fun _ _ h => nomatch h) (fun _ h => mr (ml h))
  have p_i6_i4 : ∀ x ∈ L6, x ∉ (blkL ao4) := fun x hx hy => absurd (hM x (ml hy)) (Nat.not_lt.2 (ne_i6 x hx))
  have p_i6_M : ∀ x ∈ L6, x ∉ M := fun x hx hy => absurd (hM x (mr (hy))) (Nat.not_lt.2 (ne_i6 x hx))
  have e_i6 : ∀ x ∈ L6, w.heap.size ≤ x := fun x hx => Nat.le_trans hC.size (ne_i6 x hx)
  have hM : MS (L6 ++ (blkL ao4 ++ (M))) w6 := (MS.app (fun x h => hMn x (ml h)) (hM.chg hc6))
  have hC := hC.trans hc6 (Ok.nil _ _)
  refine seg ha 5 [(1, .slice ao4 t3.1.length cap4), (2, .int .i64 t3.2), (3, .pointer (some ⟨gO6, 0, none⟩)), (4, .int .i64 t6.2)] (by kernel_rfl) fun a ha => ?_
  refine hK5 _ _ ?_; try clear hK5 K5
  refine wp_seq_k fun K11 hK11 => ?_
  refine wp_seq_k fun K12 hK12 => ?_
  refine wp_region_lit ?_
  refine seg ha 2 [(1, .slice ao4 t3.1.length cap4), (2, .int .i64 t3.2), (3, .pointer (some ⟨gO6, 0, none⟩)), (4, .int .i64 t6.2), (23, .bool false)] (by kernel_rfl) fun a ha => ?_
  refine hK12 _ _ ?_; try clear hK12 K12
  refine cnd ha rfl (fun h => nomatch h) (fun _ => ?_)
  refine wp_skip ?_
  refine hK11 _ _ ?_; try clear hK11 K11
  refine wp_seq_k fun K14 hK14 => ?_
  refine wp_region_lit ?_
  refine seg ha 1 [(1, .slice ao4 t3.1.length cap4), (2, .int .i64 t3.2), (3, .pointer (some ⟨gO6, 0, none⟩)), (4, .int .i64 t6.2), (25, .pointer (some ⟨gO6, 0, none⟩))] (by kernel_rfl) fun a ha => ?_
  obtain ⟨t15, H15, H⟩ := bind_some H
  refine cl ha (by rfl) (by kernel_rfl) (by rfl) (by rfl) (by rfl) (Pool_Take.walk w6 _ hM gO6 L6 x6 fO6 (fun _ h => ml h) ([97] : List UInt8) k _ H15) ?_
  rintro _ w15 ⟨rfl, nf15, hc15, hMn⟩ a ha
  have o1 : Ok L6 (L6 ++ (blkL ao4 ++ (M))) w6.heap.size := (fun _ h => .inl (ml h))
  have o2 : Ok (L6 ++ (blkL ao4 ++ (M))) (L6 ++ (blkL ao4 ++ (M))) w6.heap.size := (Ok.refl _ _)
  have f4 := f4.chg hc15 o1 o2 (fun x (hx : x ∈ blkL ao4) (hy : x ∈ L6) => p_i6_i4 x hy hx) (fun _ h => mr (ml h))
  have hM : MS (L6 ++ (blkL ao4 ++ (M))) w15 := (hM.chg hc15)
  have hC := hC.trans hc15 (fun x h => .inr (e_i6 x h))
  have fO6 := nf15
  refine seg ha 5 [(1, .slice ao4 t3.1.length cap4), (2, .int .i64 t3.2), (3, .pointer (some ⟨gO6, 0, none⟩)), (4, .int .i64 t6.2), (5, .int .i64 t15.1), (6, .int .i64 t15.2.1)] (by kernel_rfl) fun a ha => ?_
  refine hK14 _ _ ?_; try clear hK14 K14
  refine wp_seq_k fun K16 hK16 => ?_
  refine wp_region_lit ?_
  refine seg ha 1 [(1, .slice ao4 t3.1.length cap4), (2, .int .i64 t3.2), (3, .pointer (some ⟨gO6, 0, none⟩)), (4, .int .i64 t6.2), (5, .int .i64 t15.1), (6, .int .i64 t15.2.1), (30, .pointer (some ⟨gO6, 0, none⟩))] (by kernel_rfl) fun a ha => ?_
  obtain ⟨t17, H17, H⟩ := bind_some H
  refine cl ha (by rfl) (by kernel_rfl) (by rfl) (by rfl) (by rfl) (Pool_Take.walk w15 _ hM gO6 L6 t15.2.2 fO6 (fun _ h => ml h) ([98] : List UInt8) k _ H17) ?_
  rintro _ w17 ⟨rfl, nf17, hc17, hMn⟩ a ha
  have o1 : Ok L6 (L6 ++ (blkL ao4 ++ (M))) w15.heap.size := (fun _ h => .inl (ml h))
  have o2 : Ok (L6 ++ (blkL ao4 ++ (M))) (L6 ++ (blkL ao4 ++ (M))) w15.heap.size := (Ok.refl _ _)
  have f4 := f4.chg hc17 o1 o2 (fun x (hx : x ∈ blkL ao4) (hy : x ∈ L6) => p_i6_i4 x hy hx) (fun _ h => mr (ml h))
  have hM : MS (L6 ++ (blkL ao4 ++ (M))) w17 := (hM.chg hc17)
  have hC := hC.trans hc17 (fun x h => .inr (e_i6 x h))
  have fO6 := nf17
  refine seg ha 5 [(1, .slice ao4 t3.1.length cap4), (2, .int .i64 t3.2), (3, .pointer (some ⟨gO6, 0, none⟩)), (4, .int .i64 t6.2), (5, .int .i64 t15.1), (6, .int .i64 t15.2.1), (7, .int .i64 t17.1), (8, .int .i64 t17.2.1)] (by kernel_rfl) fun a ha => ?_
  refine hK16 _ _ ?_; try clear hK16 K16
  refine wp_seq_k fun K18 hK18 => ?_
  refine wp_region_lit ?_
  refine seg ha 1 [(1, .slice ao4 t3.1.length cap4), (2, .int .i64 t3.2), (3, .pointer (some ⟨gO6, 0, none⟩)), (4, .int .i64 t6.2), (5, .int .i64 t15.1), (6, .int .i64 t15.2.1), (7, .int .i64 t17.1), (8, .int .i64 t17.2.1), (35, .pointer (some ⟨gO6, 0, none⟩))] (by kernel_rfl) fun a ha => ?_
  obtain ⟨t19, H19, H⟩ := bind_some H
  refine cl ha (by rfl) (by kernel_rfl) (by rfl) (by rfl) (by rfl) (Pool_Take.walk w17 _ hM gO6 L6 t17.2.2 fO6 (fun _ h => ml h) ([99] : List UInt8) k _ H19) ?_
  rintro _ w19 ⟨rfl, nf19, hc19, hMn⟩ a ha
  have o1 : Ok L6 (L6 ++ (blkL ao4 ++ (M))) w17.heap.size := (fun _ h => .inl (ml h))
  have o2 : Ok (L6 ++ (blkL ao4 ++ (M))) (L6 ++ (blkL ao4 ++ (M))) w17.heap.size := (Ok.refl _ _)
  have f4 := f4.chg hc19 o1 o2 (fun x (hx : x ∈ blkL ao4) (hy : x ∈ L6) => p_i6_i4 x hy hx) (fun _ h => mr (ml h))
  have hM : MS (L6 ++ (blkL ao4 ++ (M))) w19 := (hM.chg hc19)
  have hC := hC.trans hc19 (fun x h => .inr (e_i6 x h))
  have fO6 := nf19
  refine seg ha 5 [(1, .slice ao4 t3.1.length cap4), (2, .int .i64 t3.2), (3, .pointer (some ⟨gO6, 0, none⟩)), (4, .int .i64 t6.2), (5, .int .i64 t15.1), (6, .int .i64 t15.2.1), (7, .int .i64 t17.1), (8, .int .i64 t17.2.1), (10, .int .i64 t19.2.1)] (by kernel_rfl) fun a ha => ?_
  refine hK18 _ _ ?_; try clear hK18 K18
  refine wp_seq_k fun K20 hK20 => ?_
  refine wp_region_lit ?_
  refine seg ha 1 [(1, .slice ao4 t3.1.length cap4), (2, .int .i64 t3.2), (3, .pointer (some ⟨gO6, 0, none⟩)), (4, .int .i64 t6.2), (5, .int .i64 t15.1), (6, .int .i64 t15.2.1), (7, .int .i64 t17.1), (8, .int .i64 t17.2.1), (10, .int .i64 t19.2.1), (39, .pointer (some ⟨gO6, 0, none⟩))] (by kernel_rfl) fun a ha => ?_
  obtain ⟨t21, H21, H⟩ := bind_some H
  refine cl ha (by rfl) (by kernel_rfl) (by rfl) (by rfl) (by rfl) (Pool_Free.walk w19 _ hM gO6 L6 t19.2.2 fO6 (fun _ h => ml h) ([97] : List UInt8) _ H21) ?_
  rintro _ w21 ⟨rfl, nf21, hc21, hMn⟩ a ha
  have o1 : Ok L6 (L6 ++ (blkL ao4 ++ (M))) w19.heap.size := (fun _ h => .inl (ml h))
  have o2 : Ok (L6 ++ (blkL ao4 ++ (M))) (L6 ++ (blkL ao4 ++ (M))) w19.heap.size := (Ok.refl _ _)
  have f4 := f4.chg hc21 o1 o2 (fun x (hx : x ∈ blkL ao4) (hy : x ∈ L6) => p_i6_i4 x hy hx) (fun _ h => mr (ml h))
  have hM : MS (L6 ++ (blkL ao4 ++ (M))) w21 := (hM.chg hc21)
  have hC := hC.trans hc21 (fun x h => .inr (e_i6 x h))
  have fO6 := nf21
  refine seg ha 1 [(1, .slice ao4 t3.1.length cap4), (2, .int .i64 t3.2), (3, .pointer (some ⟨gO6, 0, none⟩)), (4, .int .i64 t6.2), (5, .int .i64 t15.1), (6, .int .i64 t15.2.1), (7, .int .i64 t17.1), (8, .int .i64 t17.2.1), (10, .int .i64 t19.2.1), (11, .bool t21.1)] (by kernel_rfl) fun a ha => ?_
  refine hK20 _ _ ?_; try clear hK20 K20
  refine wp_seq_k fun K22 hK22 => ?_
  refine wp_region_lit ?_
  refine seg ha 1 [(1, .slice ao4 t3.1.length cap4), (2, .int .i64 t3.2), (4, .int .i64 t6.2), (5, .int .i64 t15.1), (6, .int .i64 t15.2.1), (7, .int .i64 t17.1), (8, .int .i64 t17.2.1), (10, .int .i64 t19.2.1), (11, .bool t21.1), (42, .pointer (some ⟨gO6, 0, none⟩))] (by kernel_rfl) fun a ha => ?_
  obtain ⟨t23, H23, H⟩ := bind_some H
  refine cl ha (by rfl) (by kernel_rfl) (by rfl) (by rfl) (by rfl) (Pool_Take.walk w21 _ hM gO6 L6 t21.2 fO6 (fun _ h => ml h) ([99] : List UInt8) k _ H23) ?_
  rintro _ w23 ⟨rfl, nf23, hc23, hMn⟩ a ha
  have o1 : Ok L6 (L6 ++ (blkL ao4 ++ (M))) w21.heap.size := (fun _ h => .inl (ml h))
  have o2 : Ok (L6 ++ (blkL ao4 ++ (M))) (L6 ++ (blkL ao4 ++ (M))) w21.heap.size := (Ok.refl _ _)
  have f4 := f4.chg hc23 o1 o2 (fun x (hx : x ∈ blkL ao4) (hy : x ∈ L6) => p_i6_i4 x hy hx) (fun _ h => mr (ml h))
  have hM : MS (L6 ++ (blkL ao4 ++ (M))) w23 := (hM.chg hc23)
  have hC := hC.trans hc23 (fun x h => .inr (e_i6 x h))
  have fO6 := nf23
  refine seg ha 5 [(1, .slice ao4 t3.1.length cap4), (2, .int .i64 t3.2), (4, .int .i64 t6.2), (5, .int .i64 t15.1), (6, .int .i64 t15.2.1), (7, .int .i64 t17.1), (8, .int .i64 t17.2.1), (10, .int .i64 t19.2.1), (11, .bool t21.1), (12, .int .i64 t23.1), (13, .int .i64 t23.2.1)] (by kernel_rfl) fun a ha => ?_
  refine hK22 _ _ ?_; try clear hK22 K22
  refine wp_seq_k fun K24 hK24 => ?_
  refine wp_region_lit ?_
  obtain ⟨s25, H25, H⟩ := bind_some H
  have J25 : ∀ (a : Act) (w25 : World), Has a Try.f8.ntmps [(0, .bool s25)] → (Chg [] w w25) → (MS (M) w25) → K24 a w25 := by
   intro a w25 ha hC hM
   refine hK24 _ _ ?_; try clear hK24 K24
   refine wp_ret ?_
   try simp only [Exit.then, Exit.inBlock]
   obtain rfl := Option.some.inj H
   refine rt1 ha rfl rfl ?_
   exact ⟨rfl, hC, hM⟩
  have H := H25
  refine seg ha 3 [(48, .bool (t3.2 == (0 : Int))), (1, .slice ao4 t3.1.length cap4), (4, .int .i64 t6.2), (5, .int .i64 t15.1), (6, .int .i64 t15.2.1), (7, .int .i64 t17.1), (8, .int .i64 t17.2.1), (10, .int .i64 t19.2.1), (11, .bool t21.1), (12, .int .i64 t23.1), (13, .int .i64 t23.2.1)] (by kernel_rfl) fun a ha => ?_
  rcases Bool.eq_false_or_eq_true (t3.2 == (0 : Int)) with hb26 | hb26
  ·have ha := ha.lit hb26
   have H := ite_t hb26 H
   refine sgh ha 1 [2] [(4, .int .i64 t6.2), (5, .int .i64 t15.1), (6, .int .i64 t15.2.1), (7, .int .i64 t17.1), (8, .int .i64 t17.2.1), (10, .int .i64 t19.2.1), (11, .bool t21.1), (12, .int .i64 t23.1), (13, .int .i64 t23.2.1), (48, .bool true), (49, .slice ao4 t3.1.length cap4)] (by kernel_rfl) fun a ha => ?_
   refine cvs ha rfl (by kernel_rfl) (by kernel_rfl) (by kernel_rfl) rfl rfl rfl (Own.toRSl (M' := []) f4 (Ok.nil _ _) (fun _ _ h => nomatch h)) fun a ha => ?_
   refine sgh ha 3 [2, 3, 0] [(53, .bool ((bstr (b2s t3.1)).toList == (bstr ([0, 1, 1] : List UInt8)).toList)), (4, .int .i64 t6.2), (5, .int .i64 t15.1), (6, .int .i64 t15.2.1), (7, .int .i64 t17.1), (8, .int .i64 t17.2.1), (10, .int .i64 t19.2.1), (11, .bool t21.1), (12, .int .i64 t23.1), (13, .int .i64 t23.2.1)] (by kernel_rfl) fun a ha => ?_
   rcases Bool.eq_false_or_eq_true ((bstr (b2s t3.1)).toList == (bstr ([0, 1, 1] : List UInt8)).toList) with hb27 | hb27
   ·have ha := ha.lit hb27
    have H := ite_t hb27 H
    refine sgh ha 4 [2, 2, 3, 0] [(57, .bool (t6.2 == (0 : Int))), (5, .int .i64 t15.1), (6, .int .i64 t15.2.1), (7, .int .i64 t17.1), (8, .int .i64 t17.2.1), (10, .int .i64 t19.2.1), (11, .bool t21.1), (12, .int .i64 t23.1), (13, .int .i64 t23.2.1)] (by kernel_rfl) fun a ha => ?_
    rcases Bool.eq_false_or_eq_true (t6.2 == (0 : Int)) with hb28 | hb28
    ·have ha := ha.lit hb28
     have H := ite_t hb28 H
     refine sgh ha 4 [2, 2, 3, 0] [(61, .bool (t15.2.1 == (0 : Int))), (5, .int .i64 t15.1), (7, .int .i64 t17.1), (8, .int .i64 t17.2.1), (10, .int .i64 t19.2.1), (11, .bool t21.1), (12, .int .i64 t23.1), (13, .int .i64 t23.2.1)] (by kernel_rfl) fun a ha => ?_
     rcases Bool.eq_false_or_eq_true (t15.2.1 == (0 : Int)) with hb29 | hb29
     ·have ha := ha.lit hb29
      have H := ite_t hb29 H
      refine sgh ha 4 [2, 2, 3, 0] [(65, .bool (t15.1 == (16 : Int))), (7, .int .i64 t17.1), (8, .int .i64 t17.2.1), (10, .int .i64 t19.2.1), (11, .bool t21.1), (12, .int .i64 t23.1), (13, .int .i64 t23.2.1)] (by kernel_rfl) fun a ha => ?_
      rcases Bool.eq_false_or_eq_true (t15.1 == (16 : Int)) with hb30 | hb30
      ·have ha := ha.lit hb30
       have H := ite_t hb30 H
       refine sgh ha 4 [2, 2, 3, 0] [(69, .bool (t17.2.1 == (0 : Int))), (7, .int .i64 t17.1), (10, .int .i64 t19.2.1), (11, .bool t21.1), (12, .int .i64 t23.1), (13, .int .i64 t23.2.1)] (by kernel_rfl) fun a ha => ?_
       rcases Bool.eq_false_or_eq_true (t17.2.1 == (0 : Int)) with hb31 | hb31
       ·have ha := ha.lit hb31
        have H := ite_t hb31 H
        refine sgh ha 4 [2, 2, 3, 0] [(73, .bool (t17.1 == (17 : Int))), (10, .int .i64 t19.2.1), (11, .bool t21.1), (12, .int .i64 t23.1), (13, .int .i64 t23.2.1)] (by kernel_rfl) fun a ha => ?_
        rcases Bool.eq_false_or_eq_true (t17.1 == (17 : Int)) with hb32 | hb32
        ·have ha := ha.lit hb32
         have H := ite_t hb32 H
         refine sgh ha 4 [2, 2, 3, 0] [(77, .bool (t19.2.1 == (6 : Int))), (11, .bool t21.1), (12, .int .i64 t23.1), (13, .int .i64 t23.2.1)] (by kernel_rfl) fun a ha => ?_
         rcases Bool.eq_false_or_eq_true (t19.2.1 == (6 : Int)) with hb33 | hb33
         ·have ha := ha.lit hb33
          have H := ite_t hb33 H
          refine sgh ha 3 [2, 3, 0] [(80, .bool t21.1), (12, .int .i64 t23.1), (13, .int .i64 t23.2.1)] (by kernel_rfl) fun a ha => ?_
          rcases Bool.eq_false_or_eq_true (t21.1) with hb34 | hb34
          ·have ha := ha.lit hb34
           have H := ite_t hb34 H
           refine sgh ha 4 [2, 2, 3, 0] [(84, .bool (t23.2.1 == (0 : Int))), (12, .int .i64 t23.1)] (by kernel_rfl) fun a ha => ?_
           rcases Bool.eq_false_or_eq_true (t23.2.1 == (0 : Int)) with hb35 | hb35
           ·have ha := ha.lit hb35
            have H := ite_t hb35 H
            refine sgh ha 4 [2, 2, 3, 0] [(0, .bool (t23.1 == (16 : Int)))] (by kernel_rfl) fun a ha => ?_
            obtain rfl := Option.some.inj H
            have hM : MS (M) w23 := (fun x h => hM.chg (Chg.refl [] _) x (mr (mr (h))))
            have hC := hC.trans (Chg.refl [] _) (Ok.nil _ _)
            exact J25 _ _ (ha.sel (by kernel_rfl)) hC hM
           ·have ha := ha.lit hb35
            have H := ite_f hb35 H
            refine sgh ha 4 [1, 1, 4, 0] [(0, .bool false)] (by kernel_rfl) fun a ha => ?_
            obtain rfl := Option.some.inj H
            have hM : MS (M) w23 := (fun x h => hM.chg (Chg.refl [] _) x (mr (mr (h))))
            have hC := hC.trans (Chg.refl [] _) (Ok.nil _ _)
            exact J25 _ _ (ha.sel (by kernel_rfl)) hC hM
          ·have ha := ha.lit hb34
           have H := ite_f hb34 H
           refine sgh ha 8 [1, 1, 4, 0, 1, 1, 4, 0] [(0, .bool false)] (by kernel_rfl) fun a ha => ?_
           obtain rfl := Option.some.inj H
           have hM : MS (M) w23 := (fun x h => hM.chg (Chg.refl [] _) x (mr (mr (h))))
           have hC := hC.trans (Chg.refl [] _) (Ok.nil _ _)
           exact J25 _ _ (ha.sel (by kernel_rfl)) hC hM
         ·have ha := ha.lit hb33
          have H := ite_f hb33 H
          refine sgh ha 11 [1, 4, 0, 1, 1, 4, 0, 1, 1, 4, 0] [(0, .bool false)] (by kernel_rfl) fun a ha => ?_
          obtain rfl := Option.some.inj H
          have hM : MS (M) w23 := (fun x h => hM.chg (Chg.refl [] _) x (mr (mr (h))))
          have hC := hC.trans (Chg.refl [] _) (Ok.nil _ _)
          exact J25 _ _ (ha.sel (by kernel_rfl)) hC hM
        ·have ha := ha.lit hb32
         have H := ite_f hb32 H
         refine sgh ha 15 [1, 1, 4, 0, 1, 4, 0, 1, 1, 4, 0, 1, 1, 4, 0] [(0, .bool false)] (by kernel_rfl) fun a ha => ?_
         obtain rfl := Option.some.inj H
         have hM : MS (M) w23 := (fun x h => hM.chg (Chg.refl [] _) x (mr (mr (h))))
         have hC := hC.trans (Chg.refl [] _) (Ok.nil _ _)
         exact J25 _ _ (ha.sel (by kernel_rfl)) hC hM
       ·have ha := ha.lit hb31
        have H := ite_f hb31 H
        refine sgh ha 19 [1, 1, 4, 0, 1, 1, 4, 0, 1, 4, 0, 1, 1, 4, 0, 1, 1, 4, 0] [(0, .bool false)] (by kernel_rfl) fun a ha => ?_
        obtain rfl := Option.some.inj H
        have hM : MS (M) w23 := (fun x h => hM.chg (Chg.refl [] _) x (mr (mr (h))))
        have hC := hC.trans (Chg.refl [] _) (Ok.nil _ _)
        exact J25 _ _ (ha.sel (by kernel_rfl)) hC hM
      ·have ha := ha.lit hb30
       have H := ite_f hb30 H
       refine sgh ha 23 [1, 1, 4, 0, 1, 1, 4, 0, 1, 1, 4, 0, 1, 4, 0, 1, 1, 4, 0, 1, 1, 4, 0] [(0, .bool false)] (by kernel_rfl) fun a ha => ?_
       obtain rfl := Option.some.inj H
       have hM : MS (M) w23 := (fun x h => hM.chg (Chg.refl [] _) x (mr (mr (h))))
       have hC := hC.trans (Chg.refl [] _) (Ok.nil _ _)
       exact J25 _ _ (ha.sel (by kernel_rfl)) hC hM
     ·have ha := ha.lit hb29
      have H := ite_f hb29 H
      refine sgh ha 27 [1, 1, 4, 0, 1, 1, 4, 0, 1, 1, 4, 0, 1, 1, 4, 0, 1, 4, 0, 1, 1, 4, 0, 1, 1, 4, 0] [(0, .bool false)] (by kernel_rfl) fun a ha => ?_
      obtain rfl := Option.some.inj H
      have hM : MS (M) w23 := (fun x h => hM.chg (Chg.refl [] _) x (mr (mr (h))))
      have hC := hC.trans (Chg.refl [] _) (Ok.nil _ _)
      exact J25 _ _ (ha.sel (by kernel_rfl)) hC hM
    ·have ha := ha.lit hb28
     have H := ite_f hb28 H
     refine sgh ha 31 [1, 1, 4, 0, 1, 1, 4, 0, 1, 1, 4, 0, 1, 1, 4, 0, 1, 1, 4, 0, 1, 4, 0, 1, 1, 4, 0, 1, 1, 4, 0] [(0, .bool false)] (by kernel_rfl) fun a ha => ?_
     obtain rfl := Option.some.inj H
     have hM : MS (M) w23 := (fun x h => hM.chg (Chg.refl [] _) x (mr (mr (h))))
     have hC := hC.trans (Chg.refl [] _) (Ok.nil _ _)
     exact J25 _ _ (ha.sel (by kernel_rfl)) hC hM
   ·have ha := ha.lit hb27
    have H := ite_f hb27 H
    refine sgh ha 35 [1, 1, 4, 0, 1, 1, 4, 0, 1, 1, 4, 0, 1, 1, 4, 0, 1, 1, 4, 0, 1, 1, 4, 0, 1, 4, 0, 1, 1, 4, 0, 1, 1, 4, 0] [(0, .bool false)] (by kernel_rfl) fun a ha => ?_
    obtain rfl := Option.some.inj H
    have hM : MS (M) w23 := (fun x h => hM.chg (Chg.refl [] _) x (mr (mr (h))))
    have hC := hC.trans (Chg.refl [] _) (Ok.nil _ _)
    exact J25 _ _ (ha.sel (by kernel_rfl)) hC hM
  ·have ha := ha.lit hb26
   have H := ite_f hb26 H
   refine sgh ha 40 [1, 1, 1, 4, 0, 1, 1, 4, 0, 1, 1, 4, 0, 1, 1, 4, 0, 1, 1, 4, 0, 1, 1, 4, 0, 1, 1, 4, 0, 1, 4, 0, 1, 1, 4, 0, 1, 1, 4, 0] [(0, .bool false)] (by kernel_rfl) fun a ha => ?_
   obtain rfl := Option.some.inj H
   have hM : MS (M) w23 := (fun x h => hM.chg (Chg.refl [] _) x (mr (mr (h))))
   have hC := hC.trans (Chg.refl [] _) (Ok.nil _ _)
   exact J25 _ _ (ha.sel (by kernel_rfl)) hC hM
def cursor_Open.f (a0 : List Int) : Option (S_cursor_Reader) := (bytes_Clone.f a0).bind fun t4 => some (((⟨(⟨t4, false⟩ : S_cursor_rest)⟩ : S_cursor_Reader) : S_cursor_Reader))
set_option maxRecDepth 100000 in
theorem cursor_Open.walk (w : World) (M : List Nat) (hM : MS M w) (a0 : List Int) (ao1 : Option Addr) (cap1 : Nat) (f1 : RSl (rInt .u8) 5 w M ao1 cap1 a0) (r : S_cursor_Reader) (H : cursor_Open.f a0 = some r) :
    To Try.prog 32 [.slice ao1 a0.length cap1] w fun v w' => ∃ (g10 : Nat) (ao12 : Option Addr) (cap12 : Nat), v = .pointer (some ⟨g10, 0, none⟩) ∧ (RSl (rInt .u8) 5 w' ([g10] ++ (M)) ao12 cap12 r.rest.left) ∧ (Box w' g10 (cS_cursor_Reader r ao12 cap12)) ∧ (∀ x ∈ [g10], w.heap.size ≤ x) ∧ Chg [] w w' ∧ MS ([g10] ++ (M)) w' := by
 unfold cursor_Open.f at H
 refine ent Try.func32 rfl [(0, .slice ao1 a0.length cap1)] rfl (by rfl) fun a ha => ?_
 have hC : Chg [] w w := Chg.refl _ _
 refine wp_seq_k fun K2 hK2 => ?_
 refine wp_region_lit ?_
 refine seg ha 1 [(0, .slice ao1 a0.length cap1)] (by kernel_rfl) fun a ha => ?_
 refine hK2 _ _ ?_; try clear hK2 K2
 refine wp_seq_k fun K3 hK3 => ?_
 refine wp_region_lit ?_
 refine seg ha 1 [(3, .slice ao1 a0.length cap1)] (by kernel_rfl) fun a ha => ?_
 obtain ⟨t4, H4, H⟩ := bind_some H
 refine cl ha (by rfl) (by kernel_rfl) (by rfl) (by rfl) (by rfl) (bytes_Clone.walk w _ hM a0 ao1 cap1 f1 _ H4) ?_
 rintro _ w4 ⟨ao5, cap5, rfl, f5, ne_i5, hc4, hMn⟩ a ha
 have o1 : Ok [] (M) w.heap.size := Ok.nil _ _
 have o2 : Ok (blkL ao5 ++ (M)) (M) w.heap.size := (Ok.app (fun x h => .inr (ne_i5 x h)) (Ok.refl _ _))
 have f1 := f1.chg hc4 o1 o2
 have p_i5_M : ∀ x ∈ blkL ao5, x ∉ M := fun x hx hy => absurd (hM x (hy)) (Nat.not_lt.2 (ne_i5 x hx))
 have e_i5 : ∀ x ∈ blkL ao5, w.heap.size ≤ x := fun x hx => Nat.le_trans hC.size (ne_i5 x hx)
 have hM : MS (blkL ao5 ++ (M)) w4 := (MS.app (fun x h => hMn x (ml h)) (hM.chg hc4))
 have hC := hC.trans hc4 (Ok.nil _ _)
 refine opk (v := .agg (cS_cursor_rest (⟨t4, false⟩ : S_cursor_rest) ao5 cap5).toArray) ha rfl rfl rfl rfl rfl (fun w => by kernel_rfl) fun a ha => ?_
 refine opk (v := .agg (cS_cursor_Reader (⟨(⟨t4, false⟩ : S_cursor_rest)⟩ : S_cursor_Reader) ao5 cap5).toArray) ha rfl rfl rfl rfl rfl (fun w => by kernel_rfl) fun a ha => ?_
 have fz := f5.toRSl (M' := M) (fun _ h => .inl (mr (h))) (fun x hx hm => p_i5_M x hx hm)
 have hM : MS (M) w4 := (fun x h => hM.chg (Chg.refl [] _) x (mr (h)))
 have hC := hC.trans (Chg.refl [] _) (Ok.nil _ _)
 have f5 := fz
 refine bx (cs := (cS_cursor_Reader (⟨(⟨t4, false⟩ : S_cursor_rest)⟩ : S_cursor_Reader) ao5 cap5)) ha rfl rfl rfl rfl rfl fun a w6 g7 hN8 ha => ?_
 have o1 : Ok [] (M) w4.heap.size := Ok.nil _ _
 have o2 : Ok ([g7] ++ (M)) (M) w4.heap.size := (Ok.app (hN8.ok _) (Ok.refl _ _))
 have f5 := f5.chg hN8.chg o1 o2
 have p_i9_M : ∀ x ∈ [g7], x ∉ M := fun x hx hy => absurd (hM x (hy)) (Nat.not_lt.2 ((hN8.ge1) x hx))
 have e_i9 : ∀ x ∈ [g7], w.heap.size ≤ x := fun x hx => Nat.le_trans hC.size ((hN8.ge1) x hx)
 have hM : MS ([g7] ++ (M)) w6 := (MS.app hN8.ms (hM.chg hN8.chg))
 have hC := hC.trans hN8.chg (Ok.nil _ _)
 have hBg7 : Box w6 g7 (cS_cursor_Reader (⟨(⟨t4, false⟩ : S_cursor_rest)⟩ : S_cursor_Reader) ao5 cap5) := hN8.box
 refine seg ha 1 [(2, .pointer (some ⟨g7, 0, none⟩))] (by kernel_rfl) fun a ha => ?_
 refine hK3 _ _ ?_; try clear hK3 K3
 refine wp_ret ?_
 try simp only [Exit.then, Exit.inBlock]
 obtain rfl := Option.some.inj H
 refine rt1 ha rfl rfl ?_
 exact ⟨g7, ao5, cap5, rfl, f5, hBg7, e_i9, hC, hM⟩
def cursor_rest_next.f (a0 : S_cursor_rest) (a1 : Int) : Option (List Int × S_cursor_rest) := ((if a0.bad = true then some (true : Bool) else (if (decide (a1 < (0 : Int))) = true then some (true : Bool) else some (decide (a1 > (a0.left.length : Int)) : Bool)))).bind fun s5 => (if s5 = true then some ((([] : List Int) : List Int), ((⟨a0.left, true⟩ : S_cursor_rest) : S_cursor_rest)) else (if 0 ≤ (0 : Int) ∧ (0 : Int) ≤ a1 ∧ a1 ≤ (a0.left.length : Int) then (if 0 ≤ a1 ∧ a1 ≤ (a0.left.length : Int) ∧ (a0.left.length : Int) ≤ (a0.left.length : Int) then some ((((a0.left.take (Int.toNat a1)).drop (Int.toNat (0 : Int))) : List Int), ((⟨((a0.left.take (Int.toNat (a0.left.length : Int))).drop (Int.toNat a1)), a0.bad⟩ : S_cursor_rest) : S_cursor_rest)) else none) else none))
set_option maxRecDepth 100000 in
theorem cursor_rest_next.walk (w : World) (M : List Nat) (hM : MS M w) (gp0 : Nat) (a0 : S_cursor_rest) (ao1 : Option Addr) (cap1 : Nat) (f1 : RSl (rInt .u8) 5 w M ao1 cap1 a0.left) (hBgp0 : Box w gp0 (cS_cursor_rest a0 ao1 cap1)) (hg_gp0 : gp0 ∈ M) (a1 : Int) (r : List Int × S_cursor_rest) (H : cursor_rest_next.f a0 a1 = some r) :
    To Try.prog 37 [.pointer (some ⟨gp0, 0, none⟩), .int .i64 a1] w fun v w' => ∃ (ao22 : Option Addr) (cap22 : Nat) (ao23 : Option Addr) (cap23 : Nat), v = .slice ao22 r.1.length cap22 ∧ (RSl (rInt .u8) 5 w' (M) ao22 cap22 r.1) ∧ (RSl (rInt .u8) 5 w' (M) ao23 cap23 r.2.left) ∧ (Box w' gp0 (cS_cursor_rest r.2 ao23 cap23)) ∧ Chg [gp0] w w' ∧ MS (M) w' := by
 unfold cursor_rest_next.f at H
 refine ent Try.func37 rfl [(0, .pointer (some ⟨gp0, 0, none⟩)), (1, .int .i64 a1)] rfl (by rfl) fun a ha => ?_
 have hC : Chg [gp0] w w := Chg.refl _ _
 refine wp_seq_k fun K2 hK2 => ?_
 refine wp_region_lit ?_
 refine seg ha 1 [(0, .pointer (some ⟨gp0, 0, none⟩)), (1, .int .i64 a1)] (by kernel_rfl) fun a ha => ?_
 refine hK2 _ _ ?_; try clear hK2 K2
 refine wp_seq_k fun K3 hK3 => ?_
 refine wp_seq_k fun K4 hK4 => ?_
 refine wp_region_lit ?_
 obtain ⟨s5, H5, H⟩ := bind_some H
 have J5 : ∀ (a : Act) (w5 : World), Has a Try.f37.ntmps [(0, .pointer (some ⟨gp0, 0, none⟩)), (1, .int .i64 a1), (22, .bool s5)] → (RSl (rInt .u8) 5 w5 (M) ao1 cap1 a0.left) → (Box w5 gp0 (cS_cursor_rest a0 ao1 cap1)) → (Chg [gp0] w w5) → (MS (M) w5) → K4 a w5 := by
  intro a w5 ha f1 hBgp0 hC hM
  refine hK4 _ _ ?_; try clear hK4 K4
  refine cnd ha rfl (fun hc6 => ?_) (fun hc6 => ?_)
  ·have H := ite_t hc6 H
   refine wp_seq_k fun K7 hK7 => ?_
   refine wp_region_lit ?_
   refine seg ha 3 [(25, .pointer (some ⟨gp0, 1, none⟩))] (by kernel_rfl) fun a ha => ?_
   refine st ha rfl rfl rfl (by kernel_rfl) rfl rfl hBgp0 (Nat.le_of_ble_eq_true (by kernel_rfl)) fun a w8 ha hb2 hc9 _ => ?_
   have o1 : Ok [gp0] (M) w5.heap.size := Ok.one (.inl (hg_gp0))
   have o2 : Ok (M) (M) w5.heap.size := (Ok.refl _ _)
   have f1 := f1.chg hc9 o1 o2
   have hM : MS (M) w8 := (hM.chg hc9)
   have hC := hC.trans hc9 (Ok.one (.inl (by simp)))
   have hBgp0 : Box w8 gp0 (cS_cursor_rest (⟨a0.left, true⟩ : S_cursor_rest) ao1 cap1) := hb2
   refine hK7 _ _ ?_; try clear hK7 K7
   refine wp_seq_k fun K10 hK10 => ?_
   refine wp_region_lit ?_
   refine seg ha 1 [(4, .slice none 0 0)] (by kernel_rfl) fun a ha => ?_
   refine hK10 _ _ ?_; try clear hK10 K10
   refine wp_ret ?_
   try simp only [Exit.then, Exit.inBlock]
   obtain rfl := Option.some.inj H
   refine rt1 ha rfl rfl ?_
   exact ⟨none, 0, ao1, cap1, rfl, (RSl.nil (Nat.zero_le _)), f1, hBgp0, hC, hM⟩
  ·have H := ite_f hc6 H
   refine wp_skip ?_
   refine hK3 _ _ ?_; try clear hK3 K3
   refine wp_seq_k fun K11 hK11 => ?_
   refine wp_region_lit ?_
   refine seg ha 3 [(0, .pointer (some ⟨gp0, 0, none⟩)), (1, .int .i64 a1), (28, .pointer (some ⟨gp0, 0, none⟩))] (by kernel_rfl) fun a ha => ?_
   refine ld (v := .slice ao1 a0.left.length cap1) ha rfl (by kernel_rfl) rfl rfl rfl (hBgp0.cell' (o := 0) rfl (by kernel_rfl)) fun a ha => ?_
   refine seg ha 1 [(0, .pointer (some ⟨gp0, 0, none⟩)), (1, .int .i64 a1), (29, .slice ao1 a0.left.length cap1), (30, .int .i64 a1)] (by kernel_rfl) fun a ha => ?_
   obtain ⟨⟨hx12, hx12', hx12''⟩, H⟩ := ite_some H
   refine slc (r := (rInt .u8)) (l := (0 : Int)) (h := a1) ha (by kernel_rfl) (by kernel_rfl) rfl rfl rfl rfl rfl rfl f1 hx12 hx12' hx12'' fun a ao13 cap13 f13 ha => ?_
   refine seg ha 1 [(0, .pointer (some ⟨gp0, 0, none⟩)), (1, .int .i64 a1), (5, .slice ao13 ((a0.left.take (Int.toNat a1)).drop (Int.toNat (0 : Int))).length cap13)] (by kernel_rfl) fun a ha => ?_
   refine hK11 _ _ ?_; try clear hK11 K11
   refine wp_seq_k fun K14 hK14 => ?_
   refine wp_region_lit ?_
   refine seg ha 4 [(1, .int .i64 a1), (5, .slice ao13 ((a0.left.take (Int.toNat a1)).drop (Int.toNat (0 : Int))).length cap13), (32, .pointer (some ⟨gp0, 0, none⟩)), (35, .pointer (some ⟨gp0, 0, none⟩))] (by kernel_rfl) fun a ha => ?_
   refine ld (v := .slice ao1 a0.left.length cap1) ha rfl (by kernel_rfl) rfl rfl rfl (hBgp0.cell' (o := 0) rfl (by kernel_rfl)) fun a ha => ?_
   refine seg ha 1 [(5, .slice ao13 ((a0.left.take (Int.toNat a1)).drop (Int.toNat (0 : Int))).length cap13), (32, .pointer (some ⟨gp0, 0, none⟩)), (36, .slice ao1 a0.left.length cap1), (37, .int .i64 a1)] (by kernel_rfl) fun a ha => ?_
   obtain ⟨⟨hx15, hx15', hx15''⟩, H⟩ := ite_some H
   refine slc (r := (rInt .u8)) (l := a1) (h := (a0.left.length : Int)) ha (by kernel_rfl) (by kernel_rfl) rfl rfl rfl rfl rfl rfl f1 hx15 hx15' hx15'' fun a ao16 cap16 f16 ha => ?_
   refine seg ha 2 [(5, .slice ao13 ((a0.left.take (Int.toNat a1)).drop (Int.toNat (0 : Int))).length cap13), (38, .slice ao16 ((a0.left.take (Int.toNat (a0.left.length : Int))).drop (Int.toNat a1)).length cap16), (40, .pointer (some ⟨gp0, 0, none⟩))] (by kernel_rfl) fun a ha => ?_
   refine st ha rfl rfl rfl (by kernel_rfl) rfl rfl hBgp0 (Nat.le_of_ble_eq_true (by kernel_rfl)) fun a w17 ha hb2 hc18 _ => ?_
   have o1 : Ok [gp0] (M) w5.heap.size := Ok.one (.inl (hg_gp0))
   have o2 : Ok (M) (M) w5.heap.size := (Ok.refl _ _)
   have f13 := f13.chg hc18 o1 o2
   have f16 := f16.chg hc18 o1 o2
   have f1 := f1.chg hc18 o1 o2
   have hM : MS (M) w17 := (hM.chg hc18)
   have hC := hC.trans hc18 (Ok.one (.inl (by simp)))
   have hBgp0 : Box w17 gp0 (cS_cursor_rest (⟨((a0.left.take (Int.toNat (a0.left.length : Int))).drop (Int.toNat a1)), a0.bad⟩ : S_cursor_rest) ao16 cap16) := hb2
   refine hK14 _ _ ?_; try clear hK14 K14
   refine wp_seq_k fun K19 hK19 => ?_
   refine wp_region_lit ?_
   refine seg ha 2 [(4, .slice ao13 ((a0.left.take (Int.toNat a1)).drop (Int.toNat (0 : Int))).length cap13)] (by kernel_rfl) fun a ha => ?_
   refine hK19 _ _ ?_; try clear hK19 K19
   refine wp_ret ?_
   try simp only [Exit.then, Exit.inBlock]
   obtain rfl := Option.some.inj H
   refine rt1 ha rfl rfl ?_
   exact ⟨ao13, cap13, ao16, cap16, rfl, f13, f16, hBgp0, hC, hM⟩
 have H := H5
 refine seg ha 3 [(0, .pointer (some ⟨gp0, 0, none⟩)), (1, .int .i64 a1), (8, .pointer (some ⟨gp0, 1, none⟩))] (by kernel_rfl) fun a ha => ?_
 refine ld (v := .bool a0.bad) ha rfl (by kernel_rfl) rfl rfl rfl (hBgp0.cell' (o := 1) rfl (by kernel_rfl)) fun a ha => ?_
 refine seg ha 1 [(10, .bool a0.bad), (0, .pointer (some ⟨gp0, 0, none⟩)), (1, .int .i64 a1)] (by kernel_rfl) fun a ha => ?_
 rcases Bool.eq_false_or_eq_true (a0.bad) with hb20 | hb20
 ·have ha := ha.lit hb20
  have H := ite_t hb20 H
  refine sgh ha 12 [1, 1, 3, 0, 1, 1, 1, 1, 1, 1, 1, 3] [(0, .pointer (some ⟨gp0, 0, none⟩)), (1, .int .i64 a1), (22, .bool true)] (by kernel_rfl) fun a ha => ?_
  obtain rfl := Option.some.inj H
  exact J5 _ _ (ha.sel (by kernel_rfl)) f1 hBgp0 hC hM
 ·have ha := ha.lit hb20
  have H := ite_f hb20 H
  refine sgh ha 4 [2, 2, 4, 0] [(14, .bool (decide (a1 < (0 : Int)))), (0, .pointer (some ⟨gp0, 0, none⟩)), (1, .int .i64 a1)] (by kernel_rfl) fun a ha => ?_
  rcases Bool.eq_false_or_eq_true (decide (a1 < (0 : Int))) with hb21 | hb21
  ·have ha := ha.lit hb21
   have H := ite_t hb21 H
   refine sgh ha 8 [1, 1, 1, 1, 1, 1, 1, 3] [(0, .pointer (some ⟨gp0, 0, none⟩)), (1, .int .i64 a1), (22, .bool true)] (by kernel_rfl) fun a ha => ?_
   obtain rfl := Option.some.inj H
   exact J5 _ _ (ha.sel (by kernel_rfl)) f1 hBgp0 hC hM
  ·have ha := ha.lit hb21
   have H := ite_f hb21 H
   refine sgh ha 4 [2, 2, 2, 2] [(0, .pointer (some ⟨gp0, 0, none⟩)), (1, .int .i64 a1), (14, .bool false), (15, .int .i64 a1), (18, .pointer (some ⟨gp0, 0, none⟩))] (by kernel_rfl) fun a ha => ?_
   refine ld (v := .slice ao1 a0.left.length cap1) ha rfl (by kernel_rfl) rfl rfl rfl (hBgp0.cell' (o := 0) rfl (by kernel_rfl)) fun a ha => ?_
   refine sgh ha 3 [2, 2, 4] [(0, .pointer (some ⟨gp0, 0, none⟩)), (1, .int .i64 a1), (22, .bool (decide (a1 > (a0.left.length : Int))))] (by kernel_rfl) fun a ha => ?_
   obtain rfl := Option.some.inj H
   exact J5 _ _ (ha.sel (by kernel_rfl)) f1 hBgp0 hC hM
def cursor_Reader_Num.l0 (t8 : List Int × S_cursor_rest) : Nat → Int → Int → Option (Int)
  | 0, _, _ => none
  | kk + 1, x12, x13 => (if (decide (x13 < (t8.1.length : Int))) = true then (if 0 ≤ x13 ∧ x13 < (t8.1.length : Int) then cursor_Reader_Num.l0 t8 kk (IntKind.i64.wrap (BitVec.ofInt IntKind.i64.bits (IntKind.i64.wrap (x12 * 2 ^ (min (8 : Int).toNat IntKind.i64.bits))) ||| BitVec.ofInt IntKind.i64.bits (IntKind.i64.wrap (rd t8.1 x13))).toNat) (IntKind.i64.wrap (x13 + (1 : Int))) else none) else some (x12 : Int))
def cursor_Reader_Num.f (k : Nat) (a0 : S_cursor_Reader) (a1 : Int) : Option (Int × S_cursor_Reader) := ((if (if (decide (a1 < (1 : Int))) = true then true else (decide (a1 > (4 : Int)))) = true then some ((-1 : Int) : Int) else some (a1 : Int))).bind fun s4 => (cursor_rest_next.f a0.rest s4).bind fun t8 => (cursor_Reader_Num.l0 t8 k (0 : Int) (0 : Int)).bind fun s11 => some ((s11 : Int), ((⟨t8.2⟩ : S_cursor_Reader) : S_cursor_Reader))
set_option maxRecDepth 100000 in
theorem cursor_Reader_Num.walk (w : World) (M : List Nat) (hM : MS M w) (gp0 : Nat) (a0 : S_cursor_Reader) (ao1 : Option Addr) (cap1 : Nat) (f1 : RSl (rInt .u8) 5 w M ao1 cap1 a0.rest.left) (hBgp0 : Box w gp0 (cS_cursor_Reader a0 ao1 cap1)) (hg_gp0 : gp0 ∈ M) (a1 : Int) (k : Nat) (r : Int × S_cursor_Reader) (H : cursor_Reader_Num.f k a0 a1 = some r) :
    To Try.prog 33 [.pointer (some ⟨gp0, 0, none⟩), .int .i64 a1] w fun v w' => ∃ (ao29 : Option Addr) (cap29 : Nat), v = .int .i64 r.1 ∧ (RSl (rInt .u8) 5 w' (M) ao29 cap29 r.2.rest.left) ∧ (Box w' gp0 (cS_cursor_Reader r.2 ao29 cap29)) ∧ Chg [gp0] w w' ∧ MS (M) w' := by
 unfold cursor_Reader_Num.f at H
 refine ent Try.func33 rfl [(0, .pointer (some ⟨gp0, 0, none⟩)), (1, .int .i64 a1)] rfl (by rfl) fun a ha => ?_
 have hC : Chg [gp0] w w := Chg.refl _ _
 refine wp_seq_k fun K2 hK2 => ?_
 refine wp_region_lit ?_
 refine seg ha 1 [(0, .pointer (some ⟨gp0, 0, none⟩)), (1, .int .i64 a1)] (by kernel_rfl) fun a ha => ?_
 refine hK2 _ _ ?_; try clear hK2 K2
 refine wp_seq_k fun K3 hK3 => ?_
 obtain ⟨s4, H4, H⟩ := bind_some H
 have J4 : ∀ (a : Act) (w4 : World), Has a Try.f33.ntmps [(0, .pointer (some ⟨gp0, 0, none⟩)), (1, .int .i64 s4)] → (RSl (rInt .u8) 5 w4 (M) ao1 cap1 a0.rest.left) → (Box w4 gp0 (cS_cursor_Reader a0 ao1 cap1)) → (Chg [gp0] w w4) → (MS (M) w4) → K3 a w4 := by
  intro a w4 ha f1 hBgp0 hC hM
  refine hK3 _ _ ?_; try clear hK3 K3
  refine wp_seq_k fun K5 hK5 => ?_
  refine wp_region_lit ?_
  refine seg ha 1 [(0, .pointer (some ⟨gp0, 0, none⟩)), (1, .int .i64 s4), (5, .int .i64 (0 : Int))] (by kernel_rfl) fun a ha => ?_
  refine hK5 _ _ ?_; try clear hK5 K5
  refine wp_seq_k fun K6 hK6 => ?_
  refine wp_seq_k fun K7 hK7 => ?_
  refine wp_region_lit ?_
  refine seg ha 4 [(5, .int .i64 (0 : Int)), (16, .pointer (some ⟨gp0, 0, none⟩)), (17, .int .i64 s4)] (by kernel_rfl) fun a ha => ?_
  obtain ⟨t8, H8, H⟩ := bind_some H
  refine cl ha (by rfl) (by kernel_rfl) (by rfl) (by rfl) (by rfl) (cursor_rest_next.walk w4 _ hM gp0 a0.rest ao1 cap1 f1 hBgp0 (hg_gp0) s4 _ H8) ?_
  rintro _ w8 ⟨ao9, cap9, ao10, cap10, rfl, f9, f10, qhBgp0, hc8, hMn⟩ a ha
  have o1 : Ok [gp0] (M) w4.heap.size := Ok.one (.inl (hg_gp0))
  have o2 : Ok (M) (M) w4.heap.size := (Ok.refl _ _)
  have f1 := f1.chg hc8 o1 o2
  have hM : MS (M) w8 := (hM.chg hc8)
  have hC := hC.trans hc8 (Ok.one (.inl (by simp)))
  have hBgp0 := qhBgp0
  refine seg ha 2 [(5, .int .i64 (0 : Int)), (18, .slice ao9 t8.1.length cap9), (19, .int .i64 (t8.1.length : Int)), (20, .int .i64 (0 : Int))] (by kernel_rfl) fun a ha => ?_
  refine hK7 _ _ ?_; try clear hK7 K7
  refine wp_block ?_
  obtain ⟨s11, H11, H⟩ := bind_some H
  have J11 : ∀ (a : Act) (wx11 : World), Has a Try.f33.ntmps [(5, .int .i64 s11)] → (RSl (rInt .u8) 5 wx11 (M) ao10 cap10 t8.2.left) → (Box wx11 gp0 (cS_cursor_Reader (⟨t8.2⟩ : S_cursor_Reader) ao10 cap10)) → (Chg [gp0] w wx11) → (MS (M) wx11) → K6 a wx11 := by
   intro a wx11 ha f10 hBgp0 hC hM
   refine hK6 _ _ ?_; try clear hK6 K6
   refine wp_seq_k fun K14 hK14 => ?_
   refine wp_region_lit ?_
   refine seg ha 2 [(4, .int .i64 s11)] (by kernel_rfl) fun a ha => ?_
   refine hK14 _ _ ?_; try clear hK14 K14
   refine wp_ret ?_
   try simp only [Exit.then, Exit.inBlock]
   obtain rfl := Option.some.inj H
   refine rt1 ha rfl rfl ?_
   exact ⟨ao10, cap10, rfl, f10, hBgp0, hC, hM⟩
  have Hc11 := H
  have H := H11
  refine wp_loop_ghost (fun kk a w11 => ∃ (x12 : Int) (x13 : Int), cursor_Reader_Num.l0 t8 kk x12 x13 = some s11 ∧ Has a Try.f33.ntmps [(5, .int .i64 x12), (18, .slice ao9 t8.1.length cap9), (19, .int .i64 (t8.1.length : Int)), (20, .int .i64 x13)] ∧ (RSl (rInt .u8) 5 w11 (M) ao9 cap9 t8.1) ∧ (RSl (rInt .u8) 5 w11 (M) ao10 cap10 t8.2.left) ∧ (Box w11 gp0 (cS_cursor_Reader (⟨t8.2⟩ : S_cursor_Reader) ao10 cap10)) ∧ (Chg [gp0] w w11) ∧ (MS (M) w11)) k ?_ ?_
  ·skip
   exact ⟨(0 : Int), (0 : Int), H, (ha.sel (by kernel_rfl)), f9, f10, hBgp0, hC, hM⟩
  ·rintro kk a w11 ⟨x12, x13, H, ha, f9, f10, hBgp0, hC, hM⟩
   obtain _ | kk := kk
   ·exact nomatch (show none = some _ from H)
   rw [cursor_Reader_Num.l0] at H
   refine wp_seq_k fun K15 hK15 => ?_
   refine wp_region_lit ?_
   refine seg ha 1 [(5, .int .i64 x12), (18, .slice ao9 t8.1.length cap9), (19, .int .i64 (t8.1.length : Int)), (20, .int .i64 x13), (21, .bool (decide (x13 < (t8.1.length : Int))))] (by kernel_rfl) fun a ha => ?_
   refine hK15 _ _ ?_; try clear hK15 K15
   refine wp_seq_k fun K16 hK16 => ?_
   refine cnd ha rfl (fun hc17 => ?_) (fun hc17 => ?_)
   ·have H := ite_t hc17 H
    refine wp_skip ?_
    refine hK16 _ _ ?_; try clear hK16 K16
    refine wp_seq_k fun K18 hK18 => ?_
    refine wp_block ?_
    refine wp_seq_k fun K19 hK19 => ?_
    refine wp_region_lit ?_
    obtain ⟨⟨hx20, hx20'⟩, H⟩ := ite_some H
    refine ix (r := (rInt .u8)) ha (by kernel_rfl) (by kernel_rfl) rfl rfl rfl rfl rfl f9 hx20 hx20' fun a ge21 oe22 cs23 hn26 hR24 hE25 ha => ?_
    rw [rd_get] at hR24
    obtain rfl := hR24
    have hE25 : ∀ j v, ([.int .u8 (rd t8.1 x13)] : List Value)[j]? = some v → w11.cell? ⟨ge21, oe22 + j, none⟩ = some v := hE25
    refine ld ha rfl (by kernel_rfl) rfl rfl rfl (hE25 0 (.int .u8 (rd t8.1 x13)) (by kernel_rfl)) fun a ha => ?_
    refine seg ha 1 [(5, .int .i64 x12), (7, .int .u8 (rd t8.1 x13)), (18, .slice ao9 t8.1.length cap9), (19, .int .i64 (t8.1.length : Int)), (20, .int .i64 x13)] (by kernel_rfl) fun a ha => ?_
    refine hK19 _ _ ?_; try clear hK19 K19
    refine wp_region_lit ?_
    refine seg ha 6 [(5, .int .i64 (IntKind.i64.wrap (BitVec.ofInt IntKind.i64.bits (IntKind.i64.wrap (x12 * 2 ^ (min (8 : Int).toNat IntKind.i64.bits))) ||| BitVec.ofInt IntKind.i64.bits (IntKind.i64.wrap (rd t8.1 x13))).toNat)), (18, .slice ao9 t8.1.length cap9), (19, .int .i64 (t8.1.length : Int)), (20, .int .i64 x13)] (by kernel_rfl) fun a ha => ?_
    refine hK18 _ _ ?_; try clear hK18 K18
    refine wp_region_lit ?_
    refine seg ha 2 [(5, .int .i64 (IntKind.i64.wrap (BitVec.ofInt IntKind.i64.bits (IntKind.i64.wrap (x12 * 2 ^ (min (8 : Int).toNat IntKind.i64.bits))) ||| BitVec.ofInt IntKind.i64.bits (IntKind.i64.wrap (rd t8.1 x13))).toNat)), (18, .slice ao9 t8.1.length cap9), (19, .int .i64 (t8.1.length : Int)), (20, .int .i64 (IntKind.i64.wrap (x13 + (1 : Int))))] (by kernel_rfl) fun a ha => ?_
    exact ⟨kk, Nat.lt_succ_self _, ⟨IntKind.i64.wrap (BitVec.ofInt IntKind.i64.bits (IntKind.i64.wrap (x12 * 2 ^ (min (8 : Int).toNat IntKind.i64.bits))) ||| BitVec.ofInt IntKind.i64.bits (IntKind.i64.wrap (rd t8.1 x13))).toNat, IntKind.i64.wrap (x13 + (1 : Int)), H, (ha.sel (by kernel_rfl)), f9, f10, hBgp0, hC, hM⟩⟩
   ·have H := ite_f hc17 H
    refine wp_exit ?_
    simp only [Exit.then, Exit.inBlock, ↓reduceIte, Nat.reduceEqDiff]
    obtain rfl := Option.some.inj H
    exact J11 _ _ (ha.sel (by kernel_rfl)) f10 hBgp0 hC hM
 have H := H4
 refine wp_seq_k fun K27 hK27 => ?_
 refine wp_region_lit ?_
 refine seg ha 6 [(0, .pointer (some ⟨gp0, 0, none⟩)), (1, .int .i64 a1), (13, .bool (if (decide (a1 < (1 : Int))) = true then true else (decide (a1 > (4 : Int)))))] (by kernel_rfl) fun a ha => ?_
 refine hK27 _ _ ?_; try clear hK27 K27
 refine cnd ha rfl (fun hc28 => ?_) (fun hc28 => ?_)
 ·have H := ite_t hc28 H
  refine wp_region_lit ?_
  refine seg ha 1 [(0, .pointer (some ⟨gp0, 0, none⟩)), (1, .int .i64 (-1 : Int))] (by kernel_rfl) fun a ha => ?_
  obtain rfl := Option.some.inj H
  exact J4 _ _ (ha.sel (by kernel_rfl)) f1 hBgp0 hC hM
 ·have H := ite_f hc28 H
  refine wp_skip ?_
  obtain rfl := Option.some.inj H
  exact J4 _ _ (ha.sel (by kernel_rfl)) f1 hBgp0 hC hM
def label_Read.f (k : Nat) (a0 : List Int) : Option (Int × Bool × Int) := (cursor_Open.f a0).bind fun t4 => (cursor_Reader_Num.f k t4 (3 : Int)).bind fun t8 => (if (if ((a0.length : Int) != (3 : Int)) = true then true else (decide ((IntKind.i64.wrap (BitVec.ofInt IntKind.i64.bits t8.1 &&& BitVec.ofInt IntKind.i64.bits (15 : Int)).toNat) > (1 : Int)))) = true then some (((0 : Int) : Int), (false : Bool), ((4 : Int) : Int)) else some ((Int.fdiv t8.1 (2 ^ (min (4 : Int).toNat IntKind.i64.bits)) : Int), ((IntKind.i64.wrap (BitVec.ofInt IntKind.i64.bits t8.1 &&& BitVec.ofInt IntKind.i64.bits (1 : Int)).toNat) == (1 : Int) : Bool), ((0 : Int) : Int)))
set_option maxRecDepth 100000 in
theorem label_Read.walk (w : World) (M : List Nat) (hM : MS M w) (a0 : List Int) (ao1 : Option Addr) (cap1 : Nat) (f1 : RSl (rInt .u8) 5 w M ao1 cap1 a0) (k : Nat) (r : Int × Bool × Int) (H : label_Read.f k a0 = some r) :
    To Try.prog 25 [.slice ao1 a0.length cap1] w fun v w' => v = .tuple #[.int .i64 r.1, .bool r.2.1, .int .i64 r.2.2] ∧ Chg [] w w' ∧ MS (M) w' := by
 unfold label_Read.f at H
 refine ent Try.func25 rfl [(0, .slice ao1 a0.length cap1)] rfl (by rfl) fun a ha => ?_
 have hC : Chg [] w w := Chg.refl _ _
 refine wp_seq_k fun K2 hK2 => ?_
 refine wp_region_lit ?_
 refine seg ha 3 [(0, .slice ao1 a0.length cap1)] (by kernel_rfl) fun a ha => ?_
 refine hK2 _ _ ?_; try clear hK2 K2
 refine wp_seq_k fun K3 hK3 => ?_
 refine wp_region_lit ?_
 refine seg ha 1 [(0, .slice ao1 a0.length cap1), (6, .slice ao1 a0.length cap1)] (by kernel_rfl) fun a ha => ?_
 obtain ⟨t4, H4, H⟩ := bind_some H
 refine cl ha (by rfl) (by kernel_rfl) (by rfl) (by rfl) (by rfl) (cursor_Open.walk w _ hM a0 ao1 cap1 f1 _ H4) ?_
 rintro _ w4 ⟨g5, ao7, cap7, rfl, f7, hBg5, ne_i6, hc4, hMn⟩ a ha
 have o1 : Ok [] (M) w.heap.size := Ok.nil _ _
 have o2 : Ok ([g5] ++ (M)) (M) w.heap.size := (Ok.app (fun x h => .inr (ne_i6 x h)) (Ok.refl _ _))
 have f1 := f1.chg hc4 o1 o2
 have p_i6_M : ∀ x ∈ [g5], x ∉ M := fun x hx hy => absurd (hM x (hy)) (Nat.not_lt.2 (ne_i6 x hx))
 have e_i6 : ∀ x ∈ [g5], w.heap.size ≤ x := fun x hx => Nat.le_trans hC.size (ne_i6 x hx)
 have hM : MS ([g5] ++ (M)) w4 := (MS.app (fun x h => hMn x (ml h)) (hM.chg hc4))
 have hC := hC.trans hc4 (Ok.nil _ _)
 obtain ⟨t8, H8, H⟩ := bind_some H
 refine cl ha (by rfl) (by kernel_rfl) (by rfl) (by rfl) (by rfl) (cursor_Reader_Num.walk w4 _ hM g5 t4 ao7 cap7 f7 hBg5 (ml (List.mem_singleton.2 rfl)) (3 : Int) k _ H8) ?_
 rintro _ w8 ⟨ao9, cap9, rfl, f9, qhBg5, hc8, hMn⟩ a ha
 have o1 : Ok [g5] ([g5] ++ (M)) w4.heap.size := (fun _ h => .inl (ml h))
 have o2 : Ok ([g5] ++ (M)) ([g5] ++ (M)) w4.heap.size := (Ok.refl _ _)
 have f1 := f1.chg hc8 o1 o2
 have f7 := f7.chg hc8 o1 o2
 have hM : MS ([g5] ++ (M)) w8 := (hM.chg hc8)
 have hC := hC.trans hc8 (fun x h => .inr (e_i6 x h))
 have hBg5 := qhBg5
 refine seg ha 1 [(0, .slice ao1 a0.length cap1), (5, .int .i64 t8.1)] (by kernel_rfl) fun a ha => ?_
 refine hK3 _ _ ?_; try clear hK3 K3
 refine wp_seq_k fun K10 hK10 => ?_
 refine wp_seq_k fun K11 hK11 => ?_
 refine wp_region_lit ?_
 refine seg ha 8 [(5, .int .i64 t8.1), (16, .bool (if ((a0.length : Int) != (3 : Int)) = true then true else (decide ((IntKind.i64.wrap (BitVec.ofInt IntKind.i64.bits t8.1 &&& BitVec.ofInt IntKind.i64.bits (15 : Int)).toNat) > (1 : Int)))))] (by kernel_rfl) fun a ha => ?_
 refine hK11 _ _ ?_; try clear hK11 K11
 refine cnd ha rfl (fun hc12 => ?_) (fun hc12 => ?_)
 ·have H := ite_t hc12 H
  refine wp_seq_k fun K13 hK13 => ?_
  refine wp_region_lit ?_
  refine seg ha 3 [(2, .int .i64 (0 : Int)), (3, .bool false), (4, .int .i64 (4 : Int))] (by kernel_rfl) fun a ha => ?_
  refine hK13 _ _ ?_; try clear hK13 K13
  refine wp_ret ?_
  try simp only [Exit.then, Exit.inBlock]
  have o1 : Ok [] ([g5] ++ (M)) w8.heap.size := Ok.nil _ _
  have o2 : Ok (M) ([g5] ++ (M)) w8.heap.size := (fun _ h => .inl (mr (h)))
  have f9 := f9.chg (Chg.refl [] _) o1 o2
  have hBg5 := hBg5.chg (Chg.refl [] _) (fun h => nomatch h)
  have hM : MS (M) w8 := (fun x h => hM.chg (Chg.refl [] _) x (mr (h)))
  have hC := hC.trans (Chg.refl [] _) (Ok.nil _ _)
  obtain rfl := Option.some.inj H
  refine rt3 ha rfl rfl rfl rfl ?_
  exact ⟨rfl, hC, hM⟩
 ·have H := ite_f hc12 H
  refine wp_skip ?_
  refine hK10 _ _ ?_; try clear hK10 K10
  refine wp_seq_k fun K14 hK14 => ?_
  refine wp_region_lit ?_
  refine seg ha 8 [(2, .int .i64 (Int.fdiv t8.1 (2 ^ (min (4 : Int).toNat IntKind.i64.bits)))), (3, .bool ((IntKind.i64.wrap (BitVec.ofInt IntKind.i64.bits t8.1 &&& BitVec.ofInt IntKind.i64.bits (1 : Int)).toNat) == (1 : Int))), (4, .int .i64 (0 : Int))] (by kernel_rfl) fun a ha => ?_
  refine hK14 _ _ ?_; try clear hK14 K14
  refine wp_ret ?_
  try simp only [Exit.then, Exit.inBlock]
  have o1 : Ok [] ([g5] ++ (M)) w8.heap.size := Ok.nil _ _
  have o2 : Ok (M) ([g5] ++ (M)) w8.heap.size := (fun _ h => .inl (mr (h)))
  have f9 := f9.chg (Chg.refl [] _) o1 o2
  have hBg5 := hBg5.chg (Chg.refl [] _) (fun h => nomatch h)
  have hM : MS (M) w8 := (fun x h => hM.chg (Chg.refl [] _) x (mr (h)))
  have hC := hC.trans (Chg.refl [] _) (Ok.nil _ _)
  obtain rfl := Option.some.inj H
  refine rt3 ha rfl rfl rfl rfl ?_
  exact ⟨rfl, hC, hM⟩
def vinerylaw05_LabelBack.f (k : Nat) (a0 : Int) (a1 : Bool) (a2 : List Int) : Option (Bool) := (vinerylaw05_small.f k ).bind fun t4 => (label_Bytes.f k a0 a1).bind fun t6 => lv (S := Unit) ((if (t6.2 == (0 : Int)) = true then (label_Read.f k t6.1).bind fun t26 => (if (if (if (t26.2.2 != (0 : Int)) = true then true else (t26.1 != a0)) = true then true else (!(t26.2.1 == a1))) = true then some (.inl (some ((false : Bool)))) else some (.inr ((() : Unit)))) else some (.inr ((() : Unit))))) fun s9 => (label_Read.f k a2).bind fun t11 => (if (t11.2.2 != (0 : Int)) = true then some ((if (if t4 = true then (t11.1 == (0 : Int)) else false) = true then (!t11.2.1) else false : Bool)) else (label_Bytes.f k t11.1 t11.2.1).bind fun t17 => ((if t4 = true then (if (t17.2 == (0 : Int)) = true then some ((bstr (b2s t17.1)).toList == (bstr (b2s a2)).toList : Bool) else some (false : Bool)) else some (false : Bool))).bind fun s20 => some ((s20 : Bool)))
set_option maxRecDepth 100000 in
theorem vinerylaw05_LabelBack.walk (w : World) (M : List Nat) (hM : MS M w) (a0 : Int) (a1 : Bool) (a2 : List Int) (ao1 : Option Addr) (cap1 : Nat) (f1 : RSl (rInt .u8) 5 w M ao1 cap1 a2) (k : Nat) (r : Bool) (H : vinerylaw05_LabelBack.f k a0 a1 a2 = some r) :
    To Try.prog 7 [.int .i64 a0, .bool a1, .slice ao1 a2.length cap1] w fun v w' => v = .bool r ∧ Chg [] w w' ∧ MS (M) w' := by
 unfold vinerylaw05_LabelBack.f at H
 refine ent Try.func7 rfl [(0, .int .i64 a0), (1, .bool a1), (2, .slice ao1 a2.length cap1)] rfl (by rfl) fun a ha => ?_
 have hC : Chg [] w w := Chg.refl _ _
 refine wp_seq_k fun K2 hK2 => ?_
 refine wp_region_lit ?_
 refine seg ha 1 [(0, .int .i64 a0), (1, .bool a1), (2, .slice ao1 a2.length cap1)] (by kernel_rfl) fun a ha => ?_
 refine hK2 _ _ ?_; try clear hK2 K2
 refine wp_seq_k fun K3 hK3 => ?_
 refine wp_region_lit ?_
 obtain ⟨t4, H4, H⟩ := bind_some H
 refine cl ha (by rfl) (by kernel_rfl) (by rfl) (by rfl) (by rfl) (vinerylaw05_small.walk w _ hM  k _ H4) ?_
 rintro _ w4 ⟨rfl, hc4, hMn⟩ a ha
 have o1 : Ok [] (M) w.heap.size := Ok.nil _ _
 have o2 : Ok (M) (M) w.heap.size := (Ok.refl _ _)
 have f1 := f1.chg hc4 o1 o2
 have hM : MS (M) w4 := (hM.chg hc4)
 have hC := hC.trans hc4 (Ok.nil _ _)
 refine seg ha 1 [(0, .int .i64 a0), (1, .bool a1), (2, .slice ao1 a2.length cap1), (7, .bool t4)] (by kernel_rfl) fun a ha => ?_
 refine hK3 _ _ ?_; try clear hK3 K3
 refine wp_seq_k fun K5 hK5 => ?_
 refine wp_region_lit ?_
 refine seg ha 2 [(0, .int .i64 a0), (1, .bool a1), (2, .slice ao1 a2.length cap1), (7, .bool t4), (20, .int .i64 a0), (21, .bool a1)] (by kernel_rfl) fun a ha => ?_
 obtain ⟨t6, H6, H⟩ := bind_some H
 refine cl ha (by rfl) (by kernel_rfl) (by rfl) (by rfl) (by rfl) (label_Bytes.walk w4 _ hM a0 a1 k _ H6) ?_
 rintro _ w6 ⟨ao7, cap7, rfl, f7, ne_i7, hc6, hMn⟩ a ha
 have o1 : Ok [] (M) w4.heap.size := Ok.nil _ _
 have o2 : Ok (blkL ao7 ++ (M)) (M) w4.heap.size := (Ok.app (fun x h => .inr (ne_i7 x h)) (Ok.refl _ _))
 have f1 := f1.chg hc6 o1 o2
 have p_i7_M : ∀ x ∈ blkL ao7, x ∉ M := fun x hx hy => absurd (hM x (hy)) (Nat.not_lt.2 (ne_i7 x hx))
 have e_i7 : ∀ x ∈ blkL ao7, w.heap.size ≤ x := fun x hx => Nat.le_trans hC.size (ne_i7 x hx)
 have hM : MS (blkL ao7 ++ (M)) w6 := (MS.app (fun x h => hMn x (ml h)) (hM.chg hc6))
 have hC := hC.trans hc6 (Ok.nil _ _)
 refine seg ha 5 [(0, .int .i64 a0), (1, .bool a1), (2, .slice ao1 a2.length cap1), (7, .bool t4), (8, .slice ao7 t6.1.length cap7), (9, .int .i64 t6.2)] (by kernel_rfl) fun a ha => ?_
 refine hK5 _ _ ?_; try clear hK5 K5
 refine wp_seq_k fun K8 hK8 => ?_
 obtain ⟨s9o, H9, H⟩ := lv_some H
 have J9 : ∀ (s9 : Unit) (a : Act) (w9 : World), s9o = .inr s9 → Has a Try.f7.ntmps [(2, .slice ao1 a2.length cap1), (7, .bool t4)] → (RSl (rInt .u8) 5 w9 (M) ao1 cap1 a2) → (Chg [] w w9) → (MS (M) w9) → K8 a w9 := by
  intro s9 a w9 hs ha f1 hC hM
  subst hs
  refine hK8 _ _ ?_; try clear hK8 K8
  refine wp_seq_k fun K10 hK10 => ?_
  refine wp_region_lit ?_
  refine seg ha 1 [(2, .slice ao1 a2.length cap1), (7, .bool t4), (46, .slice ao1 a2.length cap1)] (by kernel_rfl) fun a ha => ?_
  obtain ⟨t11, H11, H⟩ := bind_some H
  refine cl ha (by rfl) (by kernel_rfl) (by rfl) (by rfl) (by rfl) (label_Read.walk w9 _ hM a2 ao1 cap1 f1 k _ H11) ?_
  rintro _ w11 ⟨rfl, hc11, hMn⟩ a ha
  have o1 : Ok [] (M) w9.heap.size := Ok.nil _ _
  have o2 : Ok (M) (M) w9.heap.size := (Ok.refl _ _)
  have f1 := f1.chg hc11 o1 o2
  have hM : MS (M) w11 := (hM.chg hc11)
  have hC := hC.trans hc11 (Ok.nil _ _)
  refine seg ha 7 [(2, .slice ao1 a2.length cap1), (7, .bool t4), (13, .int .i64 t11.1), (14, .bool t11.2.1), (15, .int .i64 t11.2.2)] (by kernel_rfl) fun a ha => ?_
  refine hK10 _ _ ?_; try clear hK10 K10
  refine wp_seq_k fun K12 hK12 => ?_
  refine wp_seq_k fun K13 hK13 => ?_
  refine wp_region_lit ?_
  refine seg ha 2 [(2, .slice ao1 a2.length cap1), (7, .bool t4), (13, .int .i64 t11.1), (14, .bool t11.2.1), (52, .bool (t11.2.2 != (0 : Int)))] (by kernel_rfl) fun a ha => ?_
  refine hK13 _ _ ?_; try clear hK13 K13
  refine cnd ha rfl (fun hc14 => ?_) (fun hc14 => ?_)
  ·have H := ite_t hc14 H
   refine wp_seq_k fun K15 hK15 => ?_
   refine wp_region_lit ?_
   refine seg ha 10 [(6, .bool (if (if t4 = true then (t11.1 == (0 : Int)) else false) = true then (!t11.2.1) else false))] (by kernel_rfl) fun a ha => ?_
   refine hK15 _ _ ?_; try clear hK15 K15
   refine wp_ret ?_
   try simp only [Exit.then, Exit.inBlock]
   obtain rfl := Option.some.inj H
   refine rt1 ha rfl rfl ?_
   exact ⟨rfl, hC, hM⟩
  ·have H := ite_f hc14 H
   refine wp_skip ?_
   refine hK12 _ _ ?_; try clear hK12 K12
   refine wp_seq_k fun K16 hK16 => ?_
   refine wp_region_lit ?_
   refine seg ha 2 [(2, .slice ao1 a2.length cap1), (7, .bool t4), (63, .int .i64 t11.1), (64, .bool t11.2.1)] (by kernel_rfl) fun a ha => ?_
   obtain ⟨t17, H17, H⟩ := bind_some H
   refine cl ha (by rfl) (by kernel_rfl) (by rfl) (by rfl) (by rfl) (label_Bytes.walk w11 _ hM t11.1 t11.2.1 k _ H17) ?_
   rintro _ w17 ⟨ao18, cap18, rfl, f18, ne_i18, hc17, hMn⟩ a ha
   have o1 : Ok [] (M) w11.heap.size := Ok.nil _ _
   have o2 : Ok (blkL ao18 ++ (M)) (M) w11.heap.size := (Ok.app (fun x h => .inr (ne_i18 x h)) (Ok.refl _ _))
   have f1 := f1.chg hc17 o1 o2
   have p_i18_M : ∀ x ∈ blkL ao18, x ∉ M := fun x hx hy => absurd (hM x (hy)) (Nat.not_lt.2 (ne_i18 x hx))
   have e_i18 : ∀ x ∈ blkL ao18, w.heap.size ≤ x := fun x hx => Nat.le_trans hC.size (ne_i18 x hx)
   have hM : MS (blkL ao18 ++ (M)) w17 := (MS.app (fun x h => hMn x (ml h)) (hM.chg hc17))
   have hC := hC.trans hc17 (Ok.nil _ _)
   refine seg ha 5 [(2, .slice ao1 a2.length cap1), (7, .bool t4), (16, .slice ao18 t17.1.length cap18), (17, .int .i64 t17.2)] (by kernel_rfl) fun a ha => ?_
   refine hK16 _ _ ?_; try clear hK16 K16
   refine wp_seq_k fun K19 hK19 => ?_
   refine wp_region_lit ?_
   obtain ⟨s20, H20, H⟩ := bind_some H
   have J20 : ∀ (a : Act) (w20 : World), Has a Try.f7.ntmps [(6, .bool s20)] → (Chg [] w w20) → (MS (M) w20) → K19 a w20 := by
    intro a w20 ha hC hM
    refine hK19 _ _ ?_; try clear hK19 K19
    refine wp_ret ?_
    try simp only [Exit.then, Exit.inBlock]
    obtain rfl := Option.some.inj H
    refine rt1 ha rfl rfl ?_
    exact ⟨rfl, hC, hM⟩
   have H := H20
   refine seg ha 2 [(69, .bool t4), (2, .slice ao1 a2.length cap1), (16, .slice ao18 t17.1.length cap18), (17, .int .i64 t17.2)] (by kernel_rfl) fun a ha => ?_
   rcases Bool.eq_false_or_eq_true (t4) with hb21 | hb21
   ·have ha := ha.lit hb21
    have H := ite_t hb21 H
    refine sgh ha 4 [2, 2, 3, 0] [(73, .bool (t17.2 == (0 : Int))), (2, .slice ao1 a2.length cap1), (16, .slice ao18 t17.1.length cap18)] (by kernel_rfl) fun a ha => ?_
    rcases Bool.eq_false_or_eq_true (t17.2 == (0 : Int)) with hb22 | hb22
    ·have ha := ha.lit hb22
     have H := ite_t hb22 H
     refine sgh ha 1 [2] [(2, .slice ao1 a2.length cap1), (73, .bool true), (74, .slice ao18 t17.1.length cap18)] (by kernel_rfl) fun a ha => ?_
     refine cvs ha rfl (by kernel_rfl) (by kernel_rfl) (by kernel_rfl) rfl rfl rfl (Own.toRSl (M' := []) f18 (Ok.nil _ _) (fun _ _ h => nomatch h)) fun a ha => ?_
     refine sgh ha 1 [2] [(73, .bool true), (75, .string (bstr (b2s t17.1))), (76, .slice ao1 a2.length cap1)] (by kernel_rfl) fun a ha => ?_
     refine cvs ha rfl (by kernel_rfl) (by kernel_rfl) (by kernel_rfl) rfl rfl rfl f1 fun a ha => ?_
     refine sgh ha 3 [2, 3, 0] [(6, .bool ((bstr (b2s t17.1)).toList == (bstr (b2s a2)).toList))] (by kernel_rfl) fun a ha => ?_
     obtain rfl := Option.some.inj H
     have hM : MS (M) w17 := (fun x h => hM.chg (Chg.refl [] _) x (mr (h)))
     have hC := hC.trans (Chg.refl [] _) (Ok.nil _ _)
     exact J20 _ _ (ha.sel (by kernel_rfl)) hC hM
    ·have ha := ha.lit hb22
     have H := ite_f hb22 H
     refine sgh ha 7 [1, 1, 1, 1, 1, 4, 0] [(6, .bool false)] (by kernel_rfl) fun a ha => ?_
     obtain rfl := Option.some.inj H
     have hM : MS (M) w17 := (fun x h => hM.chg (Chg.refl [] _) x (mr (h)))
     have hC := hC.trans (Chg.refl [] _) (Ok.nil _ _)
     exact J20 _ _ (ha.sel (by kernel_rfl)) hC hM
   ·have ha := ha.lit hb21
    have H := ite_f hb21 H
    refine sgh ha 11 [1, 1, 4, 0, 1, 1, 1, 1, 1, 4, 0] [(6, .bool false)] (by kernel_rfl) fun a ha => ?_
    obtain rfl := Option.some.inj H
    have hM : MS (M) w17 := (fun x h => hM.chg (Chg.refl [] _) x (mr (h)))
    have hC := hC.trans (Chg.refl [] _) (Ok.nil _ _)
    exact J20 _ _ (ha.sel (by kernel_rfl)) hC hM
 have Hc9 := H
 have H := H9
 refine wp_seq_k fun K23 hK23 => ?_
 refine wp_region_lit ?_
 refine seg ha 2 [(0, .int .i64 a0), (1, .bool a1), (2, .slice ao1 a2.length cap1), (7, .bool t4), (8, .slice ao7 t6.1.length cap7), (26, .bool (t6.2 == (0 : Int)))] (by kernel_rfl) fun a ha => ?_
 refine hK23 _ _ ?_; try clear hK23 K23
 refine cnd ha rfl (fun hc24 => ?_) (fun hc24 => ?_)
 ·have H := ite_t hc24 H
  refine wp_seq_k fun K25 hK25 => ?_
  refine wp_region_lit ?_
  refine seg ha 1 [(0, .int .i64 a0), (1, .bool a1), (2, .slice ao1 a2.length cap1), (7, .bool t4), (28, .slice ao7 t6.1.length cap7)] (by kernel_rfl) fun a ha => ?_
  have hML : MS (M) w6 := MS.rest hM (fun _ h => mr (h))
  have oL : Ok (M) (blkL ao7 ++ (M)) w6.heap.size := (fun _ h => .inl (mr (h)))
  obtain ⟨t26, H26, H⟩ := bind_some H
  refine cl ha (by rfl) (by kernel_rfl) (by rfl) (by rfl) (by rfl) (label_Read.walk w6 _ hML t6.1 ao7 cap7 (Own.toRSl (M' := M) f7 oL (fun x hx hm => p_i7_M x hx hm)) k _ H26) ?_
  rintro _ w26 ⟨rfl, hc26, hMn⟩ a ha
  have o1 : Ok [] (blkL ao7 ++ (M)) w6.heap.size := Ok.nil _ _
  have o2 : Ok (blkL ao7 ++ (M)) (blkL ao7 ++ (M)) w6.heap.size := (Ok.refl _ _)
  have f1 := f1.chg hc26 o1 o2
  have f7 := f7.chg hc26 o1 o2 (fun _ _ h => nomatch h) (fun _ h => ml h)
  have hM : MS (blkL ao7 ++ (M)) w26 := (hM.chg hc26)
  have hC := hC.trans hc26 (Ok.nil _ _)
  refine seg ha 7 [(0, .int .i64 a0), (1, .bool a1), (2, .slice ao1 a2.length cap1), (7, .bool t4), (10, .int .i64 t26.1), (11, .bool t26.2.1), (12, .int .i64 t26.2.2)] (by kernel_rfl) fun a ha => ?_
  refine hK25 _ _ ?_; try clear hK25 K25
  refine wp_seq_k fun K27 hK27 => ?_
  refine wp_region_lit ?_
  refine seg ha 12 [(2, .slice ao1 a2.length cap1), (7, .bool t4), (44, .bool (if (if (t26.2.2 != (0 : Int)) = true then true else (t26.1 != a0)) = true then true else (!(t26.2.1 == a1))))] (by kernel_rfl) fun a ha => ?_
  refine hK27 _ _ ?_; try clear hK27 K27
  refine cnd ha rfl (fun hc28 => ?_) (fun hc28 => ?_)
  ·have H := ite_t hc28 H
   refine wp_seq_k fun K29 hK29 => ?_
   refine wp_region_lit ?_
   refine seg ha 1 [(6, .bool false)] (by kernel_rfl) fun a ha => ?_
   refine hK29 _ _ ?_; try clear hK29 K29
   refine wp_ret ?_
   obtain rfl := Option.some.inj H
   have H := Hc9
   try simp only [Exit.then, Exit.inBlock]
   have hM : MS (M) w26 := (fun x h => hM.chg (Chg.refl [] _) x (mr (h)))
   have hC := hC.trans (Chg.refl [] _) (Ok.nil _ _)
   obtain rfl := Option.some.inj H
   refine rt1 ha rfl rfl ?_
   exact ⟨rfl, hC, hM⟩
  ·have H := ite_f hc28 H
   refine wp_skip ?_
   obtain rfl := Option.some.inj H
   have o1 : Ok [] (blkL ao7 ++ (M)) w26.heap.size := Ok.nil _ _
   have o2 : Ok (M) (blkL ao7 ++ (M)) w26.heap.size := (fun _ h => .inl (mr (h)))
   have f1 := f1.chg (Chg.refl [] _) o1 o2
   have hM : MS (M) w26 := (fun x h => hM.chg (Chg.refl [] _) x (mr (h)))
   have hC := hC.trans (Chg.refl [] _) (Ok.nil _ _)
   exact J9 _ _ _ rfl (ha.sel (by kernel_rfl)) f1 hC hM
 ·have H := ite_f hc24 H
  refine wp_skip ?_
  obtain rfl := Option.some.inj H
  have o1 : Ok [] (blkL ao7 ++ (M)) w6.heap.size := Ok.nil _ _
  have o2 : Ok (M) (blkL ao7 ++ (M)) w6.heap.size := (fun _ h => .inl (mr (h)))
  have f1 := f1.chg (Chg.refl [] _) o1 o2
  have hM : MS (M) w6 := (fun x h => hM.chg (Chg.refl [] _) x (mr (h)))
  have hC := hC.trans (Chg.refl [] _) (Ok.nil _ _)
  exact J9 _ _ _ rfl (ha.sel (by kernel_rfl)) f1 hC hM
end Go.E
